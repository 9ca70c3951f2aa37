/- Texts put together: DenZh, DenZi, DenZk, DenZm, DenT, DenZn. -/
import Derived.Test.YtikkpecdkdgmfaaDoorMf
import Derived.ChangeArms
import Derived.ChangeOld
import Derived.WalkKit
import Derived.ProofKit
import Derived.OpenShut
import Derived.Lay
import Derived.Handed
import Derived.Stop.Joined
import Derived.Lib.LaidU8
import Derived.Lib.MakeNoZero

/- DEN, part Zh: what a call from outside is handed: an argument as the row's reader reads it stands for a value of memory that does not change. -/
namespace Go.Den
open Go.RowKit

/-- A value of a type made of numbers, bools, texts, slices, structs, arrays. -/
def Ty (P : Program) : Nat → TypeId → AV → Prop
  | 0, _, _ => False
  | n + 1, t, v =>
    match P.underlying t with
    | some .bool => ∃ b, v = .bool b
    | some (.int k) => ∃ i, v = .int k i ∧ k.min ≤ i ∧ i ≤ k.max
    | some .string => ∃ l : List UInt8, v = .str l ∧ l.length ≤ maxLen
    | some (.slice e) => v = .nils ∨ ∃ es : List AV, v = .sh (P.cellsOf e) es ∧ es.length ≤ maxLen ∧ ∀ x ∈ es, Ty P n e x
    | some (.struct fs) => ∃ vs : List AV, v = .agg (vs.flatMap AV.cells) ∧ vs.length = fs.size ∧ ∀ (i : Nat) (f : Field) (x : AV), fs[i]? = some f → vs[i]? = some x → Ty P n f.type x ∧ x.cells.length = P.cellsOf f.type
    | some (.array m e) => ∃ vs : List AV, v = .agg (vs.flatMap AV.cells) ∧ vs.length = m ∧ ∀ x ∈ vs, Ty P n e x ∧ x.cells.length = P.cellsOf e
    | _ => False

def contig (P : Program) : Nat → List Field → Option Nat
  | off, [] => some off
  | off, f :: fs => if f.offset = off then contig P (off + P.cellsOf f.type) fs else none

def tyOk (P : Program) (ts : List TypeId) (t : TypeId) : Bool :=
  match P.underlying t with
  | some .bool | some (.int _) | some .string => true
  | some (.slice e) => ts.contains e && decide (0 < P.cellsOf e)
  | some (.struct fs) => fs.toList.all (fun f => ts.contains f.type) && decide (contig P 0 fs.toList = some (P.cellsOf t))
  | some (.array n e) => ts.contains e && decide (n * P.cellsOf e = P.cellsOf t)
  | _ => false

def immK (W : World) : Nat → Role := fun b => if b < W.heap.size then .imm else .oth

section
variable {H : Type} {enc : TypeId × Value → H} {P : Program} {W : World} {sp : Nat → Bool} {hd : Bool}

/-- Is it a struct or an array? -/
def aggTy (P : Program) (t : TypeId) : Bool := match P.underlying t with | some (.struct _) | some (.array _ _) => true | _ => false

theorem Vs.join {C : Ctx} {p : Bool} : ∀ {vs : List AV} {css : List (List Value)}, vs.length = css.length → (∀ (i : Nat) (v : AV) (cs : List Value), vs[i]? = some v → css[i]? = some cs → Vs C p v.cells cs) → Vs C p (vs.flatMap AV.cells) css.flatten
  | [], [], _, _ => .nil _
  | [], _ :: _, h, _ => by simp at h
  | _ :: _, [], h, _ => by simp at h
  | v :: vs, cs :: css, hl, h => by
    simp only [List.flatMap_cons, List.flatten_cons]
    exact (h 0 v cs rfl rfl).append (Vs.join (by simpa using hl) fun i v' cs' h1 h2 => h (i + 1) v' cs' (by simpa using h1) (by simpa using h2))

/-- Of each place something: a list of these. -/
theorem choose_list {α β : Type} {n : Nat} {R : Nat → α → β → Prop} (h : ∀ i, i < n → ∃ a b, R i a b) : ∃ (zs : List α) (bs : List β), zs.length = n ∧ bs.length = n ∧ ∀ (i : Nat) (a : α) (b : β), zs[i]? = some a → bs[i]? = some b → R i a b := by
  induction n with
  | zero => exact ⟨[], [], rfl, rfl, fun i a b h => by simp at h⟩
  | succ n ih =>
    obtain ⟨zs, bs, h1, h2, h3⟩ := ih fun i hi => h i (by omega)
    obtain ⟨a, b, hab⟩ := h n (by omega)
    refine ⟨zs ++ [a], bs ++ [b], by simp [h1], by simp [h2], fun i x y hx hy => ?_⟩
    rcases Nat.lt_trichotomy i n with hi | hi | hi
    · rw [List.getElem?_append_left (by omega)] at hx hy
      exact h3 i x y hx hy
    · subst hi
      rw [List.getElem?_append_right (by omega)] at hx hy
      simp only [h1, h2, Nat.sub_self, List.getElem?_cons_zero, Option.some.injEq] at hx hy
      subst hx hy
      exact hab
    · rw [List.getElem?_append_right (by omega), List.getElem?_eq_none (by simp; omega)] at hx
      cases hx

theorem flatten_pieces {cs : List Value} : ∀ {css : List (List Value)} {n : Nat}, (∀ (i : Nat) (c : List Value), css[i]? = some c → c = (cs.drop (i * n)).take n) → css.length * n = cs.length → css.flatten = cs := by
  intro css n
  induction css generalizing cs with
  | nil =>
    intro _ hl
    cases cs with
    | nil => rfl
    | cons _ _ => simp at hl
  | cons c css ih =>
    intro h hl
    have h0 := h 0 c rfl
    simp only [Nat.zero_mul, List.drop_zero] at h0
    have := ih (cs := cs.drop n) (fun i c' hc => by
      have := h (i + 1) c' (by simpa using hc)
      rw [this, List.drop_drop, Nat.add_mul, Nat.one_mul, Nat.add_comm]) (by
      simp only [List.length_cons, Nat.add_mul, Nat.one_mul] at hl
      simp only [List.length_drop]
      omega)
    rw [List.flatten_cons, this, h0, List.take_append_drop]

theorem contig_flatten {cs : List Value} : ∀ {fs : List Field} {css : List (List Value)} {off tot : Nat}, contig P off fs = some tot → css.length = fs.length →
    (∀ (i : Nat) (f : Field) (c : List Value), fs[i]? = some f → css[i]? = some c → c = (cs.drop f.offset).take (P.cellsOf f.type)) → css.flatten = (cs.drop off).take (tot - off) ∧ off ≤ tot
  | [], [], off, tot, h, _, _ => by
    simp only [contig, Option.some.injEq] at h
    subst h
    simp
  | [], _ :: _, _, _, _, h, _ => by simp at h
  | _ :: _, [], _, _, _, h, _ => by simp at h
  | f :: fs, c :: css, off, tot, h, hl, hp => by
    unfold contig at h
    split at h
    · rename_i ho
      obtain ⟨h1, h2⟩ := contig_flatten (cs := cs) h (by simpa using hl) fun i f' c' hf hc => hp (i + 1) f' c' (by simpa using hf) (by simpa using hc)
      have h0 := hp 0 f c rfl rfl
      rw [List.flatten_cons, h1, h0, ho]
      refine ⟨?_, by omega⟩
      have : tot - off = P.cellsOf f.type + (tot - (off + P.cellsOf f.type)) := by omega
      rw [this, List.take_add, List.drop_drop]
    · cases h

/-- What the reader reads. -/
theorem trod_V {ts : List TypeId} (hts : ∀ t ∈ ts, tyOk P ts t = true) : ∀ (fuel : Nat) (t : TypeId) (cs : List Value) (x : DataW H × List MemPlace), t ∈ ts → DataW.trod enc P W 0 sp hd fuel t cs = some x →
    ∃ v, Ty P fuel t v ∧ (∀ c ∈ v.cells, c.one = true) ∧ Vs (.outer W (immK W)) true v.cells cs ∧ (aggTy P t = true → v = .agg v.cells) ∧ (aggTy P t = false → v.cells = [v]) := by
  intro fuel
  induction fuel with
  | zero => intro t cs x _ h; simp [DataW.trod] at h
  | succ fuel ih =>
    intro t cs x ht h
    have hok := hts t ht
    unfold tyOk at hok
    unfold Ty aggTy
    split at hok
    · rename_i hu
      obtain ⟨b, rfl, _⟩ := DataW.trod_bool hu h
      rw [hu]
      exact ⟨.bool b, ⟨b, rfl⟩, by simp [AV.cells, AV.one], .cons _ _ _ _ _ (.bool _ _) (.nil _), by simp, by simp [AV.cells]⟩
    · rename_i k hu
      obtain ⟨n, rfl, _, hw⟩ := DataW.trod_int hu h
      rw [hu]
      simp only [Lit.wf, Bool.and_eq_true, decide_eq_true_eq] at hw
      exact ⟨.int k n, ⟨n, rfl, hw⟩, by simp [AV.cells, AV.one], .cons _ _ _ _ _ (.int _ _ _) (.nil _), by simp, by simp [AV.cells]⟩
    · rename_i hu
      obtain ⟨s, rfl, _, hs⟩ := DataW.trod_string hu h
      rw [hu]
      exact ⟨.str s.data.toList, ⟨_, rfl, by simpa using hs⟩, by simp [AV.cells, AV.one], .cons _ _ _ _ _ (.str _ _) (.nil _), by simp, by simp [AV.cells]⟩
    · rename_i e hu
      simp only [Bool.and_eq_true, List.contains_iff_mem, decide_eq_true_eq] at hok
      rw [hu]
      dsimp only
      rcases DataW.trod_slice hu h with ⟨rfl, _⟩ | ⟨a, len, cap, elems, rest, n, hn, rfl, _, _, hlc, hcap, hel, hget, _, _⟩
      · exact ⟨.nils, .inl rfl, by simp [AV.cells, AV.one], .cons _ _ _ _ _ (.nils _) (.nil _), by simp, by simp [AV.cells]⟩
      · injection hn with hn
        subst hn
        have hR : ∀ i, i < len → ∃ v cs, W.cells? 0 (a.add (i * P.cellsOf e)) (P.cellsOf e) = some cs ∧ Ty P fuel e v ∧ (∀ c ∈ v.cells, c.one = true) ∧ Vs (.outer W (immK W)) true v.cells cs := fun i hi => by
          have := hget i hi
          rw [List.getElem?_eq_getElem (by omega)] at this
          simp only [Option.bind_eq_some_iff] at this
          obtain ⟨cs, h1, h2⟩ := this
          obtain ⟨v, g1, g2, g3, _⟩ := ih e cs _ hok.1 h2
          exact ⟨v, cs, h1, g1, g2, g3⟩
        obtain ⟨vs, css, hl1, hl2, hall⟩ := choose_list hR
        have hz : ∀ (i : Nat) (v : AV) (cs : List Value), vs[i]? = some v → css[i]? = some cs → cs.length = P.cellsOf e ∧ v.cells.length = P.cellsOf e := fun i v cs h1 h2 => by
          obtain ⟨g1, _, _, g4⟩ := hall i v cs h1 h2
          have := (World.cells?_some g1).2.1
          exact ⟨this, by rw [← g4.length]; exact this⟩
        have pairOf : ∀ (i : Nat) (v : AV), vs[i]? = some v → ∃ cs, css[i]? = some cs := fun i v h1 => by
          obtain ⟨hlt, _⟩ := List.getElem?_eq_some_iff.1 h1
          exact ⟨_, List.getElem?_eq_getElem (by omega)⟩
        have hmem : ∀ v ∈ vs, ∃ (i : Nat) (cs : List Value), vs[i]? = some v ∧ css[i]? = some cs := fun v hv => by
          obtain ⟨i, hi, e⟩ := List.mem_iff_getElem.1 hv
          have h1 : vs[i]? = some v := by rw [List.getElem?_eq_getElem hi, e]
          obtain ⟨cs, h2⟩ := pairOf i v h1
          exact ⟨i, cs, h1, h2⟩
        refine ⟨.sh (P.cellsOf e) vs, .inr ⟨vs, rfl, by omega, fun v hv => ?_⟩, by simp [AV.cells, AV.one], ?_, by simp, by simp [AV.cells]⟩
        · obtain ⟨i, cs, h1, h2⟩ := hmem v hv
          exact (hall i v cs h1 h2).2.1
        · have hlen : vs.length = len := hl1
          have hj : Vs (.outer W (immK W)) true (vs.flatMap AV.cells) css.flatten := Vs.join (by omega) fun i v cs h1 h2 => (hall i v cs h1 h2).2.2.2
          have hcell : ∀ j u, css.flatten[j]? = some u → W.cell? (a.add j) = some u := by
            intro j u hju
            have hpos := hok.2
            have hq : j / P.cellsOf e < css.length ∧ ∃ c, css[j / P.cellsOf e]? = some c ∧ c[j % P.cellsOf e]? = some u := by
              have gen : ∀ (l : List (List Value)) (j : Nat), (∀ c ∈ l, c.length = P.cellsOf e) → l.flatten[j]? = some u → j / P.cellsOf e < l.length ∧ ∃ c, l[j / P.cellsOf e]? = some c ∧ c[j % P.cellsOf e]? = some u := by
                intro l
                induction l with
                | nil => intro j _ h; simp at h
                | cons c l ihl =>
                  intro j hc h
                  have hcl := hc c List.mem_cons_self
                  rw [List.flatten_cons] at h
                  rcases Nat.lt_or_ge j c.length with hlt | hge
                  · rw [List.getElem?_append_left hlt] at h
                    have e1 : j / P.cellsOf e = 0 := Nat.div_eq_of_lt (by omega)
                    have e2 : j % P.cellsOf e = j := Nat.mod_eq_of_lt (by omega)
                    rw [e1, e2]
                    exact ⟨by simp, c, by simp, h⟩
                  · rw [List.getElem?_append_right hge] at h
                    obtain ⟨g1, c', g2, g3⟩ := ihl (j - c.length) (fun c' hc' => hc c' (List.mem_cons_of_mem _ hc')) h
                    have e1 : j / P.cellsOf e = (j - c.length) / P.cellsOf e + 1 := by
                      rw [hcl, Nat.div_eq_sub_div hpos (by omega)]
                    have e2 : j % P.cellsOf e = (j - c.length) % P.cellsOf e := by
                      rw [hcl, Nat.mod_eq_sub_mod (by omega)]
                    rw [e1, e2]
                    exact ⟨by simpa using g1, c', by simpa using g2, g3⟩
              refine gen css j (fun c hc => ?_) hju
              obtain ⟨i, hi, e⟩ := List.mem_iff_getElem.1 hc
              have h2 : css[i]? = some c := by rw [List.getElem?_eq_getElem hi, e]
              have h1 : vs[i]? = some (vs[i]'(by omega)) := List.getElem?_eq_getElem _
              exact (hz i _ c h1 h2).1
            obtain ⟨hq1, c, hq2, hq3⟩ := hq
            have h1 : vs[j / P.cellsOf e]? = some (vs[j / P.cellsOf e]'(by omega)) := List.getElem?_eq_getElem _
            have h3 := (hall _ _ c h1 hq2).1
            have h4 := (World.cells?_some h3).2.2 (j % P.cellsOf e) (Nat.mod_lt _ hpos)
            rw [hq3] at h4
            rw [add_add, Nat.mul_comm, Nat.div_add_mod] at h4
            exact h4
          have hsh := V.sh (C := .outer W (immK W)) true (P.cellsOf e) vs a cap css.flatten hj (fun v hv => by
            obtain ⟨i, cs, h1, h2⟩ := hmem v hv
            exact ⟨(hz i v cs h1 h2).2, (hall i v cs h1 h2).2.2.1⟩) hcell (fun hne => by
              have hlt : 0 < len := by
                rw [← hlen]
                cases vs with
                | nil => exact absurd rfl hne
                | cons _ _ => simp
              obtain ⟨v, cs, h1, _⟩ := hR 0 hlt
              have hb := World.cells?_block h1 hok.2
              have hab : (a.add (0 * P.cellsOf e)).block = a.block := by unfold Addr.add; split <;> rfl
              rw [hab] at hb
              exact ⟨if_pos hb, hb⟩) (by omega) hcap
          rw [hlen] at hsh
          exact .cons _ _ _ _ _ hsh (.nil _)
    · rename_i fs hu
      simp only [Bool.and_eq_true, List.all_eq_true, List.contains_iff_mem, decide_eq_true_eq] at hok
      rw [hu]
      dsimp only
      obtain ⟨xs, n, hn, _, hcl, hxl, hget⟩ := DataW.trod_struct hu h
      injection hn with hn
      subst hn
      have hR : ∀ i : Nat, i < fs.size → ∃ (v : AV) (c : List Value), ∀ f : Field, fs[i]? = some f → c = (cs.drop f.offset).take (P.cellsOf f.type) ∧ Ty P fuel f.type v ∧ (∀ c ∈ v.cells, c.one = true) ∧ Vs (.outer W (immK W)) true v.cells c := fun i hi => by
        have hf : fs[i]? = some fs[i] := Array.getElem?_eq_getElem hi
        have := hget i _ hf
        rw [List.getElem?_eq_getElem (by omega)] at this
        have hmem : fs[i].type ∈ ts := hok.1 _ (Array.mem_toList_iff.2 (Array.getElem_mem hi))
        obtain ⟨v, g1, g2, g3, _⟩ := ih _ _ _ hmem this
        refine ⟨v, (cs.drop fs[i].offset).take (P.cellsOf fs[i].type), fun f hf' => ?_⟩
        rw [hf] at hf'
        injection hf' with hf'
        subst hf'
        exact ⟨rfl, g1, g2, g3⟩
      obtain ⟨vs, css, hl1, hl2, hall⟩ := choose_list hR
      have hfl : css.flatten = cs := by
        have := (contig_flatten (cs := cs) hok.2 (by simpa using hl2) fun i f c hf hc => by
          have hf' : fs[i]? = some f := by simpa using hf
          obtain ⟨hlt, _⟩ := List.getElem?_eq_some_iff.1 hc
          have h1 : vs[i]? = some (vs[i]'(by omega)) := List.getElem?_eq_getElem _
          exact (hall i _ c h1 hc f hf').1).1
        rw [this, ← hcl]
        simp
      have hfld : ∀ (i : Nat) (v : AV) (c : List Value), vs[i]? = some v → css[i]? = some c → ∃ f, fs[i]? = some f := fun i v c h1 h2 => by
        obtain ⟨hlt, _⟩ := List.getElem?_eq_some_iff.1 h1
        exact ⟨_, Array.getElem?_eq_getElem (by omega)⟩
      have hj : Vs (.outer W (immK W)) true (vs.flatMap AV.cells) css.flatten := Vs.join (by omega) fun i v c h1 h2 => by
        obtain ⟨f, hf⟩ := hfld i v c h1 h2
        exact (hall i v c h1 h2 f hf).2.2.2
      have hone : ∀ c ∈ vs.flatMap AV.cells, c.one = true := fun c hc => by
        obtain ⟨v, hv, hcv⟩ := List.mem_flatMap.1 hc
        obtain ⟨i, hi, e⟩ := List.mem_iff_getElem.1 hv
        have h1 : vs[i]? = some v := by rw [List.getElem?_eq_getElem hi, e]
        have h2 : css[i]? = some (css[i]'(by omega)) := List.getElem?_eq_getElem _
        obtain ⟨f, hf⟩ := hfld i v _ h1 h2
        exact (hall i v _ h1 h2 f hf).2.2.1 c hcv
      rw [hfl] at hj
      refine ⟨.agg (vs.flatMap AV.cells), ⟨vs, rfl, by omega, fun i f x hf hx => ?_⟩, hone, hj, fun _ => rfl, by simp⟩
      have h2 : css[i]? = some (css[i]'(by obtain ⟨hlt, _⟩ := List.getElem?_eq_some_iff.1 hx; omega)) := List.getElem?_eq_getElem _
      obtain ⟨g0, g1, _, g3⟩ := hall i x _ hx h2 f hf
      refine ⟨g1, ?_⟩
      have hxl' := g3.length
      have hq : xs[i]? = some (xs[i]'(by obtain ⟨hlt, _⟩ := List.getElem?_eq_some_iff.1 hx; omega)) := List.getElem?_eq_getElem _
      have hfo : f.offset + P.cellsOf f.type ≤ cs.length := by
        have gen : ∀ (l : List Field) (off tot i : Nat) (f : Field), contig P off l = some tot → l[i]? = some f → f.offset + P.cellsOf f.type ≤ tot := by
          intro l
          induction l with
          | nil => intro off tot i f _ h; simp at h
          | cons a l ihl =>
            intro off tot i f hc hi
            unfold contig at hc
            split at hc
            · rename_i ho
              cases i with
              | zero =>
                simp only [List.getElem?_cons_zero, Option.some.injEq] at hi
                subst hi
                have : ∀ (l : List Field) (off tot : Nat), contig P off l = some tot → off ≤ tot := by
                  intro l
                  induction l with
                  | nil => intro off tot h; simp only [contig, Option.some.injEq] at h; omega
                  | cons b l ihb =>
                    intro off tot h
                    unfold contig at h
                    split at h
                    · have := ihb _ _ h
                      omega
                    · cases h
                have := this _ _ _ hc
                omega
              | succ i => exact ihl _ _ i f hc (by simpa using hi)
            · cases hc
        rw [hcl]
        exact gen _ _ _ i f hok.2 (by simpa using hf)
      rw [← hxl', g0]
      simp
      omega
    · rename_i m e hu
      simp only [Bool.and_eq_true, List.contains_iff_mem, decide_eq_true_eq] at hok
      rw [hu]
      dsimp only
      obtain ⟨xs, n, hn, _, hcl, hxl, hget⟩ := DataW.trod_array hu h
      injection hn with hn
      subst hn
      have hR : ∀ i, i < m → ∃ (v : AV) (c : List Value), c = (cs.drop (i * P.cellsOf e)).take (P.cellsOf e) ∧ Ty P fuel e v ∧ (∀ c ∈ v.cells, c.one = true) ∧ Vs (.outer W (immK W)) true v.cells c := fun i hi => by
        have := hget i hi
        rw [List.getElem?_eq_getElem (by omega)] at this
        obtain ⟨v, g1, g2, g3, _⟩ := ih _ _ _ hok.1 this
        exact ⟨v, _, rfl, g1, g2, g3⟩
      obtain ⟨vs, css, hl1, hl2, hall⟩ := choose_list hR
      have pr : ∀ (i : Nat) (v : AV), vs[i]? = some v → ∃ c, css[i]? = some c := fun i v h1 => by
        obtain ⟨hlt, _⟩ := List.getElem?_eq_some_iff.1 h1
        exact ⟨_, List.getElem?_eq_getElem (by omega)⟩
      have hfl : css.flatten = cs := flatten_pieces (fun i c hc => by
        obtain ⟨hlt, _⟩ := List.getElem?_eq_some_iff.1 hc
        have h1 : vs[i]? = some (vs[i]'(by omega)) := List.getElem?_eq_getElem _
        exact (hall i _ c h1 hc).1) (by rw [hl2, hcl]; exact hok.2)
      have hj : Vs (.outer W (immK W)) true (vs.flatMap AV.cells) css.flatten := Vs.join (by omega) fun i v c h1 h2 => (hall i v c h1 h2).2.2.2
      have hone : ∀ c ∈ vs.flatMap AV.cells, c.one = true := fun c hc => by
        obtain ⟨v, hv, hcv⟩ := List.mem_flatMap.1 hc
        obtain ⟨i, hi, e⟩ := List.mem_iff_getElem.1 hv
        have h1 : vs[i]? = some v := by rw [List.getElem?_eq_getElem hi, e]
        obtain ⟨c', h2⟩ := pr i v h1
        exact (hall i v _ h1 h2).2.2.1 c hcv
      rw [hfl] at hj
      refine ⟨.agg (vs.flatMap AV.cells), ⟨vs, rfl, hl1, fun v hv => ?_⟩, hone, hj, fun _ => rfl, by simp⟩
      obtain ⟨i, hi, e'⟩ := List.mem_iff_getElem.1 hv
      have h1 : vs[i]? = some v := by rw [List.getElem?_eq_getElem hi, e']
      obtain ⟨c, h2⟩ := pr i v h1
      obtain ⟨g0, g1, _, g3⟩ := hall i v c h1 h2
      refine ⟨g1, ?_⟩
      have hxl' := g3.length
      rw [← hxl', g0]
      have him : i < m := by omega
      have : i * P.cellsOf e + P.cellsOf e ≤ cs.length := by
        rw [hcl, ← hok.2]
        have := Nat.mul_le_mul_right (P.cellsOf e) (Nat.succ_le_of_lt him)
        rw [Nat.succ_mul] at this
        exact this
      simp
      omega
    · cases hok

/-- An argument. -/
theorem arg_V {ts : List TypeId} (hts : ∀ t ∈ ts, tyOk P ts t = true) {t : TypeId} (ht : t ∈ ts) {r : Reach} {base : Nat} {u : Value} {d : DataW H} {ps : List MemPlace}
    (h : DataW.Trod enc P W 0 sp hd t u d ps) (hv : Value.okWide P W r base t u) : ∃ n v, Ty P n t v ∧ V (.outer W (immK W)) true v u := by
  obtain ⟨n, hn⟩ := h
  obtain ⟨v, g1, g2, g3, g4, g5⟩ := trod_V hts n t _ _ ht hn
  refine ⟨n, v, g1, ?_⟩
  have hok := hts t ht
  cases ha : aggTy P t with
  | true =>
    have : ∃ cs, u = .agg cs := by
      unfold aggTy at ha
      unfold Value.okWide at hv
      cases hu : P.underlying t with
      | none => rw [hu] at ha; cases ha
      | some d =>
        rw [hu] at ha hv
        cases d <;> first | (cases ha; done) | (obtain ⟨cs, h, _⟩ := hv; exact ⟨cs, h⟩)
    obtain ⟨cs, rfl⟩ := this
    rw [g4 ha]
    exact .agg _ _ _ g2 g3
  | false =>
    rw [g5 ha] at g3
    cases hu : u with
    | agg cs =>
      exfalso
      subst hu
      unfold aggTy at ha
      unfold Value.okWide at hv
      unfold Cell.okWide Cell.ok at hv
      cases hq : P.underlying t with
      | none => rw [hq] at hv; exact hv
      | some d =>
        rw [hq] at ha hv
        cases d <;> first | (cases ha; done) | exact hv
    | _ =>
      subst hu
      simp only [Value.cells] at g3
      cases g3 with
      | cons _ _ _ _ _ h1 _ => exact h1

end
end Go.Den

/- DEN, part Zi: a law with arguments, from what its reading answers. -/
namespace Go.Den
open Go.RowKit Go.ChangeShapes Go.WideShapes Go.ChangeAt

section
variable {H : Type} {enc : TypeId × Value → H} {P : Program} {W : World}

theorem args_V {ts : List TypeId} (hts : ∀ t ∈ ts, tyOk P ts t = true) {r : Reach} {base : Nat} : ∀ (qs : List TypeId) (us : List Value) (ds : List (DataW H)) (ps : List MemPlace), (∀ t ∈ qs, t ∈ ts) →
    DataW.TrodAll enc P W 0 (fun _ => true) true qs us ds ps → (∀ (j : Nat) t v, qs[j]? = some t → us[j]? = some v → Value.okWide P W r base t v) →
    ds.length = qs.length ∧ ∃ vs, Vs (.outer W (immK W)) true vs us ∧ vs.length = qs.length ∧ ∀ (j : Nat) t v, qs[j]? = some t → vs[j]? = some v → ∃ n, Ty P n t v
  | [], [], [], _, _, _, _ => ⟨rfl, [], .nil _, rfl, fun j t v h => by simp at h⟩
  | t :: qs, u :: us, d :: ds, _, hq, h, hv => by
    obtain ⟨p, q, h1, h2, _⟩ := h
    obtain ⟨hl, vs, g1, g2, g3⟩ := args_V hts qs us ds q (fun t ht => hq t (List.mem_cons_of_mem _ ht)) h2 fun j t v h1 h2 => hv (j + 1) t v (by simpa using h1) (by simpa using h2)
    obtain ⟨n, v, k1, k2⟩ := arg_V hts (hq t List.mem_cons_self) h1 (hv 0 t u rfl rfl)
    refine ⟨by simp [hl], v :: vs, .cons _ _ _ _ _ k2 g1, by simp [g2], fun j t' v' hj hj' => ?_⟩
    cases j with
    | zero =>
      simp only [List.getElem?_cons_zero, Option.some.injEq] at hj hj'
      subst hj hj'
      exact ⟨n, k1⟩
    | succ j => exact g3 j t' v' (by simpa using hj) (by simpa using hj')
  | [], _ :: _, _, _, _, h, _ => by cases h
  | [], [], _ :: _, _, _, h, _ => by cases h
  | _ :: _, [], _, _, _, h, _ => by cases h
  | _ :: _, _ :: _, [], _, _, h, _ => by cases h

/-- The arguments read as they did. -/
theorem args_stay (hl : laidOutB P = true) {W' : World} (hb : Below W.heap.size W W') : ∀ (qs : List TypeId) (us : List Value) (ds : List (DataW H)) (ps : List MemPlace), (∀ t ∈ qs, P.readableRec t = true ∧ t < P.types.size) →
    DataW.TrodAll enc P W 0 (fun _ => true) true qs us ds ps → DataW.TrodAll enc P W' 0 (fun b => decide (b < W.heap.size)) true qs us ds ps
  | [], [], [], _, _, h => h
  | t :: qs, u :: us, d :: ds, _, hq, h => by
    obtain ⟨p, q, h1, h2, e⟩ := h
    have hlt : ∀ x ∈ p, x.block < W.heap.size := by
      obtain ⟨n, hn⟩ := h1
      exact DataW.trod_lt n _ _ _ hn
    exact ⟨p, q, Below.trod hl (hq t List.mem_cons_self).1 (hq t List.mem_cons_self).2 h1 hb hlt, args_stay hl hb qs us ds q (fun t ht => hq t (List.mem_cons_of_mem _ ht)) h2, e⟩
  | [], _ :: _, _, _, _, h => by cases h
  | [], [], _ :: _, _, _, h => by cases h
  | _ :: _, [], _, _, _, h => by cases h
  | _ :: _, _ :: _, [], _, _, h => by cases h
end

/-- A law, from outside. -/
theorem law_calls {E : Env} {n : Nat} (hcf : CallOK E (callF E n)) (hg : ∀ g, E.glob g = none) {f : FuncId} {W : World} {vs : List AV} {us : Array Value} (hv : Vs (.outer W (immK W)) true vs us.toList)
    (h : answer E n f vs = some (.bool true)) {fn : Func} {c : Code} (hfn : E.P.funcs[f]? = some fn) (hb : fn.body = some c) :
    Calls E.P f us W fun e w' => e = .returned (.bool true) ∧ Below W.heap.size W w' := by
  have hk : ∀ b, immK W b = .imm ∨ immK W b = .oth := fun b => by
    unfold immK
    split
    · exact .inl rfl
    · exact .inr rfl
  have hr : HR E (.outer W (immK W)) := outer_hr (fun b hb => by unfold immK; rw [if_neg (by omega)]) fun g cs hg' => by rw [hg g] at hg'; cases hg'
  have := outer_calls hcf (us := us) hr (fun b s e => by rcases hk b with h | h <;> (have e' : immK W b = .loc s := e; rw [h] at e'; cases e')) hv.weaken h
  rcases this with ⟨_, h2⟩ | ⟨u, w', h1, _⟩
  · refine Calls.mono h2 fun e w' ⟨u, he, C', hw, hv, ev, _⟩ => ?_
    subst hw
    rw [he, hv.bool_inv]
    exact ⟨rfl, ev.below hk⟩
  · exfalso
    have hpr : program.run E.P W = .ok E.P W := rfl
    unfold callFunc at h1
    simp only [Sem.run_bind, hpr, Result.andThen_ok, hfn] at h1
    split at h1
    · cases h1
    · rw [if_neg (by simp [hb])] at h1
      cases h1

theorem law_lifted {E : Env} {C : Checked} {os : Os} {f : FuncId} {fn : Func} {c : Code} {s : ChangeSpec} {conds : List PathCond} {H : Type} {enc : TypeId × Value → H} {tb : TypeId}
    (hP : E.P = C.prog) (hg : ∀ g, E.glob g = none) (hcf : ∀ n, CallOK E (callF E n))
    (own : ownKnob C.prog.godebug = none) (started : os.Started) (noInit : C.prog.inits.idxOf? f = none) (hfn : C.prog.funcs[f]? = some fn) (hb : fn.body = some c)
    (witness : ∃ (w : World) (tape : Tape) (i : Input), w.os = os ∧ (w.forCall tape i).Shaped C.prog ∧ i.vars = [] ∧ Input.okWide C.prog (w.forCall tape i) .any w.heap.size f i ∧
      s.pre6 enc C.prog fn conds false (w.forCall tape i).memory i.args ∧ ({} : Assume).holds C.prog (lone (Frame.enter C.prog f i.args .normal) [] (w.forCall tape i)))
    (hl : laidOutB C.prog = true) (hvars : s.vars = []) (hs : ∀ (H : Type) (ds : List (DataW H)), ds.length = fn.params.size → s.fn H ds = { results := [.lit (.bool true)], args := ds })
    (hres : fn.resultTypes = #[tb]) (htb : C.prog.underlying tb = some .bool)
    {ts : List TypeId} (hts : ∀ t ∈ ts, tyOk C.prog ts t = true) (hpar : ∀ t ∈ fn.params.toList, t ∈ ts ∧ C.prog.readableRec t = true ∧ t < C.prog.types.size)
    (law : ∀ vs : List AV, vs.length = fn.params.size → (∀ (j : Nat) t v, fn.params[j]? = some t → vs[j]? = some v → ∃ n, Ty C.prog n t v) → ∃ n, answer E n f vs = some (.bool true)) :
    ReturnsInHanded {} C os f .any (s.pre6 enc C.prog fn conds false) (s.post enc C.prog fn false true false false) := by
  refine returnsInHanded_of_change (C := C) own started noInit hfn witness ?_
  intro W base args ds gs before hval0 hW hcnd _
  have hW' := hW
  obtain ⟨p, q, hA0, hV, hpq, hfz, hnd⟩ := hW
  rw [hvars] at hV
  obtain ⟨rfl, rfl⟩ := trodVars_none hV
  obtain ⟨hlen, vs, h1, h2, h3⟩ := args_V hts fn.params.toList args.toList ds p (fun t ht => (hpar t ht).1) hA0 fun j t v hj hj' => hval0 j t v (by simpa using hj) (by simpa using hj')
  obtain ⟨n, hn⟩ := law vs (by simpa using h2) fun j t v hj hj' => h3 j t v (by simpa using hj) hj'
  have hc := law_calls (hcf n) hg h1 hn (by rw [hP]; exact hfn) hb
  rw [hP] at hc
  refine hc.mono fun e W' ⟨he, hbel⟩ => ?_
  subst he
  refine ⟨_, rfl, ds, [], before, [], p, [], hW', ?_, ?_, ?_, hbel.frame _, fun h => by cases h⟩
  · rw [List.append_nil, hs H ds (by simpa using hlen), hres]
    exact trodAll_cons_mk (shut_bool htb _) trodAll_mk0
  · rw [List.append_nil, hs H ds (by simpa using hlen)]
    exact args_stay hl hbel _ _ _ _ (fun t ht => (hpar t ht).2) hA0
  · rw [hvars, List.append_nil, hs H ds (by simpa using hlen)]
    rfl

end Go.Den

/- DEN, part Zk: a law with arguments, where package variables are laid. -/
namespace Go.Den
open Go.RowKit Go.ChangeShapes Go.WideShapes Go.ChangeAt

/-- What the package variables hold, as Den reads them. -/
def GlobOK (E : Env) (W : World) : Prop := ∀ g cs, E.glob g = some cs → V (.outer W (immK W)) true (.rop cs) (.pointer (some ⟨g, 0, none⟩))

theorem GlobOK.none {E : Env} (hg : ∀ g, E.glob g = none) (W : World) : GlobOK E W := fun g cs h => by rw [hg g] at h; cases h

theorem law_calls_g {E : Env} {n : Nat} (hcf : CallOK E (callF E n)) {f : FuncId} {W : World} (hg : GlobOK E W) {vs : List AV} {us : Array Value} (hv : Vs (.outer W (immK W)) true vs us.toList)
    (h : answer E n f vs = some (.bool true)) {fn : Func} {c : Code} (hfn : E.P.funcs[f]? = some fn) (hb : fn.body = some c) :
    Calls E.P f us W fun e w' => e = .returned (.bool true) ∧ Below W.heap.size W w' := by
  have hk : ∀ b, immK W b = .imm ∨ immK W b = .oth := fun b => by
    unfold immK
    split
    · exact .inl rfl
    · exact .inr rfl
  have hr : HR E (.outer W (immK W)) := outer_hr (fun b hb => by unfold immK; rw [if_neg (by omega)]) hg
  have := outer_calls hcf (us := us) hr (fun b s e => by rcases hk b with h | h <;> (have e' : immK W b = .loc s := e; rw [h] at e'; cases e')) hv.weaken h
  rcases this with ⟨_, h2⟩ | ⟨u, w', h1, _⟩
  · refine Calls.mono h2 fun e w' ⟨u, he, C', hw, hv, ev, _⟩ => ?_
    subst hw
    rw [he, hv.bool_inv]
    exact ⟨rfl, ev.below hk⟩
  · exfalso
    have hpr : program.run E.P W = .ok E.P W := rfl
    unfold callFunc at h1
    simp only [Sem.run_bind, hpr, Result.andThen_ok, hfn] at h1
    split at h1
    · cases h1
    · rw [if_neg (by simp [hb])] at h1
      cases h1

theorem law_lifted_laid {E : Env} {C : Checked} {os : Os} {f : FuncId} {fn : Func} {c : Code} {s : ChangeSpec} {conds : List PathCond} {H : Type} {enc : TypeId × Value → H} {tb : TypeId} {laid : List (String × DataW Unit)}
    (hP : E.P = C.prog) (hg : ∀ W, laidMetH C.prog laid W → GlobOK E W) (hcf : ∀ n, CallOK E (callF E n))
    (own : ownKnob C.prog.godebug = none) (started : os.Started) (noInit : C.prog.inits.idxOf? f = none) (hfn : C.prog.funcs[f]? = some fn) (hb : fn.body = some c)
    (witness : ∃ (w : World) (tape : Tape) (i : Input), w.os = os ∧ (w.forCall tape i).Shaped C.prog ∧ i.vars = [] ∧ Input.okWide C.prog (w.forCall tape i) .any w.heap.size f i ∧
      ((s.pre enc C.prog fn conds false (w.forCall tape i).memory i.args ∧ laidMetH C.prog laid (w.forCall tape i).memory) ∧ sizedMet enc C.prog fn (OpenSpec.ofChange s) false (w.forCall tape i).memory i.args) ∧ ({} : Assume).holds C.prog (lone (Frame.enter C.prog f i.args .normal) [] (w.forCall tape i)))
    (hl : laidOutB C.prog = true) (hvars : s.vars = []) (hs : ∀ (H : Type) (ds : List (DataW H)), ds.length = fn.params.size → s.fn H ds = { results := [.lit (.bool true)], args := ds })
    (hres : fn.resultTypes = #[tb]) (htb : C.prog.underlying tb = some .bool)
    {ts : List TypeId} (hts : ∀ t ∈ ts, tyOk C.prog ts t = true) (hpar : ∀ t ∈ fn.params.toList, t ∈ ts ∧ C.prog.readableRec t = true ∧ t < C.prog.types.size)
    (law : ∀ vs : List AV, vs.length = fn.params.size → (∀ (j : Nat) t v, fn.params[j]? = some t → vs[j]? = some v → ∃ n, Ty C.prog n t v) → ∃ n, answer E n f vs = some (.bool true)) :
    ReturnsInHanded {} C os f .any (fun w args => (s.pre enc C.prog fn conds false w args ∧ laidMetH C.prog laid w) ∧ sizedMet enc C.prog fn (OpenSpec.ofChange s) false w args) (s.post enc C.prog fn false true false false) := by
  refine returnsInHanded_of_change_and (C := C) (X := fun w _ => laidMetH C.prog laid w) (fun _ _ _ hh h => h.of_heap hh) own started noInit hfn witness ?_
  intro W base args ds gs before hval0 hW hcnd _ hL _
  have hW' := hW
  obtain ⟨p, q, hA0, hV, hpq, hfz, hnd⟩ := hW
  rw [hvars] at hV
  obtain ⟨rfl, rfl⟩ := trodVars_none hV
  obtain ⟨hlen, vs, h1, h2, h3⟩ := args_V hts fn.params.toList args.toList ds p (fun t ht => (hpar t ht).1) hA0 fun j t v hj hj' => hval0 j t v (by simpa using hj) (by simpa using hj')
  obtain ⟨n, hn⟩ := law vs (by simpa using h2) fun j t v hj hj' => h3 j t v (by simpa using hj) hj'
  have hc := law_calls_g (hcf n) (hg W hL) h1 hn (by rw [hP]; exact hfn) hb
  rw [hP] at hc
  refine hc.mono fun e W' ⟨he, hbel⟩ => ?_
  subst he
  refine ⟨_, rfl, ds, [], before, [], p, [], hW', ?_, ?_, ?_, hbel.frame _, fun h => by cases h⟩
  · rw [List.append_nil, hs H ds (by simpa using hlen), hres]
    exact trodAll_cons_mk (shut_bool htb _) trodAll_mk0
  · rw [List.append_nil, hs H ds (by simpa using hlen)]
    exact args_stay hl hbel _ _ _ _ (fun t ht => (hpar t ht).2) hA0
  · rw [hvars, List.append_nil, hs H ds (by simpa using hlen)]
    rfl

end Go.Den

/- DEN, part Zm: package variables that are laid. -/
namespace Go.Den
open Go.RowKit

mutual
/-- The cells of a datum made of numbers, bools, texts, structs, arrays. -/
def flatD {H : Type} : DataW H → Option (List AV)
  | .lit (.bool b) => some [.bool b]
  | .lit (.int k n) => some [.int k n]
  | .lit (.string s) => some [.str s]
  | .agg ds => flatDs ds
  | _ => none
def flatDs {H : Type} : List (DataW H) → Option (List AV)
  | [] => some []
  | d :: r => match flatD d with
    | some a => match flatDs r with
      | some b => some (a ++ b)
      | none => none
    | none => none
end

theorem flatDs_get {H : Type} : ∀ {ds : List (DataW H)} {vs : List AV}, flatDs ds = some vs → ∃ vss : List (List AV), vss.length = ds.length ∧ vs = vss.flatten ∧ ∀ (i : Nat) (d : DataW H) (v : List AV), ds[i]? = some d → vss[i]? = some v → flatD d = some v
  | [], vs, h => by
    simp only [flatDs, Option.some.injEq] at h
    subst h
    exact ⟨[], rfl, rfl, fun i d v h => by simp at h⟩
  | d :: r, vs, h => by
    unfold flatDs at h
    split at h
    · rename_i a ha
      split at h
      · rename_i b hb
        simp only [Option.some.injEq] at h
        subst h
        obtain ⟨vss, h1, h2, h3⟩ := flatDs_get hb
        refine ⟨a :: vss, by simp [h1], by simp [h2], fun i d' v hd hv => ?_⟩
        cases i with
        | zero =>
          simp only [List.getElem?_cons_zero, Option.some.injEq] at hd hv
          subst hd hv
          exact ha
        | succ i => exact h3 i d' v (by simpa using hd) (by simpa using hv)
      · cases h
    · cases h

theorem Vs.joinL {C : Ctx} {p : Bool} : ∀ {vss : List (List AV)} {css : List (List Value)}, vss.length = css.length → (∀ (i : Nat) (v : List AV) (cs : List Value), vss[i]? = some v → css[i]? = some cs → Vs C p v cs) → Vs C p vss.flatten css.flatten
  | [], [], _, _ => .nil _
  | [], _ :: _, h, _ => by simp at h
  | _ :: _, [], h, _ => by simp at h
  | v :: vs, cs :: css, hl, h => by
    simp only [List.flatten_cons]
    exact (h 0 v cs rfl rfl).append (Vs.joinL (by simpa using hl) fun i v' cs' h1 h2 => h (i + 1) v' cs' (by simpa using h1) (by simpa using h2))

section
variable {H : Type} {enc : TypeId × Value → H} {P : Program} {W : World} {sp : Nat → Bool} {hd : Bool}

/-- Types of such data. -/
def flatTy (P : Program) (ts : List TypeId) (t : TypeId) : Bool :=
  match P.underlying t with
  | some .bool | some (.int _) | some .string => true
  | some (.struct fs) => fs.toList.all (fun f => ts.contains f.type) && decide (contig P 0 fs.toList = some (P.cellsOf t))
  | some (.array n e) => ts.contains e && decide (n * P.cellsOf e = P.cellsOf t)
  | _ => false

theorem trod_flat {C : Ctx} {ts : List TypeId} (hts : ∀ t ∈ ts, flatTy P ts t = true) : ∀ (fuel : Nat) (t : TypeId) (cs : List Value) (d : DataW H) (q : List MemPlace) (vs : List AV), t ∈ ts → DataW.trod enc P W 0 sp hd fuel t cs = some (d, q) → flatD d = some vs →
    Vs C true vs cs ∧ ∀ c ∈ vs, c.one = true := by
  intro fuel
  induction fuel with
  | zero => intro t cs d q vs _ h; simp [DataW.trod] at h
  | succ fuel ih =>
    intro t cs d q vs ht h hf
    have hok := hts t ht
    unfold flatTy at hok
    split at hok
    · rename_i hu
      obtain ⟨b, rfl, hx⟩ := DataW.trod_bool hu h
      cases hx
      simp only [flatD, Option.some.injEq] at hf
      subst hf
      exact ⟨.cons _ _ _ _ _ (.bool _ _) (.nil _), by simp [AV.one]⟩
    · rename_i k hu
      obtain ⟨n, rfl, hx, hw⟩ := DataW.trod_int hu h
      cases hx
      simp only [flatD, Option.some.injEq] at hf
      subst hf
      exact ⟨.cons _ _ _ _ _ (.int _ _ _) (.nil _), by simp [AV.one]⟩
    · rename_i hu
      obtain ⟨s, rfl, hx, hs⟩ := DataW.trod_string hu h
      cases hx
      simp only [flatD, Option.some.injEq] at hf
      subst hf
      exact ⟨.cons _ _ _ _ _ (.str _ _) (.nil _), by simp [AV.one]⟩
    · rename_i fs hu
      simp only [Bool.and_eq_true, List.all_eq_true, List.contains_iff_mem, decide_eq_true_eq] at hok
      obtain ⟨xs, n, hn, hx, hcl, hxl, hget⟩ := DataW.trod_struct hu h
      injection hn with hn
      subst hn
      cases hx
      simp only [flatD] at hf
      obtain ⟨vss, h1, h2, h3⟩ := flatDs_get hf
      subst h2
      have hp : ∀ (i : Nat) (f : Field) (v : List AV), fs[i]? = some f → vss[i]? = some v → Vs C true v ((cs.drop f.offset).take (P.cellsOf f.type)) ∧ ∀ c ∈ v, c.one = true := fun i f v hfi hv => by
        have hlt : i < fs.size := (Array.getElem?_eq_some_iff.1 hfi).1
        have hg := hget i f hfi
        rw [List.getElem?_eq_getElem (by omega)] at hg
        have hmem : f.type ∈ ts := hok.1 _ (Array.mem_toList_iff.2 (Array.mem_of_getElem? hfi))
        exact ih _ _ _ _ v hmem (hg.trans (by rfl)) (h3 i _ v (by rw [List.getElem?_map, List.getElem?_eq_getElem (by omega)]; rfl) hv)
      have hl : vss.length = fs.size := by rw [h1, List.length_map, hxl]
      have hfl : ((fs.toList.map fun f => (cs.drop f.offset).take (P.cellsOf f.type)) : List (List Value)).flatten = cs := by
        have := (contig_flatten (cs := cs) (css := fs.toList.map fun f => (cs.drop f.offset).take (P.cellsOf f.type)) hok.2 (by simp) fun i f c hf hc => by
          rw [List.getElem?_map, hf] at hc
          simpa using hc.symm).1
        rw [this, ← hcl]
        simp
      constructor
      · rw [← hfl]
        refine Vs.joinL (by simp [hl]) fun i v c hv hc => ?_
        rw [List.getElem?_map] at hc
        cases hfi : fs.toList[i]? with
        | none => rw [hfi] at hc; cases hc
        | some f =>
          rw [hfi] at hc
          simp only [Option.map_some, Option.some.injEq] at hc
          subst hc
          exact (hp i f v (by simpa using hfi) hv).1
      · intro c hc
        obtain ⟨v, hv, hcv⟩ := List.mem_flatten.1 hc
        obtain ⟨i, hi, e⟩ := List.mem_iff_getElem.1 hv
        exact (hp i (fs[i]'(by omega)) v (Array.getElem?_eq_getElem _) (by rw [List.getElem?_eq_getElem hi, e])).2 c hcv
    · rename_i m e hu
      simp only [Bool.and_eq_true, List.contains_iff_mem, decide_eq_true_eq] at hok
      obtain ⟨xs, n, hn, hx, hcl, hxl, hget⟩ := DataW.trod_array hu h
      injection hn with hn
      subst hn
      cases hx
      simp only [flatD] at hf
      obtain ⟨vss, h1, h2, h3⟩ := flatDs_get hf
      subst h2
      have hl : vss.length = m := by rw [h1, List.length_map, hxl]
      have hp : ∀ (i : Nat) (v : List AV), vss[i]? = some v → Vs C true v ((cs.drop (i * P.cellsOf e)).take (P.cellsOf e)) ∧ ∀ c ∈ v, c.one = true := fun i v hv => by
        have hlt : i < m := by rw [← hl]; exact (List.getElem?_eq_some_iff.1 hv).1
        have hg := hget i hlt
        rw [List.getElem?_eq_getElem (by omega)] at hg
        exact ih _ _ _ _ v hok.1 (hg.trans (by rfl)) (h3 i _ v (by rw [List.getElem?_map, List.getElem?_eq_getElem (by omega)]; rfl) hv)
      have hfl : ((List.range m).map fun i => (cs.drop (i * P.cellsOf e)).take (P.cellsOf e)).flatten = cs := flatten_pieces (n := P.cellsOf e) (fun i c hc => by
        rw [List.getElem?_map] at hc
        cases hr : (List.range m)[i]? with
        | none => rw [hr] at hc; cases hc
        | some j =>
          rw [hr] at hc
          obtain ⟨_, hj⟩ := List.getElem?_eq_some_iff.1 hr
          rw [List.getElem_range] at hj
          subst hj
          simpa using hc.symm) (by simp; rw [hcl]; exact hok.2)
      constructor
      · rw [← hfl]
        refine Vs.joinL (by simp [hl]) fun i v c hv hc => ?_
        rw [List.getElem?_map] at hc
        cases hr : (List.range m)[i]? with
        | none => rw [hr] at hc; cases hc
        | some j =>
          rw [hr] at hc
          obtain ⟨_, hj⟩ := List.getElem?_eq_some_iff.1 hr
          rw [List.getElem_range] at hj
          subst hj
          simp only [Option.map_some, Option.some.injEq] at hc
          subst hc
          exact (hp i v hv).1
      · intro c hc
        obtain ⟨v, hv, hcv⟩ := List.mem_flatten.1 hc
        obtain ⟨i, hi, e⟩ := List.mem_iff_getElem.1 hv
        exact (hp i v (by rw [List.getElem?_eq_getElem hi, e])).2 c hcv
    · cases hok
end

/-- What a laid variable is to Den. -/
theorem glob_of_reads {P : Program} {W : World} {n : String} {d : DataW Unit} {ts : List TypeId} (hts : ∀ t ∈ ts, flatTy P ts t = true) (h : Lib.VarReads P W n d) {g : Nat} (hg : P.globalNamed n = some g)
    (ht : ∀ t, (P.globals[g]?).map (·.type) = some t → t ∈ ts) {cs : List AV} (hc : flatD d = some cs) : V (.outer W (immK W)) true (.rop cs) (.pointer (some ⟨g, 0, none⟩)) := by
  obtain ⟨g', t, us, fuel, p, h1, h2, h3, h4⟩ := h
  obtain rfl := Option.some.inj (hg.symm.trans h1)
  obtain ⟨k1, k2⟩ := trod_flat (C := .outer W (immK W)) hts fuel t us.toList d p cs (ht t h2) h4 hc
  have hb : g < W.heap.size := by
    simp only [World.var?, h1, Option.bind_some] at h3
    cases hh : W.heap[g]? with
    | none => simp [hh] at h3
    | some o => exact (Array.getElem?_eq_some_iff.1 hh).1
  exact .rop _ cs ⟨g, 0, none⟩ us.toList k2 k1 (fun j u hj => by
    have := World.var?_cell h1 h3 j
    rw [Array.getElem?_toList] at hj
    rw [Addr.add_lit, Nat.zero_add]
    show W.cell? ⟨g, j, none⟩ = some u
    rw [this]
    exact hj) (if_pos hb) hb

end Go.Den

/- DEN, tables: what exec wants to know of a function's regions, reckoned off its code (to be printed; not trusted). -/
namespace Go.Den

def regionsOf : Code → List (Nat × Array Oper × Bool)
  | .region id ops d => [(id, ops, d)]
  | .seq a b => regionsOf a ++ regionsOf b
  | .cond _ a b => regionsOf a ++ regionsOf b
  | .block _ a | .loop a | .scope a => regionsOf a
  | .rangeFunc _ _ a b => regionsOf a ++ regionsOf b
  | _ => []

def dinfo (E : Env) (sites : List (Nat × Nat × Nat)) (rid : Nat) (ops : Array Oper) : DInfo :=
  let b := Region.before ops
  let bf (i j : Nat) : Bool := (b.getD i 0).testBit j
  let wins := (List.range ops.size).filterMap fun i =>
    let o := ops.getD i default
    if reads o && !isLoud E (siteAt sites rid i o) o then
      let lo := countLoud E sites rid ops fun j => bf i j
      let hi := countLoud E sites rid ops fun j => !bf j i
      if lo < hi then some (i, lo, hi) else none
    else none
  { before := b.toList, wins }

def mkDraws (E : Env) (sites : List (Nat × Nat × Nat)) (fn : Func) : List (Nat × DInfo) :=
  match fn.body with
  | some c => (regionsOf c).filterMap fun (id, ops, d) => if d then some (id, dinfo E sites id ops) else none
  | none => []

end Go.Den

/- DEN, part Zn: more entries of the model: a new row of whatever bytes; where a byte stands. -/
namespace Go.Den
open Go.RowKit

section
variable {E : Env}

/-- internal/bytealg.MakeNoZero: room for so many bytes; of what they are nothing is known. -/
def noZeroF (e : TypeId) (args : List AV) (H : Heap) : Option (AV × Heap) :=
  match args with
  | [.int .i64 n] => bif decide (0 ≤ n) && decide (n ≤ 281474976710656) then some (.sl H.length 0 0 n.toNat n.toNat, H ++ [.row 0 1 e []]) else none
  | _ => none

theorem noZero_prim {f : FuncId} {fn : Func} {ps : Array TypeId} {t e : TypeId} (hf : E.P.funcs[f]? = some fn) (hname : (fn.name == "runtime.NumGoroutine") = false)
    (hb : fn.body.isNone = true) (hn : Extern.findNext fn = none) (he : Extern.find fn = some (Extern.BytealgMakeNoZero.makeNoZero ps #[t])) (ht : E.P.underlying t = some (.slice e)) : PrimOK E f (noZeroF e) :=
  fun args C us v H' h hr hl hv => by
    unfold noZeroF at h
    split at h
    · rename_i n
      cases hc : (decide (0 ≤ n) && decide (n ≤ 281474976710656))
      · rw [hc] at h; cases h
      · rw [hc] at h
        simp only [cond_true, Option.some.injEq, Prod.mk.injEq] at h
        obtain ⟨rfl, rfl⟩ := h
        simp only [Bool.and_eq_true, decide_eq_true_eq] at hc
        obtain ⟨us⟩ := us
        cases hv with
        | cons _ _ u1 _ us1 h1 h2 =>
          cases h2
          have := h1.int_inv
          subst this
          obtain ⟨m, rfl⟩ := Int.eq_ofNat_of_zero_le hc.1
          obtain ⟨cs, g1, g2, g3⟩ := Lib.run_makeNoZero (P := E.P) C.w ps t e ht m (by omega)
          have key := row_new (E := E) (C := C) (ver := 0) (sz := 1) (ty := e) (es := []) (us := []) (fr := (0, 0)) (w' := C.w.drew.drew.alloc (.cells cs e)) (cells := cs) hr ⟨rfl, rfl, rfl⟩ rfl Nat.one_pos (fun _ h => by cases h) (fun j _ h => by simp at h) (.nil _) (fun j u h => by simp at h)
          refine .inr ⟨.slice (some ⟨C.w.heap.size, 0, none⟩) m cs.size, (C.grow (C.w.drew.drew.alloc (.cells cs e)) (.row 0 1 e [])).w, ?_, C.grow (C.w.drew.drew.alloc (.cells cs e)) (.row 0 1 e []), rfl, rfl, ?_, key.1, key.2.ev, ?_⟩
          · rw [run_callFunc_extern hf hname hb hn he, g1]
            rfl
          · refine .sl _ _ _ _ _ _ rfl ⟨by simp [Ctx.grow], fun v sz' ty' es' hx => ?_⟩
            simp [Ctx.grow] at hx
            obtain ⟨rfl, rfl, rfl, rfl⟩ := hx
            refine ⟨Nat.le_refl _, fun _ => ⟨⟨C.w.heap.size, 0, none⟩, cs.size, rfl, Nat.le_refl _, g2, g3 (by unfold maxLen; omega), fun _ => by simp [Ctx.grow], fun cells t' fr hc => ?_⟩⟩
            rw [grow_place] at hc ⊢
            have hc' := (heap_alloc_new C.w.drew.drew _).symm.trans hc
            injection hc' with hc'
            injection hc' with hc1 hc2 hc3
            subst hc1
            simp
          · intro b s hbs
            have : (if b = C.w.heap.size then Role.obj C.H.length else C.κ b) = .loc s := hbs
            split at this
            · cases this
            · exact hl b s this
    · cases h

theorem indexByte_run {P : Program} {u : Value} {l : List UInt8} {c : Int} {w : World} (h : (Extern.Bytes.bytesOf u).run P w = .ok ⟨l.toArray⟩ w) : (Extern.BytealgIndexByte.indexByte #[u, .int .u8 c]).run P w = .ok (.int .i64 (Lib.indexByte l (byteOf c))) w := by
  have h1 := Lib.run_indexByteString (P := P) ⟨l.toArray⟩ c w
  have e1 : ∀ x : Value, Extern.BytealgIndexByte.indexByte #[x, .int .u8 c] = (do
      let b ← Extern.Bytes.bytesOf x
      let c ← Extern.Bytes.asByte (.int .u8 c)
      match (List.range b.size).find? fun i => b[i]! == c with
      | some i => pure (goInt i)
      | none => pure (goInt (-1))) := fun _ => rfl
  rw [e1] at h1 ⊢
  have hb : (Extern.Bytes.bytesOf (.string ⟨l.toArray⟩)).run P w = .ok ⟨l.toArray⟩ w := rfl
  simp only [Sem.run_bind, hb, Result.andThen_ok] at h1
  simp only [Sem.run_bind, h, Result.andThen_ok]
  exact h1

/-- internal/bytealg.IndexByte, IndexByteString. -/
def indexByteF (args : List AV) (H : Heap) : Option (AV × Heap) :=
  match args with
  | [x, .int .u8 c] => match bytesAt x H with
    | some l => some (.int .i64 (Lib.indexByte l (byteOf c)), H)
    | none => none
  | _ => none

theorem indexByte_prim {f : FuncId} {fn : Func} (hf : E.P.funcs[f]? = some fn) (hname : (fn.name == "runtime.NumGoroutine") = false)
    (hb : fn.body.isNone = true) (hn : Extern.findNext fn = none) (he : Extern.find fn = some Extern.BytealgIndexByte.indexByte) : PrimOK E f indexByteF :=
  extern_prim hf hname hb hn he fun args C us v H' h hr hv => by
    unfold indexByteF at h
    split at h
    · rename_i x c
      split at h
      · rename_i l hl
        simp only [Option.some.injEq, Prod.mk.injEq] at h
        obtain ⟨rfl, rfl⟩ := h
        obtain ⟨us⟩ := us
        cases hv with
        | cons _ _ u1 _ us1 h1 h2 =>
          cases h2 with
          | cons _ _ u2 _ us2 h3 h4 =>
            cases h4
            have := h3.int_inv
            subst this
            exact ⟨rfl, _, indexByte_run (bytesAt_run hr hl h1), .int _ _ _⟩
      · cases h
    · cases h

end
end Go.Den
