/- Memory: reading rows of cells, writing them, new blocks. -/
import Derived.Test.YtafggfmidkpnbaaGreatAbsOps1
namespace Go.Gm

theorem Addr.add_none {b o n : Nat} : (⟨b, o, none⟩ : Addr).add n = ⟨b, o + n, none⟩ := by
  unfold Addr.add; split
  · rename_i h; subst h; rfl
  · rfl
theorem Addr.add_spot {a : Addr} (h : a.spot = none) (n : Nat) : a.add n = ⟨a.block, a.off + n, none⟩ := by
  obtain ⟨b, o, s⟩ := a; subst h; exact Addr.add_none
theorem Addr.eta_spot {a : Addr} (h : a.spot = none) : a = ⟨a.block, a.off, none⟩ := by
  obtain ⟨b, o, s⟩ := a; subst h; rfl

section
variable {P : Program} {w : World}

theorem cell_iff {b o : Nat} {v : Value} : w.cell? ⟨b, o, none⟩ = some v ↔ ∃ cs e fr, w.heap[b]? = some (.cells cs e fr) ∧ cs[o]? = some v := by
  unfold World.cell?
  constructor
  · intro h
    split at h
    · rename_i cs e fr hb; exact ⟨cs, e, fr, hb, by simpa using h⟩
    · cases h
  · rintro ⟨cs, e, fr, hb, hv⟩
    simp only [hb]; simpa using hv

theorem run_load_some {a : Addr} {v : Value} (h : w.cell? a = some v) : (load a).run P w = .ok v w := by simp [h]

theorem run_loadCellsFrom {b o : Nat} (cv : Nat → Value) : ∀ (n i : Nat) (acc : Array Value), (∀ j, j < n → w.cell? ⟨b, o + (i + j), none⟩ = some (cv (i + j))) →
    (loadCellsFrom ⟨b, o, none⟩ i n acc).run P w = .ok (acc ++ ((List.range n).map fun j => cv (i + j)).toArray) w
  | 0, i, acc, _ => by simp [loadCellsFrom]
  | n + 1, i, acc, h => by
    have h0 := h 0 (by omega)
    simp only [loadCellsFrom, Sem.run_bind, Addr.add_none]
    rw [run_load_some (by simpa using h0)]
    simp only [Result.andThen_ok]
    rw [run_loadCellsFrom cv n (i + 1) _ (fun j hj => by have := h (j + 1) (by omega); rw [show i + 1 + j = i + (j + 1) from by omega]; exact this)]
    congr 1
    rw [List.range_succ_eq_map]
    simp only [List.map_cons, List.map_map, Nat.add_zero]
    apply Array.ext'
    simp
    intro j _; congr 1; omega

theorem run_loadCells {a : Addr} (hs : a.spot = none) (cv : Nat → Value) (n : Nat) (h : ∀ j, j < n → w.cell? ⟨a.block, a.off + j, none⟩ = some (cv j)) :
    (loadCells a n).run P w = .ok ((List.range n).map cv).toArray w := by
  rw [Addr.eta_spot hs]
  unfold loadCells
  rw [run_loadCellsFrom cv n 0 #[] (fun j hj => by simpa using h j hj)]
  simp

/-- w' is w with cells written from off on in block b -/
structure Wrote (w : World) (b off : Nat) (vs : List Value) (w' : World) : Prop where
  other : ∀ b', b' ≠ b → w'.heap[b']? = w.heap[b']?
  size : w'.heap.size = w.heap.size
  cells : ∀ cs e fr, w.heap[b]? = some (.cells cs e fr) → ∃ cs', w'.heap[b]? = some (.cells cs' e fr) ∧ cs'.size = cs.size ∧
    ∀ (i : Nat), i < cs.size → cs'[i]? = if off ≤ i ∧ i < off + vs.length then vs[i - off]? else cs[i]?
  out : Same w w'

theorem setCell_wrote {b off : Nat} {v : Value} : Wrote w b off [v] (w.setCell ⟨b, off, none⟩ v) := by
  refine ⟨fun b' hb => ?_, ?_, fun cs e fr h => ?_, ⟨rfl, rfl, rfl⟩⟩
  · simp only [World.setCell]
    rw [Array.getElem?_modify, if_neg (fun c => hb c.symm)]
  · simp [World.setCell]
  · refine ⟨cs.setIfInBounds off v, ?_, by simp, fun i hi => ?_⟩
    · simp only [World.setCell]
      rw [Array.getElem?_modify, if_pos rfl, h]; simp
    · by_cases hio : off = i
      · subst hio
        rw [Array.getElem?_setIfInBounds_self_of_lt hi, if_pos (by simp)]; simp
      · rw [Array.getElem?_setIfInBounds_ne hio, if_neg (by simp; omega)]

theorem Wrote.cons {b off : Nat} {v : Value} {vs : List Value} {w1 w2 : World} (h1 : Wrote w b off [v] w1) (h2 : Wrote w1 b (off + 1) vs w2) : Wrote w b off (v :: vs) w2 := by
  refine ⟨fun b' hb => (h2.other b' hb).trans (h1.other b' hb), h2.size.trans h1.size, fun cs e fr h => ?_, h1.out.trans h2.out⟩
  obtain ⟨c1, hc1, hs1, hg1⟩ := h1.cells cs e fr h
  obtain ⟨c2, hc2, hs2, hg2⟩ := h2.cells c1 e fr hc1
  refine ⟨c2, hc2, hs2.trans hs1, fun i hi => ?_⟩
  rw [hg2 i (by omega)]
  by_cases h3 : off + 1 ≤ i ∧ i < off + 1 + vs.length
  · rw [if_pos h3, if_pos (by simp; omega)]
    rw [show i - off = (i - (off + 1)) + 1 from by omega]; simp
  · rw [if_neg h3, hg1 i hi]
    by_cases h4 : off = i
    · subst h4; rw [if_pos (by simp), if_pos (by simp)]; simp
    · rw [if_neg (by simp; omega), if_neg (by simp; omega)]
theorem Wrote.nil (b off : Nat) : Wrote w b off [] w :=
  ⟨fun _ _ => rfl, rfl, fun cs e fr h => ⟨cs, h, rfl, fun i _ => by rw [if_neg (by simp only [List.length_nil]; omega)]⟩, Same.refl _⟩

theorem run_storeCells {b o : Nat} : ∀ (vs : List Value) (i : Nat) (w : World) (cs : Array Value) (e : TypeId),
    w.heap[b]? = some (.cells cs e (0, 0)) → o + i + vs.length ≤ cs.size → (∀ v ∈ vs, v.oneCell' = true) →
    ∃ w', (storeCells ⟨b, o, none⟩ vs i).run P w = .ok () w' ∧ Wrote w b (o + i) vs w'
  | [], i, w, cs, e, _, _, _ => ⟨w, by simp [storeCells], Wrote.nil _ _⟩
  | v :: vs, i, w, cs, e, hb, hle, hone => by
    simp only [List.length_cons] at hle
    have hlt : o + i < cs.size := by omega
    have hc : w.cell? ⟨b, o + i, none⟩ = some cs[o + i] := cell_iff.2 ⟨cs, e, (0, 0), hb, by simp [hlt]⟩
    have hfr : w.frozen? ⟨b, o + i, none⟩ = false := by simp [World.frozen?, hb]
    have hw1 : Wrote w b (o + i) [v] (w.setCell ⟨b, o + i, none⟩ v) := setCell_wrote
    obtain ⟨c1, hc1, hs1, hg1⟩ := hw1.cells cs e (0, 0) hb
    obtain ⟨w2, hr2, hw2⟩ := run_storeCells (b := b) (o := o) vs (i + 1) (w.setCell ⟨b, o + i, none⟩ v) c1 e hc1 (by rw [hs1]; omega) (fun u hu => hone u (by simp [hu]))
    refine ⟨w2, ?_, hw1.cons (by rw [show o + i + 1 = o + (i + 1) from by omega]; exact hw2)⟩
    simp only [storeCells, Sem.run_bind, Addr.add_none]
    rw [run_store P w _ v .plain (hone v (by simp)), hc]
    simp only [hfr, Bool.false_eq_true, if_false, Result.andThen_ok]
    exact hr2
end

/-! ### the relation moves on -/
def upd {α : Type} (G : Nat → α) (o : Nat) (x : α) : Nat → α := fun p => if p = o then x else G p

theorem Step.of_wrote {w w' : World} {O : Nat → Prop} {β : Nat → Option Loc} {b : Nat} (hO : O b) (ho : ∀ b', b' ≠ b → w'.heap[b']? = w.heap[b']?) (hs : w'.heap.size = w.heap.size) (hm : Same w w') : Step w O β w' O β :=
  ⟨fun b' _ hn => ho b' (fun e => hn (e ▸ hO)), Nat.le_of_eq hs.symm, fun _ h => .inl h, Ext.refl _, hm⟩

/-- an object is turned in its place -/
theorem SR.turn {w w' : World} {O F : Nat → Prop} {β : Nat → Option Loc} {G : Nat → AObj} (h : SR w O F β G) {o : Nat} {l : Loc} {x : AObj}
    (ha : (G o).alive = true) (hl : β o = some l) (ho : ∀ b', b' ≠ l.b → w'.heap[b']? = w.heap[b']?) (hs : w'.heap.size = w.heap.size) (hm : Same w w')
    (hx : ObjR w' (bar O F) β l x) : SR w' O F β (upd G o x) ∧ Step w O β w' O β := by
  have hst : Step w O β w' O β := Step.of_wrote (h.own o l ha hl) ho hs hm
  refine ⟨⟨fun p lp hp => ?_, fun p hp => ?_, fun p lp hp hb => ?_, fun p p' lp lp' hp hp' hb hb' hne => ?_, fun b hb => by rw [hs]; exact h.lt b hb, fun b hb => by rw [hs]; exact h.flt b hb, h.dis⟩, hst⟩
  · unfold upd
    by_cases hpo : p = o
    · subst hpo; rw [if_pos rfl]; rw [hl] at hp; cases hp; exact hx
    · rw [if_neg hpo]
      by_cases hal : (G p).alive = true
      · exact (h.obj p lp hp).mono (hst.still F) (Ext.refl _) (ho _ (h.inj p o lp l hal ha hp hl hpo))
      · cases hG : G p <;> simp [hG, AObj.alive] at hal; trivial
  · unfold upd at hp
    by_cases hpo : p = o
    · subst hpo; exact ⟨l, hl⟩
    · rw [if_neg hpo] at hp; exact h.has p hp
  · unfold upd at hp
    by_cases hpo : p = o
    · subst hpo; exact h.own p lp ha hb
    · rw [if_neg hpo] at hp; exact h.own p lp hp hb
  · unfold upd at hp hp'
    have e1 : (G p).alive = true := by
      by_cases hpo : p = o
      · subst hpo; exact ha
      · rw [if_neg hpo] at hp; exact hp
    have e2 : (G p').alive = true := by
      by_cases hpo : p' = o
      · subst hpo; exact ha
      · rw [if_neg hpo] at hp'; exact hp'
    exact h.inj p p' lp lp' e1 e2 hb hb' hne

/-- an object is forgotten -/
theorem SR.forget {w : World} {O F : Nat → Prop} {β : Nat → Option Loc} {G : Nat → AObj} (h : SR w O F β G) (o : Nat) : SR w O F β (upd G o .dead) := by
  have key : ∀ p, (upd G o .dead p).alive = true → (G p).alive = true ∧ p ≠ o := fun p hp => by
    unfold upd at hp
    by_cases hpo : p = o
    · rw [if_pos hpo] at hp; simp [AObj.alive] at hp
    · rw [if_neg hpo] at hp; exact ⟨hp, hpo⟩
  refine ⟨fun p lp hp => ?_, fun p hp => h.has p (key p hp).1, fun p lp hp hb => h.own p lp (key p hp).1 hb, fun p p' lp lp' hp hp' hb hb' hne => h.inj p p' lp lp' (key p hp).1 (key p' hp').1 hb hb' hne, h.lt, h.flt, h.dis⟩
  unfold upd
  by_cases hpo : p = o
  · rw [if_pos hpo]; trivial
  · rw [if_neg hpo]; exact h.obj p lp hp

/-- nothing that was there has turned -/
theorem SR.grow {w w' : World} {O F : Nat → Prop} {β : Nat → Option Loc} {G : Nat → AObj} (h : SR w O F β G)
    (hw : ∀ b, b < w.heap.size → w'.heap[b]? = w.heap[b]?) (hs : w.heap.size ≤ w'.heap.size) (hm : Same w w') : SR w' O F β G ∧ Step w O β w' O β := by
  have hst : Step w O β w' O β := ⟨fun b hb _ => hw b hb, hs, fun _ h => .inl h, Ext.refl _, hm⟩
  refine ⟨⟨fun p lp hp => ?_, h.has, h.own, h.inj, fun b hb => Nat.lt_of_lt_of_le (h.lt b hb) hs, fun b hb => Nat.lt_of_lt_of_le (h.flt b hb) hs, h.dis⟩, hst⟩
  by_cases hal : (G p).alive = true
  · exact (h.obj p lp hp).mono (hst.still F) (Ext.refl _) (hw _ ((h.obj p lp hp).lt hal))
  · cases hG : G p <;> simp [hG, AObj.alive] at hal; trivial

/-- a new block, a new object -/
theorem SR.new {w : World} {O F : Nat → Prop} {β : Nat → Option Loc} {G : Nat → AObj} (h : SR w O F β G) {p : Nat} {l : Loc} {x : AObj} {ob : Obj}
    (hG : G p = .dead) (hβ : β p = none) (hlb : l.b = w.heap.size)
    (hx : ∀ (w' : World) (O' : Nat → Prop) (β' : Nat → Option Loc), w' = { w with heap := w.heap.push ob } → Step w O β w' O' β' → ObjR w' (bar O' F) β' l x) :
    SR { w with heap := w.heap.push ob } (fun b => O b ∨ b = w.heap.size) F (upd β p (some l)) (upd G p x) ∧
    Step w O β { w with heap := w.heap.push ob } (fun b => O b ∨ b = w.heap.size) (upd β p (some l)) := by
  have hst : Step w O β { w with heap := w.heap.push ob } (fun b => O b ∨ b = w.heap.size) (upd β p (some l)) := by
    refine ⟨fun b hb _ => ?_, by simp, fun b hb => ?_, fun o l' ho => ?_, ⟨rfl, rfl, rfl⟩⟩
    · simp only [Array.getElem?_push]; rw [if_neg (by omega)]
    · rcases hb with hb | hb
      · exact .inl hb
      · exact .inr (Nat.le_of_eq hb.symm)
    · unfold upd
      by_cases hop : o = p
      · subst hop; rw [hβ] at ho; cases ho
      · rw [if_neg hop]; exact ho
  have hoth : ∀ q lq, β q = some lq → q ≠ p := fun q lq hq e => by subst e; rw [hβ] at hq; cases hq
  have hbl : ∀ q lq, (G q).alive = true → β q = some lq → lq.b < w.heap.size := fun q lq ha hq => (h.obj q lq hq).lt ha
  have alive : ∀ q, q ≠ p → (upd G p x q).alive = (G q).alive := fun q hq => by unfold upd; rw [if_neg hq]
  have bet : ∀ q, q ≠ p → upd β p (some l) q = β q := fun q hq => by unfold upd; rw [if_neg hq]
  refine ⟨⟨fun q lq hq => ?_, fun q hq => ?_, fun q lq hq hb => ?_, fun q q' lq lq' hq hq' hb hb' hne => ?_, fun b hb => ?_, fun b hb => ?_, fun b hb hf => ?_⟩, hst⟩
  · by_cases hqp : q = p
    · subst hqp
      unfold upd at hq ⊢
      rw [if_pos rfl] at hq ⊢
      cases hq
      exact hx _ _ _ rfl hst
    · rw [bet q hqp] at hq
      unfold upd; rw [if_neg hqp]
      by_cases hal : (G q).alive = true
      · refine (h.obj q lq hq).mono (hst.still F) hst.ext ?_
        have := hbl q lq hal hq
        simp only [Array.getElem?_push]; rw [if_neg (by omega)]
      · cases hGq : G q <;> simp [hGq, AObj.alive] at hal; trivial
  · by_cases hqp : q = p
    · subst hqp; exact ⟨l, by unfold upd; rw [if_pos rfl]⟩
    · rw [alive q hqp] at hq; rw [bet q hqp]; exact h.has q hq
  · by_cases hqp : q = p
    · subst hqp; unfold upd at hb; rw [if_pos rfl] at hb; cases hb; exact .inr hlb
    · rw [alive q hqp] at hq; rw [bet q hqp] at hb; exact .inl (h.own q lq hq hb)
  · by_cases hqp : q = p
    · subst hqp
      have hqp' : q' ≠ q := fun e => hne e.symm
      rw [alive q' hqp'] at hq'; rw [bet q' hqp'] at hb'
      unfold upd at hb; rw [if_pos rfl] at hb; cases hb
      have := hbl q' lq' hq' hb'
      omega
    · rw [alive q hqp] at hq; rw [bet q hqp] at hb
      by_cases hqp' : q' = p
      · subst hqp'
        unfold upd at hb'; rw [if_pos rfl] at hb'; cases hb'
        have := hbl q lq hq hb
        omega
      · rw [alive q' hqp'] at hq'; rw [bet q' hqp'] at hb'
        exact h.inj q q' lq lq' hq hq' hb hb' hne
  · simp only [Array.size_push]
    rcases hb with hb | hb
    · have := h.lt b hb; omega
    · omega
  · simp only [Array.size_push]; have := h.flt b hb; omega
  · rcases hb with hb | hb
    · exact h.dis b hb hf
    · have := h.flt b hf; omega
end Go.Gm
