/- New blocks. -/
import Derived.Test.YtafggfmidkpnbaaGreatAbsMap
namespace Go.Gm

def addO (G : Nat → AObj) (b : Nat) : List AObj → Nat → AObj
  | [] => G
  | x :: l => addO (upd G b x) (b + 1) l
/-- numbers that nobody has -/
structure Hole (G : Nat → AObj) (β : Nat → Option Loc) (b k : Nat) : Prop where
  dead : ∀ p, b ≤ p → p < b + k → G p = .dead
  none : ∀ p, b ≤ p → p < b + k → β p = none

/-- what an operation without effect brings -/
def NRes (w : World) (O F : Nat → Prop) (β : Nat → Option Loc) (G : Nat → AObj) (b : Nat) (v : AV) (objs : List AObj) (u : Value) (w' : World) : Prop :=
  ∃ O' β', Step w O β w' O' β' ∧ SR w' O' F β' (addO G b objs) ∧ Rel w' (bar O' F) β' v u ∧ ∀ p, (p < b ∨ b + objs.length ≤ p) → β' p = β p

section
variable {P : Program} {w w0 : World} {O F : Nat → Prop} {X : Nat → Prop} {β : Nat → Option Loc} {G : Nat → AObj} {b : Nat}

theorem NRes.same {v : AV} {u : Value} (h : SR w O F β G) (hr : Rel w (bar O F) β v u) : NRes w O F β G b v [] u w :=
  ⟨O, β, Step.refl _ _ _, h, hr, fun _ _ => rfl⟩
/-- the same heap -/
theorem SR.heap {w' : World} (h : SR w O F β G) (hw : w'.heap = w.heap) (hm : Same w w') : SR w' O F β G ∧ Step w O β w' O β :=
  h.grow (fun b _ => by rw [hw]) (by rw [hw]; exact Nat.le_refl _) hm
theorem NRes.from {w1 w2 : World} {v : AV} {objs : List AObj} {u : Value} (hw : w1.heap = w.heap) (hm : Same w w1) (h : SR w O F β G) (hn : NRes w1 O F β G b v objs u w2) : NRes w O F β G b v objs u w2 := by
  obtain ⟨O', β', hs, hsr, hrel, ho⟩ := hn
  exact ⟨O', β', (h.heap hw hm).2.trans hs, hsr, hrel, ho⟩

/-- rows and their cells -/
structure RowsR (w : World) (X : Nat → Prop) (β : Nat → Option Loc) (sz : Nat) (rows : List (List AV)) (cells : Array Value) : Prop where
  size : rows.length * sz ≤ cells.size
  len : ∀ (i : Nat) (row : List AV), rows[i]? = some row → row.length = sz
  rel : ∀ (i : Nat) (row : List AV) (j : Nat) (x : AV), rows[i]? = some row → row[j]? = some x → x.one = true ∧ ∃ v, cells[i * sz + j]? = some v ∧ Rel w X β x v

theorem RowsR.mono {w w' : World} {X X' : Nat → Prop} {β β' : Nat → Option Loc} {sz : Nat} {rows : List (List AV)} {cells : Array Value} (hs : Still w X w' X') (hb : Ext β β')
    (h : RowsR w X β sz rows cells) : RowsR w' X' β' sz rows cells :=
  ⟨h.size, h.len, fun i row j x hi hx => by obtain ⟨h1, v, h2, h3⟩ := h.rel i row j x hi hx; exact ⟨h1, v, h2, h3.mono hs hb⟩⟩

theorem SR.newArr (h : SR w O F β G) (hole : Hole G β b 1) {sz room : Nat} {rows : List (List AV)} {cells : Array Value} {elem : TypeId} {closed : Bool} (hr : RowsR w (bar O F) β sz rows cells)
    (h0 : 0 < sz) (h1 : rows.length ≤ room) (h2 : closed = true → room = rows.length) (h3 : room * sz ≤ cells.size) :
    ∃ O' β', Step w O β { w with heap := w.heap.push (.cells cells elem (0, 0)) } O' β' ∧ SR { w with heap := w.heap.push (.cells cells elem (0, 0)) } O' F β' (upd G b (.arr sz rows closed)) ∧
      β' b = some ⟨w.heap.size, 0, sz, rows.length, room, closed⟩ ∧ ∀ p, p ≠ b → β' p = β p := by
  have := h.new (p := b) (l := ⟨w.heap.size, 0, sz, rows.length, room, closed⟩) (x := .arr sz rows closed) (ob := .cells cells elem (0, 0)) (hole.dead b (Nat.le_refl _) (by omega)) (hole.none b (Nat.le_refl _) (by omega)) rfl
    (fun w' O' β' hw hst => by
      have hr' := hr.mono (hst.still F) hst.ext
      refine ⟨rfl, rfl, rfl, fun hc => ⟨h2 hc, rfl⟩, h1, h0, cells, elem, by subst hw; simp, by simpa using h3, fun i row hi => ?_⟩
      rw [nth_eq] at hi
      refine ⟨hr'.len i row hi, fun j x hx => ?_⟩
      rw [nth_eq] at hx
      obtain ⟨a1, v, a2, a3⟩ := hr'.rel i row j x hi hx
      exact ⟨a1, v, by simpa using a2, a3⟩)
  refine ⟨_, _, this.2, this.1, by simp [upd], fun p hp => by simp [upd, hp]⟩

theorem SR.newMap (h : SR w O F β G) (hole : Hole G β b 1) :
    ∃ O' β', Step w O β { w with heap := w.heap.push (.map #[] 0) } O' β' ∧ SR { w with heap := w.heap.push (.map #[] 0) } O' F β' (upd G b (.map [])) ∧
      β' b = some ⟨w.heap.size, 0, 0, 0, 0, false⟩ ∧ ∀ p, p ≠ b → β' p = β p := by
  have := h.new (p := b) (l := ⟨w.heap.size, 0, 0, 0, 0, false⟩) (x := .map []) (ob := .map #[] 0) (hole.dead b (Nat.le_refl _) (by omega)) (hole.none b (Nat.le_refl _) (by omega)) rfl
    (fun w' O' β' hw hst => ⟨#[], 0, by subst hw; simp, born_empty _, rfl, fun i kv hi => by rw [nth_eq] at hi; simp at hi⟩)
  refine ⟨_, _, this.2, this.1, by simp [upd], fun p hp => by simp [upd, hp]⟩

/-- a new object, and the slice over it -/
theorem NRes.slice (h : SR w O F β G) (hole : Hole G β b 1) {sz len cap : Nat} {rows : List (List AV)} {cells : Array Value} {elem : TypeId} {closed : Bool} (hr : RowsR w (bar O F) β sz rows cells)
    (h0 : 0 < sz) (hlen : len ≤ cap) (h1 : rows.length ≤ cap) (h2 : closed = true → cap = rows.length) (h3 : cap * sz ≤ cells.size) :
    NRes w O F β G b (.osl b 0 len true) [.arr sz rows closed] (.slice (some ⟨w.heap.size, 0, none⟩) len cap) { w with heap := w.heap.push (.cells cells elem (0, 0)) } := by
  obtain ⟨O', β', hs, hsr, hb, ho⟩ := h.newArr hole hr h0 h1 h2 h3 (elem := elem)
  refine ⟨O', β', hs, hsr, ?_, fun p hp => ho p (by simp only [List.length_cons, List.length_nil] at hp; omega)⟩
  have := Rel.osl (w := { w with heap := w.heap.push (.cells cells elem (0, 0)) }) (X := bar O' F) b 0 len cap true _ hb hlen (by simp) (fun _ => by simpa using h1)
  simpa using this
theorem NRes.ptr (h : SR w O F β G) (hole : Hole G β b 1) {row : List AV} {cells : Array Value} {elem : TypeId} (hr : RowsR w (bar O F) β row.length [row] cells) (h0 : 0 < row.length) :
    NRes w O F β G b (.ptr b 0 0) [.arr row.length [row] true] (.pointer (some ⟨w.heap.size, 0, none⟩)) { w with heap := w.heap.push (.cells cells elem (0, 0)) } := by
  obtain ⟨O', β', hs, hsr, hb, ho⟩ := h.newArr hole hr h0 (Nat.le_refl _) (closed := true) (fun _ => rfl) hr.size (elem := elem)
  refine ⟨O', β', hs, hsr, ?_, fun p hp => ho p (by simp only [List.length_cons, List.length_nil] at hp; omega)⟩
  have := Rel.ptr (w := { w with heap := w.heap.push (.cells cells elem (0, 0)) }) (X := bar O' F) b 0 0 _ hb
  simpa using this
theorem NRes.map (h : SR w O F β G) (hole : Hole G β b 1) : NRes w O F β G b (.map b) [.map []] (.map (some w.heap.size)) { w with heap := w.heap.push (.map #[] 0) } := by
  obtain ⟨O', β', hs, hsr, hb, ho⟩ := h.newMap hole
  exact ⟨O', β', hs, hsr, .map b _ hb, fun p hp => ho p (by simp only [List.length_cons, List.length_nil] at hp; omega)⟩

/-- a new block that nobody will write -/
theorem NRes.frozen (h : SR w O F β G) {sz : Nat} {rows : List (List AV)} {fr : List (List FV)} {cells : Array Value} {elem : TypeId} (hr : RowsR w (bar O F) β sz rows cells) (ha : allRows rows = some fr) :
    NRes w O F β G b (.fv (.sl fr true)) [] (.slice (some ⟨w.heap.size, 0, none⟩) rows.length rows.length) { w with heap := w.heap.push (.cells cells elem (0, 0)) } := by
  have hg := h.grow (w' := { w with heap := w.heap.push (.cells cells elem (0, 0)) }) (fun c hc => by simp only [Array.getElem?_push]; rw [if_neg (by omega)]) (by simp) ⟨rfl, rfl, rfl⟩
  refine ⟨O, β, hg.2, hg.1, .fv _ _ ?_, fun _ _ => rfl⟩
  have hr' := hr.mono (hg.2.still F) (Ext.refl _)
  unfold allRows at ha
  obtain ⟨hlen, hrow⟩ := mapO_some ha
  have get : ∀ i row, nth fr i = some row → ∃ r, rows[i]? = some r ∧ r = row.map AV.fv := fun i row hi => by
    rw [nth_eq] at hi
    have hlt : i < rows.length := by rw [hlen]; exact (List.getElem?_eq_some_iff.1 hi).1
    obtain ⟨y, h1, h2⟩ := hrow i rows[i] (by simp [hlt])
    rw [hi] at h1; cases h1
    exact ⟨rows[i], by simp [hlt], allFV_some h2⟩
  have get2 : ∀ i row j x, nth fr i = some row → nth row j = some x → x.one = true ∧ ∃ v, cells[i * sz + j]? = some v ∧ RelF { w with heap := w.heap.push (.cells cells elem (0, 0)) } (bar O F) x v := fun i row j x hi hx => by
    obtain ⟨r, h1, rfl⟩ := get i row hi
    rw [nth_eq] at hx
    obtain ⟨h2, v, h3, h4⟩ := hr'.rel i _ j (.fv x) h1 (by simp [hx])
    exact ⟨h2, v, h3, h4.fv_inv⟩
  rw [hlen]
  refine .sl fr true _ fr.length sz (fun i j => (cells[i * sz + j]?).getD default) (Nat.le_refl _) (fun _ => rfl) (fun _ => ⟨_, rfl, rfl, ?_, by simp⟩) (fun i row hi => ?_) (fun i row j x hi hx => (get2 i row j x hi hx).1)
    (fun ad i row j x e hi hx => ?_) (fun i row j x hi hx => ?_)
  · rintro (c | c)
    · exact absurd (h.lt _ c) (Nat.lt_irrefl _)
    · exact absurd (h.flt _ c) (Nat.lt_irrefl _)
  · obtain ⟨r, h1, rfl⟩ := get i row hi
    simpa using hr.len i _ h1
  · cases e
    obtain ⟨_, v, h3, _⟩ := get2 i row j x hi hx
    rw [h3]
    exact cell_iff.2 ⟨cells, elem, (0, 0), by simp, by simpa using h3⟩
  · obtain ⟨_, v, h3, h4⟩ := get2 i row j x hi hx
    rw [h3]; exact h4
end
end Go.Gm
