/- What comes in: plain data reads as frozen values. -/
import GoSem.ClaimChange
import Derived.Test.YtafggfmidkpnbaaGreatAbsAll
namespace Go.Gm

/-- the fields lie one behind the other -/
def tiles (P : Program) : List Field → Nat → Nat → Bool
  | [], o, n => Nat.beq o n
  | f :: fs, o, n => Nat.beq f.offset o && tiles P fs (o + P.cellsOf f.type) n
/-- plain types -/
def PT (P : Program) : Nat → TypeId → Bool
  | 0, _ => false
  | n + 1, t => match P.underlying t with
    | some .bool => Nat.beq (P.cellsOf t) 1
    | some (.int _) => Nat.beq (P.cellsOf t) 1
    | some .string => Nat.beq (P.cellsOf t) 1
    | some (.slice e) => Nat.beq (P.cellsOf t) 1 && Nat.blt 0 (P.cellsOf e) && PT P n e
    | some (.struct fs) => tiles P fs.toList 0 (P.cellsOf t) && fs.toList.all fun f => PT P n f.type
    | some (.array k e) => Nat.beq (P.cellsOf t) (k * P.cellsOf e) && PT P n e
    | _ => false

/-- cells of a type -/
def FT (P : Program) : Nat → TypeId → List FV → Prop
  | 0, _, _ => False
  | n + 1, t, xs => match P.underlying t with
    | some .bool => ∃ b, xs = [.bool b]
    | some (.int k) => ∃ m, xs = [.int k m] ∧ (Lit.int k m).wf = true
    | some .string => ∃ s, xs = [.str s] ∧ s.size ≤ maxLen
    | some (.slice e) => ∃ rows, xs = [.sl rows false] ∧ rows.length ≤ maxLen ∧ ∀ r ∈ rows, r.length = P.cellsOf e ∧ FT P n e r
    | some (.struct fs) => xs.length = P.cellsOf t ∧ ∀ f ∈ fs.toList, FT P n f.type ((xs.drop f.offset).take (P.cellsOf f.type))
    | some (.array k e) => xs.length = P.cellsOf t ∧ ∀ i, i < k → FT P n e ((xs.drop (i * P.cellsOf e)).take (P.cellsOf e))
    | _ => False

section
variable {P : Program} {n : Nat} {t : TypeId} {xs : List FV}
theorem FT.bool (h : FT P n t xs) (hu : P.underlying t = some .bool) : ∃ b, xs = [.bool b] := by
  cases n with
  | zero => exact h.elim
  | succ n => simpa only [FT, hu, Nat.add_sub_cancel] using h
theorem FT.int {k : IntKind} (h : FT P n t xs) (hu : P.underlying t = some (.int k)) : ∃ m, xs = [.int k m] ∧ (Lit.int k m).wf = true := by
  cases n with
  | zero => exact h.elim
  | succ n => simpa only [FT, hu, Nat.add_sub_cancel] using h
theorem FT.str (h : FT P n t xs) (hu : P.underlying t = some .string) : ∃ s, xs = [.str s] ∧ s.size ≤ maxLen := by
  cases n with
  | zero => exact h.elim
  | succ n => simpa only [FT, hu, Nat.add_sub_cancel] using h
theorem FT.slice {e : TypeId} (h : FT P n t xs) (hu : P.underlying t = some (.slice e)) : ∃ rows, xs = [.sl rows false] ∧ rows.length ≤ maxLen ∧ ∀ r ∈ rows, r.length = P.cellsOf e ∧ FT P (n - 1) e r := by
  cases n with
  | zero => exact h.elim
  | succ n => simpa only [FT, hu, Nat.add_sub_cancel] using h
theorem FT.struct {fs : Array Field} (h : FT P n t xs) (hu : P.underlying t = some (.struct fs)) : xs.length = P.cellsOf t ∧ ∀ f ∈ fs.toList, FT P (n - 1) f.type ((xs.drop f.offset).take (P.cellsOf f.type)) := by
  cases n with
  | zero => exact h.elim
  | succ n => simpa only [FT, hu, Nat.add_sub_cancel] using h
theorem FT.array {k : Nat} {e : TypeId} (h : FT P n t xs) (hu : P.underlying t = some (.array k e)) : xs.length = P.cellsOf t ∧ ∀ i, i < k → FT P (n - 1) e ((xs.drop (i * P.cellsOf e)).take (P.cellsOf e)) := by
  cases n with
  | zero => exact h.elim
  | succ n => simpa only [FT, hu, Nat.add_sub_cancel] using h
end

/-- a list of cells and their frozen values -/
def Cells (w : World) (X : Nat → Prop) (xs : List FV) (cs : List Value) : Prop :=
  xs.length = cs.length ∧ ∀ (j : Nat) (x : FV) (v : Value), xs[j]? = some x → cs[j]? = some v → x.one = true ∧ RelF w X x v

section
variable {H : Type} {enc : TypeId × Value → H} {P : Program} {w : World} {X : Nat → Prop} {base : Nat} {sp : Nat → Bool} {held : Bool}

theorem Cells.single {x : FV} {v : Value} (h1 : x.one = true) (h : RelF w X x v) : Cells w X [x] [v] :=
  ⟨rfl, fun j y u hj hu => by
    have : j = 0 := by have := (List.getElem?_eq_some_iff.1 hj).1; simpa using this
    subst this
    simp only [List.getElem?_cons_zero, Option.some.injEq] at hj hu
    subst hj; subst hu; exact ⟨h1, h⟩⟩

theorem mapM_some {α β : Type} {f : α → Option β} : ∀ {l : List α} {m : List β}, l.mapM f = some m → l.length = m.length ∧ ∀ (i : Nat) (a : α), l[i]? = some a → ∃ b, m[i]? = some b ∧ f a = some b
  | [], m, h => by simp at h; subst h; exact ⟨rfl, fun i a h => by simp at h⟩
  | x :: l, m, h => by
    rw [List.mapM_cons] at h
    cases hx : f x with
    | none => simp [hx] at h
    | some y =>
      cases hl : l.mapM f with
      | none => simp [hx, hl] at h
      | some m' =>
        simp [hx, hl] at h
        subst h
        obtain ⟨h1, h2⟩ := mapM_some hl
        refine ⟨by simp [h1], fun i a hi => ?_⟩
        cases i with
        | zero => simp at hi; subst hi; exact ⟨y, rfl, hx⟩
        | succ i => simpa using h2 i a (by simpa using hi)

/-- choose the parts -/
theorem gather {α : Type} {n : Nat} {p : Nat → α → Prop} (h : ∀ i, i < n → ∃ x, p i x) : ∃ l : List α, l.length = n ∧ ∀ i x, l[i]? = some x → p i x := by
  induction n with
  | zero => exact ⟨[], rfl, fun i x h => by simp at h⟩
  | succ n ih =>
    obtain ⟨l, h1, h2⟩ := ih fun i hi => h i (by omega)
    obtain ⟨x, hx⟩ := h n (by omega)
    refine ⟨l ++ [x], by simp [h1], fun i y hi => ?_⟩
    rw [List.getElem?_append] at hi
    split at hi
    · exact h2 i y hi
    · have : i = n := by have := (List.getElem?_eq_some_iff.1 hi).1; simp at this; omega
      subst this
      simp [h1] at hi; subst hi; exact hx

theorem Cells.append {xs ys : List FV} {cs ds : List Value} (h : Cells w X xs cs) (h' : Cells w X ys ds) : Cells w X (xs ++ ys) (cs ++ ds) := by
  refine ⟨by simp [h.1, h'.1], fun j x v hx hv => ?_⟩
  rw [List.getElem?_append] at hx hv
  rw [← h.1] at hv
  split at hx
  · rename_i hlt
    rw [if_pos hlt] at hv
    exact h.2 j x v hx hv
  · rename_i hlt
    rw [if_neg hlt] at hv
    exact h'.2 _ x v hx hv

/-- fields, one behind the other -/
theorem fields_rel {n fuel : Nat} (ih : ∀ (t : TypeId) (cs : List Value) (d : DataW H) (ps : List MemPlace), PT P n t = true → DataW.trod enc P w base sp held fuel t cs = some (d, ps) → ∃ xs, Cells w X xs cs ∧ FT P n t xs ∧ xs.length = P.cellsOf t) :
    ∀ (fs : List Field) (o m : Nat) (cs : List Value), tiles P fs o m = true → (∀ f ∈ fs, PT P n f.type = true) → cs.length = m → o ≤ m → (∀ f ∈ fs, ∃ y, DataW.trod enc P w base sp held fuel f.type ((cs.drop f.offset).take (P.cellsOf f.type)) = some y) →
      ∃ xs, Cells w X xs (cs.drop o) ∧ xs.length = m - o ∧ ∀ f ∈ fs, o ≤ f.offset ∧ FT P n f.type ((xs.drop (f.offset - o)).take (P.cellsOf f.type))
  | [], o, m, cs, ht, _, hl, ho, _ => by
    simp only [tiles, beq_iff] at ht
    subst ht
    exact ⟨[], ⟨by simp [hl], fun j x v hx => by simp at hx⟩, by simp, nofun⟩
  | f :: fs, o, m, cs, ht, hp, hl, ho, hr => by
    simp only [tiles, Bool.and_eq_true, beq_iff] at ht
    obtain ⟨h1, h2⟩ := ht
    obtain ⟨⟨d, ps⟩, hy⟩ := hr f (List.mem_cons_self ..)
    obtain ⟨ys, c1, c2, c3⟩ := ih f.type _ d ps (hp f (List.mem_cons_self ..)) hy
    rw [h1] at c1
    have hle : o + P.cellsOf f.type ≤ m := by
      have := c1.1
      rw [c3, List.length_take, List.length_drop, hl] at this
      omega
    obtain ⟨zs, e1, e2, e3⟩ := fields_rel ih fs (o + P.cellsOf f.type) m cs h2 (fun g hg => hp g (List.mem_cons_of_mem _ hg)) hl hle (fun g hg => hr g (List.mem_cons_of_mem _ hg))
    refine ⟨ys ++ zs, ?_, by simp [c3, e2]; omega, fun g hg => ?_⟩
    · have : cs.drop o = (cs.drop o).take (P.cellsOf f.type) ++ cs.drop (o + P.cellsOf f.type) := by
        rw [← List.drop_drop, List.take_append_drop]
      rw [this]; exact c1.append e1
    · rcases List.mem_cons.1 hg with rfl | hg
      · refine ⟨Nat.le_of_eq h1.symm, ?_⟩
        rw [h1, Nat.sub_self, List.drop_zero, List.take_append_of_le_length (by omega), List.take_of_length_le (by omega)]
        exact c2
      · obtain ⟨g1, g2⟩ := e3 g hg
        refine ⟨by omega, ?_⟩
        rw [show g.offset - o = ys.length + (g.offset - (o + P.cellsOf f.type)) from by rw [c3]; omega, List.drop_append, List.drop_of_length_le (Nat.le_add_right _ _)]
        simpa using g2

/-- parts of an array, one behind the other -/
theorem parts_rel {n fuel : Nat} {e : TypeId} (he : PT P n e = true) (ih : ∀ (t : TypeId) (cs : List Value) (d : DataW H) (ps : List MemPlace), PT P n t = true → DataW.trod enc P w base sp held fuel t cs = some (d, ps) → ∃ xs, Cells w X xs cs ∧ FT P n t xs ∧ xs.length = P.cellsOf t) :
    ∀ (k : Nat) (cs : List Value), cs.length = k * P.cellsOf e → (∀ i, i < k → ∃ y, DataW.trod enc P w base sp held fuel e ((cs.drop (i * P.cellsOf e)).take (P.cellsOf e)) = some y) →
      ∃ xs, Cells w X xs cs ∧ ∀ i, i < k → FT P n e ((xs.drop (i * P.cellsOf e)).take (P.cellsOf e))
  | 0, cs, hl, _ => by
    have : cs = [] := List.eq_nil_of_length_eq_zero (by simpa using hl)
    subst this
    exact ⟨[], ⟨rfl, fun j x v hx => by simp at hx⟩, fun i hi => absurd hi (by omega)⟩
  | k + 1, cs, hl, hr => by
    have hk : k * P.cellsOf e ≤ cs.length := by rw [hl, Nat.add_mul]; omega
    obtain ⟨xs, c1, c2⟩ := parts_rel he ih k (cs.take (k * P.cellsOf e)) (by rw [List.length_take]; omega) fun i hi => by
      obtain ⟨y, hy⟩ := hr i (by omega)
      refine ⟨y, ?_⟩
      rw [← hy]
      congr 1
      have hb : i * P.cellsOf e + P.cellsOf e ≤ k * P.cellsOf e := by
        have := Nat.mul_le_mul_right (P.cellsOf e) (show i + 1 ≤ k by omega)
        rw [Nat.add_mul] at this; omega
      rw [List.drop_take, List.take_take, Nat.min_eq_left (by omega)]
    obtain ⟨⟨d, ps⟩, hy⟩ := hr k (by omega)
    obtain ⟨ys, e1, e2, e3⟩ := ih e _ d ps he hy
    have hxl : xs.length = k * P.cellsOf e := by rw [c1.1, List.length_take]; omega
    refine ⟨xs ++ ys, ?_, fun i hi => ?_⟩
    · have : cs = cs.take (k * P.cellsOf e) ++ (cs.drop (k * P.cellsOf e)).take (P.cellsOf e) := by
        rw [List.take_of_length_le (l := cs.drop (k * P.cellsOf e)) (by rw [List.length_drop, hl, Nat.add_mul]; omega), List.take_append_drop]
      rw [this]; exact c1.append e1
    · by_cases hik : i < k
      · have hb : i * P.cellsOf e + P.cellsOf e ≤ k * P.cellsOf e := by
          have := Nat.mul_le_mul_right (P.cellsOf e) (show i + 1 ≤ k by omega)
          rw [Nat.add_mul] at this; omega
        rw [List.drop_append_of_le_length (by omega), List.take_append_of_le_length (by rw [List.length_drop]; omega)]
        exact c2 i hik
      · have : i = k := by omega
        subst this
        rw [← hxl, List.drop_append, Nat.sub_self, List.drop_of_length_le (Nat.le_refl _), List.nil_append, List.drop_zero, List.take_of_length_le (by omega)]
        exact e2

theorem trod_rel (hX : ∀ b, b < w.heap.size → ¬ X b) : ∀ (n fuel : Nat) (t : TypeId) (cs : List Value) (d : DataW H) (ps : List MemPlace), PT P n t = true → DataW.trod enc P w base sp held fuel t cs = some (d, ps) → ∃ xs, Cells w X xs cs ∧ FT P n t xs ∧ xs.length = P.cellsOf t
  | 0, _, _, _, _, _, hp, _ => by simp [PT] at hp
  | n + 1, 0, t, cs, d, ps, hp, h => by simp [DataW.trod] at h
  | n + 1, fuel + 1, t, cs, d, ps, hp, h => by
    have ih := fun t cs d ps => trod_rel hX n fuel t cs d ps
    unfold DataW.trod at h
    split at h
    case h_1 b hu =>
      simp only [PT, hu, beq_iff] at hp
      exact ⟨[.bool b], .single rfl (.bool b), by simp only [FT, hu]; exact ⟨b, rfl⟩, hp.symm⟩
    case h_2 k k' m hu =>
      simp only [PT, hu, beq_iff] at hp
      split at h
      · rename_i hk
        obtain ⟨rfl, hw⟩ := hk
        exact ⟨[.int k' m], .single rfl (.int _ _), by simp only [FT, hu]; exact ⟨m, rfl, hw⟩, hp.symm⟩
      · cases h
    case h_4 s hu =>
      simp only [PT, hu, beq_iff] at hp
      split at h
      · rename_i hs
        exact ⟨[.str s], .single rfl (.str s), by simp only [FT, hu]; exact ⟨s, rfl, hs⟩, hp.symm⟩
      · cases h
    case h_7 e hu =>
      simp only [PT, hu, Bool.and_eq_true, beq_iff] at hp
      refine ⟨[.sl [] false], .single rfl ?_, by simp only [FT, hu]; exact ⟨[], rfl, Nat.zero_le _, nofun⟩, hp.1.1.symm⟩
      exact .sl [] false none 0 0 (fun _ _ => .nilIface) (Nat.le_refl _) (fun c => by cases c) (fun c => absurd rfl c) (fun i row hi => by simp [nth] at hi) (fun i row j x hi => by simp [nth] at hi) (fun ad i row j x _ hi => by simp [nth] at hi) (fun i row j x hi => by simp [nth] at hi)
    case h_8 e a len cap hu =>
      simp only [PT, hu, Bool.and_eq_true, beq_iff] at hp
      obtain ⟨⟨hp1, hp2⟩, hp3⟩ := hp
      have hp2 : 0 < P.cellsOf e := by simpa using hp2
      simp only [] at h
      split at h
      · rename_i hb
        cases hm : (List.range len).mapM (fun i => (w.cells? base (a.add (i * P.cellsOf e)) (P.cellsOf e)).bind (DataW.trod enc P w base sp held fuel e)) with
        | none => simp [hm] at h
        | some elems =>
          obtain ⟨q1, q2⟩ := mapM_some hm
          simp only [List.length_range] at q1
          have each : ∀ i, i < len → ∃ (r : List FV × List Value), (w.cells? base (a.add (i * P.cellsOf e)) (P.cellsOf e)) = some r.2 ∧ Cells w X r.1 r.2 ∧ FT P n e r.1 ∧ r.1.length = P.cellsOf e := fun i hi => by
            obtain ⟨⟨d', ps'⟩, _, h2⟩ := q2 i i (by simp [hi])
            cases hcs : w.cells? base (a.add (i * P.cellsOf e)) (P.cellsOf e) with
            | none => simp [hcs] at h2
            | some cs =>
              simp only [hcs, Option.bind_some] at h2
              obtain ⟨xs, g1, g2, g3⟩ := ih e cs d' ps' hp3 h2
              exact ⟨(xs, cs), rfl, g1, g2, g3⟩
          obtain ⟨l, hl1, hl2⟩ := gather each
          have hspot : l ≠ [] → a.spot = none := fun hne => by
            have h0 : 0 < l.length := by cases l <;> simp at hne ⊢
            obtain ⟨g1, _⟩ := hl2 0 l[0] (by simp [h0])
            unfold World.cells? at g1
            split at g1
            · obtain ⟨_, g2⟩ := mapM_some g1
              obtain ⟨v, _, hv⟩ := g2 0 0 (by simp [hp2])
              simp only [Nat.zero_mul] at hv
              rw [show (a.add 0).add 0 = a from by simp [Addr.add]] at hv
              unfold World.cell? at hv
              split at hv
              · cases hs : a.spot with
                | none => rfl
                | some s => simp [hs] at hv
              · cases hv
            · cases g1
          have hcell : ∀ i r, l[i]? = some r → ∀ j v, r.2[j]? = some v → w.cell? ⟨a.block, a.off + (i * P.cellsOf e + j), none⟩ = some v := fun i r hi j v hv => by
            obtain ⟨g1, g2, _, g4⟩ := hl2 i r hi
            have hsp := hspot (fun c => by rw [c] at hi; simp at hi)
            have hjl : j < P.cellsOf e := by rw [← g4, g2.1]; exact (List.getElem?_eq_some_iff.1 hv).1
            unfold World.cells? at g1
            split at g1
            · obtain ⟨_, g3⟩ := mapM_some g1
              obtain ⟨v', hv', hc⟩ := g3 j j (by simp [hjl])
              rw [hv] at hv'; cases hv'
              rw [Addr.add_spot hsp, Addr.add_none] at hc
              rw [← Nat.add_assoc]; exact hc
            · cases g1
          refine ⟨[.sl (l.map (·.1)) false], .single rfl ?_, by
            simp only [FT, hu]
            refine ⟨_, rfl, by rw [List.length_map, hl1]; exact Nat.le_trans hb.2.1 hb.2.2, fun r hr => ?_⟩
            obtain ⟨x, hx, rfl⟩ := List.mem_map.1 hr
            obtain ⟨i, hi, rfl⟩ := List.mem_iff_getElem.1 hx
            obtain ⟨_, _, g3, g4⟩ := hl2 i l[i] (by simp [hi])
            exact ⟨g4, g3⟩, hp1.symm⟩
          have hlen : len = (l.map (·.1)).length := by rw [List.length_map, hl1]
          rw [hlen]
          have row : ∀ i r, nth (l.map (·.1)) i = some r → ∃ q, l[i]? = some q ∧ q.1 = r := fun i r hi => by
            rw [nth_eq, List.getElem?_map, Option.map_eq_some_iff] at hi
            exact hi
          refine .sl (l.map (·.1)) false (some a) cap (P.cellsOf e) (fun i j => ((l[i]?.getD ([], [])).2[j]?).getD .nilIface) (by rw [← hlen]; exact hb.2.1) (fun c => by cases c) (fun hne => ?_) (fun i r hi => ?_) (fun i r j x hi hx => ?_) (fun ad i r j x had hi hx => ?_) (fun i r j x hi hx => ?_)
          · have hne' : l ≠ [] := fun c => hne (by rw [c]; rfl)
            have h0 : 0 < l.length := by cases l <;> simp at hne' ⊢
            have hc0 : ∃ v, (l[0]).2[0]? = some v := by
              obtain ⟨_, g2, _, g4⟩ := hl2 0 l[0] (by simp [h0])
              have : 0 < (l[0]).2.length := by rw [← g2.1, g4]; exact hp2
              exact ⟨_, List.getElem?_eq_getElem this⟩
            obtain ⟨v, hv⟩ := hc0
            have hbl := cell_lt (hcell 0 l[0] (by simp [h0]) 0 v hv)
            exact ⟨a, rfl, hspot hne', hX _ hbl, hbl⟩
          · obtain ⟨q, hq, rfl⟩ := row i r hi
            exact (hl2 i q hq).2.2.2
          · obtain ⟨q, hq, rfl⟩ := row i r hi
            rw [nth_eq] at hx
            obtain ⟨_, g2, _, _⟩ := hl2 i q hq
            have hj : j < q.2.length := by rw [← g2.1]; exact (List.getElem?_eq_some_iff.1 hx).1
            exact (g2.2 j x _ hx (List.getElem?_eq_getElem hj)).1
          · cases had
            obtain ⟨q, hq, rfl⟩ := row i r hi
            rw [nth_eq] at hx
            obtain ⟨_, g2, _, _⟩ := hl2 i q hq
            have hj : j < q.2.length := by rw [← g2.1]; exact (List.getElem?_eq_some_iff.1 hx).1
            rw [hcell i q hq j _ (List.getElem?_eq_getElem hj)]
            simp [hq, hj]
          · obtain ⟨q, hq, rfl⟩ := row i r hi
            rw [nth_eq] at hx
            obtain ⟨_, g2, _, _⟩ := hl2 i q hq
            have hj : j < q.2.length := by rw [← g2.1]; exact (List.getElem?_eq_some_iff.1 hx).1
            have := (g2.2 j x _ hx (List.getElem?_eq_getElem hj)).2
            simpa [hq, hj] using this
      · cases h
    case h_9 =>
      rename_i cs _ _ fs hu
      simp only [PT, hu, Bool.and_eq_true] at hp
      split at h
      · rename_i hl
        cases hm : fs.toList.mapM (fun f => DataW.trod enc P w base sp held fuel f.type ((cs.drop f.offset).take (P.cellsOf f.type))) with
        | none => simp [hm] at h
        | some ys =>
          obtain ⟨_, q2⟩ := mapM_some hm
          have hall : ∀ f ∈ fs.toList, PT P n f.type = true := fun f hf => (List.all_eq_true.1 hp.2) f hf
          obtain ⟨xs, g1, g2, g3⟩ := fields_rel (fun t cs d ps hp h => ih t cs d ps hp h) fs.toList 0 (P.cellsOf t) cs hp.1 hall hl (Nat.zero_le _) fun f hf => by
            obtain ⟨i, hi, rfl⟩ := List.mem_iff_getElem.1 hf
            obtain ⟨y, _, hy⟩ := q2 i fs.toList[i] (List.getElem?_eq_getElem hi)
            exact ⟨y, hy⟩
          rw [List.drop_zero] at g1
          rw [Nat.sub_zero] at g2
          refine ⟨xs, g1, ?_, g2⟩
          simp only [FT, hu]
          exact ⟨g2, fun f hf => by have := (g3 f hf).2; rwa [Nat.sub_zero] at this⟩
      · cases h
    case h_10 =>
      rename_i cs _ _ k e hu
      simp only [PT, hu, Bool.and_eq_true, beq_iff] at hp
      split at h
      · rename_i hl
        cases hm : (List.range k).mapM (fun i => DataW.trod enc P w base sp held fuel e ((cs.drop (i * P.cellsOf e)).take (P.cellsOf e))) with
        | none => simp [hm] at h
        | some ys =>
          obtain ⟨_, q2⟩ := mapM_some hm
          obtain ⟨xs, g1, g2⟩ := parts_rel hp.2 (fun t cs d ps hp h => ih t cs d ps hp h) k cs (by rw [hl, hp.1]) fun i hi => by
            obtain ⟨y, _, hy⟩ := q2 i i (by simp [hi])
            exact ⟨y, hy⟩
          have g3 : xs.length = P.cellsOf t := by rw [g1.1, hl]
          refine ⟨xs, g1, ?_, g3⟩
          simp only [FT, hu]
          exact ⟨g3, g2⟩
      · cases h
    case h_21 => cases h
    all_goals (rename_i hu; simp [PT, hu] at hp)
end
end Go.Gm
