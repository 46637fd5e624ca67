/- Building values of parts. -/
import Derived.Laws.Tables
import Derived.Test.YtafggfmidkpnbaaGreatAbsRead
namespace Go.Gm
inductive All2 {α β : Type} (R : α → β → Prop) : List α → List β → Prop
  | nil : All2 R [] []
  | cons {a : α} {b : β} {l : List α} {m : List β} (h : R a b) (t : All2 R l m) : All2 R (a :: l) (b :: m)
section
variable {P : Program} {w w0 : World} {O F : Nat → Prop} {X : Nat → Prop} {β : Nat → Option Loc} {G : Nat → AObj}

theorem cells_sound {x : AV} {v : Value} (h1 : allOne x.cells = true) (hx : Rel w X β x v) : CellsR w X β x.cells v.cells := by
  have one : ∀ (y : AV) (u : Value), y.one = true → Rel w X β y u → CellsR w X β [y] #[u] := fun y u hy hr =>
    ⟨rfl, fun j z hz => by cases j <;> simp at hz; subst hz; exact hy, fun j z v' hz hv => by cases j <;> simp at hz hv; subst hz; subst hv; exact hr⟩
  by_cases ha : ∃ cs, x = .agg cs
  · obtain ⟨cs, rfl⟩ := ha
    obtain ⟨vs, rfl, hc⟩ := CellsR.ofAgg hx
    exact hc
  · by_cases hb : ∃ cs, x = .fv (.agg cs)
    · obtain ⟨cs, rfl⟩ := hb
      obtain ⟨vs, rfl, hc⟩ := CellsR.ofFAgg (β := β) hx.fv_inv
      exact hc
    · have hc : x.cells = [x] := by
        unfold AV.cells
        split
        · exact absurd ⟨_, rfl⟩ ha
        · exact absurd ⟨_, rfl⟩ hb
        · rfl
      rw [hc] at h1 ⊢
      have ho : x.one = true := by unfold allOne at h1; rw [allN_eq] at h1; simpa using h1
      have hv := hx.oneCell ho
      have : v.cells = #[v] := by cases v <;> first | rfl | simp [Value.oneCell'] at hv
      rw [this]
      exact one x v ho hx

theorem fold_set (off : Nat) : ∀ (l : List Value) (k : Nat) (cells : Array Value),
    ((l.zipIdx k).foldl (fun cs (c, j) => cs.setIfInBounds (off + j) c) cells).size = cells.size ∧
    ∀ (i : Nat), i < cells.size → ((l.zipIdx k).foldl (fun cs (c, j) => cs.setIfInBounds (off + j) c) cells)[i]? = if off + k ≤ i ∧ i < off + k + l.length then l[i - (off + k)]? else cells[i]?
  | [], k, cells => ⟨rfl, fun i hi => by rw [if_neg (by simp only [List.length_nil]; omega)]; rfl⟩
  | v :: l, k, cells => by
    simp only [List.zipIdx_cons, List.foldl_cons]
    obtain ⟨h1, h2⟩ := fold_set off l (k + 1) (cells.setIfInBounds (off + k) v)
    refine ⟨by rw [h1]; simp, fun i hi => ?_⟩
    rw [h2 i (by simpa using hi)]
    simp only [List.length_cons]
    by_cases hik : i = off + k
    · subst hik
      rw [if_neg (by omega), if_pos (by omega), Array.getElem?_setIfInBounds_self_of_lt hi]; simp
    · rw [Array.getElem?_setIfInBounds_ne (fun c => hik c.symm)]
      by_cases hlt : off + (k + 1) ≤ i ∧ i < off + (k + 1) + l.length
      · rw [if_pos hlt, if_pos (by omega)]
        rw [show i - (off + k) = (i - (off + (k + 1))) + 1 from by omega, List.getElem?_cons_succ]
      · rw [if_neg hlt, if_neg (by omega)]

/-- so many values in their places -/
structure Spliced (vs : Array Value) (off : Nat) (us : Array Value) (vs' : Array Value) : Prop where
  size : vs'.size = vs.size
  get : ∀ (i : Nat), i < vs.size → vs'[i]? = if off ≤ i ∧ i < off + us.size then us[i - off]? else vs[i]?

theorem fold_spliced (off : Nat) (us vs : Array Value) : Spliced vs off us (us.zipIdx.foldl (fun cs (c, j) => cs.setIfInBounds (off + j) c) vs) := by
  have h := fold_set off us.toList 0 vs
  have e : us.zipIdx.foldl (fun cs (c, j) => cs.setIfInBounds (off + j) c) vs = (us.toList.zipIdx 0).foldl (fun cs (c, j) => cs.setIfInBounds (off + j) c) vs := by
    rw [← Array.foldl_toList, Array.toList_zipIdx]
  rw [e]
  refine ⟨h.1, fun i hi => ?_⟩
  rw [h.2 i hi]; simp

theorem CellsR.splice {cs c : List AV} {vs us vs' : Array Value} {off : Nat} (h : CellsR w X β cs vs) (hc : CellsR w X β c us) (hs : Spliced vs off us vs') : CellsR w X β (splice cs off c) vs' := by
  refine ⟨by rw [splice_length, h.len, hs.size], fun j x hx => ?_, fun j x v hx hv => ?_⟩
  · have hj : j < cs.length := by have := (List.getElem?_eq_some_iff.1 hx).1; rwa [splice_length] at this
    rw [splice_get _ _ _ _ hj] at hx
    split at hx
    · exact hc.one _ _ hx
    · exact h.one _ _ hx
  · have hj : j < cs.length := by have := (List.getElem?_eq_some_iff.1 hx).1; rwa [splice_length] at this
    rw [splice_get _ _ _ _ hj] at hx
    rw [hs.get j (by rw [← h.len]; exact hj)] at hv
    rw [hc.len] at hx
    split at hx
    · rename_i hin
      rw [if_pos hin] at hv
      exact hc.rel _ _ _ hx hv
    · rename_i hin
      rw [if_neg hin] at hv
      exact h.rel _ _ _ hx hv

abbrev PartR (w : World) (X : Nat → Prop) (β : Nat → Option Loc) (T : Fr) (p : Nat × (Fr → AV)) (q : Nat × Value) : Prop := p.1 = q.1 ∧ Rel w X β (p.2 T) q.2
theorem evParts_sound {n : Nat} {T : Fr} {a : Act} (hf : FrR w X β n T a.tmps) : ∀ {l : List (Nat × Operand)} {ps : List (Nat × (Fr → AV))}, evParts n l = some ps →
    All2 (PartR w X β T) ps (l.map fun (i, x) => (i, a.eval x))
  | [], ps, h => by simp [evParts] at h; subst h; exact .nil
  | (i, x) :: l, ps, h => by
    simp only [evParts] at h
    cases hx : evO n x with
    | none => simp [hx] at h
    | some g =>
      cases hl : evParts n l with
      | none => simp [hx, hl] at h
      | some gs =>
        simp [hx, hl] at h; subst h
        exact .cons ⟨rfl, evO_sound hx hf⟩ (evParts_sound hf hl)

theorem fillS_sound {T : Fr} {place : Nat → Option (Nat × Nat)} : ∀ {ps : List (Nat × (Fr → AV))} {qs : List (Nat × Value)} {cs c : List AV} {vs : Array Value},
    All2 (PartR w X β T) ps qs → fillS place ps T cs = some c → CellsR w X β cs vs → ∃ vs', Instr.fill place vs qs = some vs' ∧ CellsR w X β c vs'
  | _, _, cs, c, vs, .nil, h, hc => by simp only [fillS, Option.some.injEq] at h; subst h; exact ⟨vs, rfl, hc⟩
  | (i, f) :: ps, (i', v) :: qs, cs, c, vs, .cons hp hps, h, hc => by
    obtain ⟨hi, hr⟩ := hp
    simp only at hi hr
    subst hi
    unfold fillS at h
    unfold Instr.fill
    cases hpl : place i with
    | none => simp [hpl] at h
    | some os =>
      obtain ⟨off, size⟩ := os
      simp only [hpl] at h ⊢
      · cases hcond : (Nat.beq (lenN (f T).cells) size && Nat.ble (off + size) (lenN cs) && allOne (f T).cells) with
        | false => simp [hcond] at h
        | true =>
          simp only [hcond, cond_true] at h
          simp only [Bool.and_eq_true, beq_iff, lenN_eq, Nat.ble_eq] at hcond
          obtain ⟨⟨h1, h2⟩, h3⟩ := hcond
          have hcl := cells_sound h3 hr
          rw [if_neg (by simp only [ne_eq, Bool.or_eq_true, decide_eq_true_eq]; rw [← hcl.len, ← hc.len]; omega)]
          exact fillS_sound hps h (hc.splice hcl (fold_spliced off _ _))

theorem placesOf_eq : ∀ {fs : List Field} {l : List (Nat × Nat)}, placesOf P fs = some l → fs.mapM (fun f => (P.info? f.type).map fun i => (f.offset, i.size)) = some l
  | [], l, h => by simp [placesOf] at h; subst h; simp
  | f :: fs, l, h => by
    simp only [placesOf] at h
    cases hs : tsz P f.type with
    | none => simp [hs] at h
    | some n =>
      cases hl : placesOf P fs with
      | none => simp [hs, hl] at h
      | some m =>
        simp [hs, hl] at h; subst h
        obtain ⟨i, hi, hn⟩ := info_of_size hs
        simp [List.mapM_cons, hi, hn, placesOf_eq hl]

theorem buildS_sound {t : TypeId} {parts : List (Nat × (Fr → AV))} {T : Fr} {z : AV} {qs : Array (Nat × Value)} (h : buildS P t parts T = some z) (hp : All2 (PartR w X β T) parts qs.toList) :
    ∃ r, (∀ w0, (Instr.build t qs).run P w0 = .ok r w0) ∧ Rel w X β z r := by
  unfold buildS at h
  cases hz : tzero P t with
  | none => simp [hz] at h
  | some zf =>
    simp only [hz] at h
    cases zf <;> simp only [reduceCtorEq] at h
    rename_i zc
    obtain ⟨it, zv, hit, hzv, hzr⟩ := tzero_sound hz
    obtain ⟨zs, rfl, hzc⟩ := CellsR.ofFAgg (β := β) (hzr w X)
    cases hu : P.underlying t with
    | none => simp [hu] at h
    | some d =>
      simp only [hu] at h
      cases d <;> simp only [reduceCtorEq] at h
      case struct fs =>
        cases hpl : placesOf P fs.toList with
        | none => simp [hpl] at h
        | some places =>
          simp only [hpl] at h
          cases hf : fillS (nth places) parts T (mapN .fv zc) with
          | none => simp [hf] at h
          | some c =>
            simp only [hf, Option.some.injEq] at h; subst h
            obtain ⟨vs', hfill, hc⟩ := fillS_sound hp hf hzc
            refine ⟨.agg vs', fun w0 => run_build w0 t qs vs' ?_, hc.mkAgg⟩
            simp only [Program.built, hit, hu, hzv, placesOf_eq hpl]
            rw [show (fun x => places.toArray[x]?) = nth places from funext fun x => by rw [nth_eq]; simp]
            exact hfill
      case array n e =>
        cases hs : tsz P e with
        | none => simp [hs] at h
        | some esz =>
          simp only [hs] at h
          cases hf : fillS (fun i => some (i * esz, esz)) parts T (mapN .fv zc) with
          | none => simp [hf] at h
          | some c =>
            simp only [hf, Option.some.injEq] at h; subst h
            obtain ⟨vs', hfill, hc⟩ := fillS_sound hp hf hzc
            obtain ⟨ie, hie, rfl⟩ := info_of_size hs
            refine ⟨.agg vs', fun w0 => run_build w0 t qs vs' ?_, hc.mkAgg⟩
            simp only [Program.built, hit, hu, hzv, hie]
            exact hfill
end
end Go.Gm
