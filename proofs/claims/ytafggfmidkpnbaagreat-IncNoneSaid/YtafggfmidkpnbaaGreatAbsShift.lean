/- The objects of a pure call come to its caller. -/
import Derived.Test.YtafggfmidkpnbaaGreatAbsApp3
namespace Go.Gm

theorem addO_get : ∀ (objs : List AObj) (G : Nat → AObj) (b p : Nat), addO G b objs p = if b ≤ p ∧ p < b + objs.length then (objs[p - b]?).getD .dead else G p
  | [], G, b, p => by simp only [addO, List.length_nil]; rw [if_neg (by omega)]
  | x :: l, G, b, p => by
    simp only [addO, List.length_cons]
    rw [addO_get l _ (b + 1) p]
    by_cases h1 : b + 1 ≤ p ∧ p < b + 1 + l.length
    · rw [if_pos h1, if_pos (by omega), show p - b = (p - (b + 1)) + 1 from by omega, List.getElem?_cons_succ]
    · rw [if_neg h1]
      unfold upd
      by_cases h2 : p = b
      · subst h2; rw [if_pos rfl, if_pos (by omega)]; simp
      · rw [if_neg h2, if_neg (by omega)]

theorem shifts_eq (k : Nat) : ∀ (l : List AV), shiftAV.shifts k l = l.map (shiftAV k)
  | [] => rfl
  | v :: l => by simp [shiftAV.shifts, shifts_eq k l]
theorem shiftAV_one (k : Nat) (x : AV) : (shiftAV k x).one = x.one := by cases x <;> rfl

theorem Rel.shift {w : World} {X X' : Nat → Prop} {β β' : Nat → Option Loc} {k : Nat} (hb : ∀ o l, β o = some l → β' (o + k) = some l) (hX : ∀ c, X' c → X c) {x : AV} {v : Value} (h : Rel w X β x v) :
    Rel w X' β' (shiftAV k x) v := by
  have st : Still w X w X' := ⟨fun _ _ _ => rfl, Nat.le_refl _, fun c hc => .inl (hX c hc)⟩
  have nths : ∀ (cs : List AV) (j : Nat) (x : AV), nth (shiftAV.shifts k cs) j = some x → ∃ y, nth cs j = some y ∧ x = shiftAV k y := fun cs j x hx => by
    rw [nth_eq, shifts_eq, List.getElem?_map] at hx
    cases hc : cs[j]? with
    | none => simp [hc] at hx
    | some y => simp [hc] at hx; exact ⟨y, by rw [nth_eq]; exact hc, hx.symm⟩
  induction h with
  | fv x v h => unfold shiftAV; exact .fv x v (h.mono st)
  | ptr o i j l h => unfold shiftAV; exact .ptr (o + k) i j l (hb _ _ h)
  | osl o off len cap app l h hlen hcap happ => unfold shiftAV; exact .osl (o + k) off len cap app l (hb _ _ h) hlen hcap happ
  | map o l h => unfold shiftAV; exact .map (o + k) l (hb _ _ h)
  | yld o l h => unfold shiftAV; exact .yld (o + k) l (hb _ _ h)
  | clo f cap vs hlen _ ih =>
    unfold shiftAV
    refine .clo f _ vs (by rw [shifts_eq]; simpa using hlen) fun j x v hx hv => ?_
    obtain ⟨y, hy, rfl⟩ := nths cap j x hx
    exact ih j y v hy hv
  | agg cs vs hlen h1 _ ih =>
    unfold shiftAV
    refine .agg _ vs (by rw [shifts_eq]; simpa using hlen) (fun j x hx => ?_) fun j x v hx hv => ?_
    · obtain ⟨y, hy, rfl⟩ := nths cs j x hx
      rw [shiftAV_one]; exact h1 j y hy
    · obtain ⟨y, hy, rfl⟩ := nths cs j x hx
      exact ih j y v hy hv
  | tup cs vs hlen _ ih =>
    unfold shiftAV
    refine .tup _ vs (by rw [shifts_eq]; simpa using hlen) fun j x v hx hv => ?_
    obtain ⟨y, hy, rfl⟩ := nths cs j x hx
    exact ih j y v hy hv

theorem ObjR.shift {w : World} {X X' : Nat → Prop} {β β' : Nat → Option Loc} {k : Nat} (hb : ∀ o l, β o = some l → β' (o + k) = some l) (hX : ∀ c, X' c → X c) {l : Loc} {x : AObj} (h : ObjR w X β l x) :
    ObjR w X' β' l (shiftObj k x) := by
  have st : Still w X w X' := ⟨fun _ _ _ => rfl, Nat.le_refl _, fun c hc => .inl (hX c hc)⟩
  cases x with
  | dead => trivial
  | loop _ _ _ _ _ _ _ _ => trivial
  | dblk => trivial
  | arr sz rows closed =>
    obtain ⟨h1, h2, h3, h4, h5, h6, cs, elem, hh, hsz, hr⟩ := h
    refine ⟨h1, by rw [mapN_eq]; simpa using h2, h3, h4, h5, h6, cs, elem, hh, hsz, fun i row hi => ?_⟩
    rw [nth_eq, mapN_eq, List.getElem?_map] at hi
    cases hc : rows[i]? with
    | none => simp [hc] at hi
    | some r =>
      simp [hc] at hi; subst hi
      obtain ⟨g1, g2⟩ := hr i r (by rw [nth_eq]; exact hc)
      refine ⟨by rw [shifts_eq]; simpa using g1, fun j x hx => ?_⟩
      rw [nth_eq, shifts_eq, List.getElem?_map] at hx
      cases hd : r[j]? with
      | none => simp [hd] at hx
      | some y =>
        simp [hd] at hx; subst hx
        obtain ⟨a, v, b, c⟩ := g2 j y (by rw [nth_eq]; exact hd)
        exact ⟨by rw [shiftAV_one]; exact a, v, b, c.shift hb hX⟩
  | map es =>
    obtain ⟨entries, clock, hh, hbn, hsz, hr⟩ := h
    refine ⟨entries, clock, hh, hbn, by rw [mapN_eq]; simpa using hsz, fun i kv hi => ?_⟩
    rw [nth_eq, mapN_eq, List.getElem?_map] at hi
    cases hc : es[i]? with
    | none => simp [hc] at hi
    | some q =>
      simp [hc] at hi; subst hi
      obtain ⟨e, a, b, c⟩ := hr i q (by rw [nth_eq]; exact hc)
      exact ⟨e, a, b.mono st, c.shift hb hX⟩

theorem shiftObj_alive {k : Nat} {x : AObj} (h : (shiftObj k x).alive = true) : x.alive = true := by
  cases x <;> first | rfl | simp [shiftObj, AObj.alive] at h

theorem NRes.shift {w w' : World} {O F O' : Nat → Prop} {β β' : Nat → Option Loc} {G : Nat → AObj} {b : Nat} {v : AV} {objs : List AObj} {u : Value} (hsr : SR w O F β G) (hole : Hole G β b objs.length)
    (hst : Step w (fun _ => False) (fun _ => none) w' O' β') (hsr' : SR w' O' (bar O F) β' (addO (fun _ => .dead) 0 objs)) (hrel : Rel w' (bar O' (bar O F)) β' v u) (hn : ∀ p, objs.length ≤ p → β' p = none) :
    NRes w O F β G b (shiftAV b v) (mapN (shiftObj b) objs) u w' := by
  let β2 : Nat → Option Loc := fun p => if b ≤ p ∧ p < b + objs.length then β' (p - b) else β p
  let O2 : Nat → Prop := fun c => O c ∨ O' c
  have hlen : (mapN (shiftObj b) objs).length = objs.length := by rw [mapN_eq]; simp
  have hb : ∀ o l, β' o = some l → β2 (o + b) = some l := fun o l h => by
    have : o < objs.length := by
      rcases Nat.lt_or_ge o objs.length with h1 | h1
      · exact h1
      · rw [hn o h1] at h; cases h
    simp only [β2]
    rw [if_pos (by omega), Nat.add_sub_cancel]; exact h
  have hX : ∀ c, bar O2 F c → bar O' (bar O F) c := fun c hc => by
    rcases hc with (hc | hc) | hc
    · exact .inr (.inl hc)
    · exact .inl hc
    · exact .inr (.inr hc)
  have hheap : ∀ c, c < w.heap.size → w'.heap[c]? = w.heap[c]? := fun c hc => hst.heap c hc (fun h => h)
  have hext : Ext β β2 := fun o l h => by
    simp only [β2]
    rw [if_neg (fun c => by rw [hole.none o c.1 c.2] at h; cases h)]; exact h
  have hst2 : Step w O β w' O2 β2 := ⟨fun c hc _ => hheap c hc, hst.size, fun c hc => by
    rcases hc with hc | hc
    · exact .inl hc
    · rcases hst.own c hc with h | h
      · exact h.elim
      · exact .inr h, hext, hst.out⟩
  have hnew : ∀ c, O' c → w.heap.size ≤ c := fun c hc => by
    rcases hst.own c hc with h | h
    · exact h.elim
    · exact h
  have hget : ∀ p, addO G b (mapN (shiftObj b) objs) p = if b ≤ p ∧ p < b + objs.length then shiftObj b ((objs[p - b]?).getD .dead) else G p := fun p => by
    rw [addO_get, hlen]
    split
    · rename_i hp
      rw [mapN_eq, List.getElem?_map]
      have : p - b < objs.length := by omega
      simp [this]
    · rfl
  have hget0 : ∀ p, p < objs.length → addO (fun _ => .dead) 0 objs p = (objs[p]?).getD .dead := fun p hp => by
    rw [addO_get, if_pos (by omega), Nat.sub_zero]
  -- the two kinds
  have inn : ∀ p, (b ≤ p ∧ p < b + objs.length) → (addO G b (mapN (shiftObj b) objs) p).alive = true → (addO (fun _ => .dead) 0 objs (p - b)).alive = true := fun p hp ha => by
    rw [hget, if_pos hp] at ha
    rw [hget0 _ (by omega)]
    exact shiftObj_alive ha
  have bin : ∀ p l, (b ≤ p ∧ p < b + objs.length) → β2 p = some l → β' (p - b) = some l := fun p l hp h => by
    simp only [β2] at h; rwa [if_pos hp] at h
  have bout : ∀ p l, ¬ (b ≤ p ∧ p < b + objs.length) → β2 p = some l → β p = some l := fun p l hp h => by
    simp only [β2] at h; rwa [if_neg hp] at h
  refine ⟨O2, β2, hst2, ⟨fun p l hl => ?_, fun p hp => ?_, fun p l hp hl => ?_, fun p p' l l' hp hp' hl hl' hne => ?_, fun c hc => ?_, fun c hc => ?_, fun c hc hf => ?_⟩, hrel.shift hb hX, fun p hp => ?_⟩
  · rw [hget]
    by_cases hin : b ≤ p ∧ p < b + objs.length
    · rw [if_pos hin]
      have := hsr'.obj (p - b) l (bin p l hin hl)
      rw [hget0 _ (by omega)] at this
      exact this.shift hb hX
    · rw [if_neg hin]
      have hl' := bout p l hin hl
      by_cases ha : (G p).alive = true
      · exact (hsr.obj p l hl').mono (hst2.still F) hext (hheap _ ((hsr.obj p l hl').lt ha))
      · cases hG : G p <;> simp [hG, AObj.alive] at ha; trivial
  · by_cases hin : b ≤ p ∧ p < b + objs.length
    · obtain ⟨l, hl⟩ := hsr'.has (p - b) (inn p hin hp)
      exact ⟨l, by simp only [β2]; rw [if_pos hin]; exact hl⟩
    · rw [hget, if_neg hin] at hp
      obtain ⟨l, hl⟩ := hsr.has p hp
      exact ⟨l, hext p l hl⟩
  · by_cases hin : b ≤ p ∧ p < b + objs.length
    · exact .inr (hsr'.own (p - b) l (inn p hin hp) (bin p l hin hl))
    · rw [hget, if_neg hin] at hp
      exact .inl (hsr.own p l hp (bout p l hin hl))
  · by_cases hin : b ≤ p ∧ p < b + objs.length
    · by_cases hin' : b ≤ p' ∧ p' < b + objs.length
      · exact hsr'.inj (p - b) (p' - b) l l' (inn p hin hp) (inn p' hin' hp') (bin p l hin hl) (bin p' l' hin' hl') (by omega)
      · have h1 := hnew _ (hsr'.own (p - b) l (inn p hin hp) (bin p l hin hl))
        rw [hget, if_neg hin'] at hp'
        have h2 := hsr.lt _ (hsr.own p' l' hp' (bout p' l' hin' hl'))
        omega
    · by_cases hin' : b ≤ p' ∧ p' < b + objs.length
      · have h1 := hnew _ (hsr'.own (p' - b) l' (inn p' hin' hp') (bin p' l' hin' hl'))
        rw [hget, if_neg hin] at hp
        have h2 := hsr.lt _ (hsr.own p l hp (bout p l hin hl))
        omega
      · rw [hget, if_neg hin] at hp
        rw [hget, if_neg hin'] at hp'
        exact hsr.inj p p' l l' hp hp' (bout p l hin hl) (bout p' l' hin' hl') hne
  · rcases hc with hc | hc
    · exact Nat.lt_of_lt_of_le (hsr.lt c hc) hst.size
    · exact hsr'.lt c hc
  · exact Nat.lt_of_lt_of_le (hsr.flt c hc) hst.size
  · rcases hc with hc | hc
    · exact hsr.dis c hc hf
    · have := hnew c hc
      have := hsr.flt c hf
      omega
  · rw [hlen] at hp
    simp only [β2]
    rw [if_neg (by omega)]
end Go.Gm
