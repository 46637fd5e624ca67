/- The run of a region in its own order. -/
import Derived.Test.YtafggfmidkpnbaaGreatAbsDraw2
namespace Go.Gm

/-- one step of a region's run: the operation, its record, the state ahead of it -/
structure TStep where
  q : DOp
  r : DRec
  d : DS

/-- the run of a region, the last step first -/
inductive TrD (d0 : DS) : List TStep → DS → Prop
  | nil : TrD d0 [] d0
  | pure {tr : List TStep} {d d' : DS} {q : DOp} {r : DRec} (h : TrD d0 tr d) (hp : pureD q d = some (d', r)) : TrD d0 (⟨q, r, d⟩ :: tr) d'
  | eff {tr : List TStep} {d d' : DS} {q : DOp} {r : DRec} (h : TrD d0 tr d) (hp : effD q d = some (d', r)) : TrD d0 (⟨q, r, d⟩ :: tr) d'

theorem passD_spec {d0 : DS} : ∀ {l : List DOp} {lm : Nat} {late late' : List DOp} {d d' : DS} {tr : List TStep} {rs' : List DRec}, passD l lm late d (tr.map (·.r)) = (late', d', rs') → TrD d0 tr d →
    ∃ tr', TrD d0 (tr' ++ tr) d' ∧ rs' = (tr' ++ tr).map (·.r) ∧ (tr'.map TStep.q ++ late').Perm (l ++ late)
  | [], lm, late, late', d, d', tr, rs', h, ht => by
    simp only [passD, Prod.mk.injEq] at h
    obtain ⟨rfl, rfl, rfl⟩ := h
    exact ⟨[], ht, rfl, by simp⟩
  | q :: l, lm, late, late', d, d', tr, rs', h, ht => by
    unfold passD at h
    have later : passD l (lm ||| 2 ^ q.i) (q :: late) d (tr.map (·.r)) = (late', d', rs') → ∃ tr', TrD d0 (tr' ++ tr) d' ∧ rs' = (tr' ++ tr).map (·.r) ∧ (tr'.map TStep.q ++ late').Perm (q :: l ++ late) := fun h => by
      obtain ⟨tr', h1, h2, h3⟩ := passD_spec h ht
      exact ⟨tr', h1, h2, h3.trans (by simp)⟩
    cases hb : Nat.beq (q.mask &&& lm) 0 with
    | false => simp only [hb, cond_false] at h; exact later h
    | true =>
      simp only [hb, cond_true] at h
      cases hp : pureD q d with
      | none => simp only [hp] at h; exact later h
      | some dr =>
        obtain ⟨d1, r⟩ := dr
        simp only [hp] at h
        obtain ⟨tr', h1, h2, h3⟩ := passD_spec (tr := ⟨q, r, d⟩ :: tr) h (.pure ht hp)
        refine ⟨tr' ++ [⟨q, r, d⟩], by simpa using h1, by simpa using h2, ?_⟩
        have : (List.map TStep.q (tr' ++ [⟨q, r, d⟩]) ++ late').Perm (q :: (tr'.map TStep.q ++ late')) := by
          simp
        exact this.trans (by simpa using h3.cons q)

theorem runD_spec {d0 : DS} : ∀ {k : Nat} {l : List DOp} {d d' : DS} {tr : List TStep} {rs' : List DRec}, runD k l d (tr.map (·.r)) = some (d', rs') → TrD d0 tr d →
    ∃ tr', TrD d0 (tr' ++ tr) d' ∧ rs' = (tr' ++ tr).map (·.r) ∧ (tr'.map TStep.q).Perm l
  | 0, l, d, d', tr, rs', h, ht => by simp [runD] at h
  | k + 1, l, d, d', tr, rs', h, ht => by
    unfold runD at h
    split at h
    · rename_i d1 rs1 hp
      simp only [Option.some.injEq, Prod.mk.injEq] at h
      obtain ⟨rfl, rfl⟩ := h
      obtain ⟨tr', h1, h2, h3⟩ := passD_spec hp ht
      exact ⟨tr', h1, h2, by simpa using h3⟩
    · rename_i q late d1 rs1 hp
      obtain ⟨tr1, h1, h2, h3⟩ := passD_spec hp ht
      cases he : effD q d1 with
      | none => simp [he] at h
      | some dr =>
        obtain ⟨d2, r⟩ := dr
        simp only [he] at h
        subst h2
        obtain ⟨tr2, g1, g2, g3⟩ := runD_spec (tr := ⟨q, r, d1⟩ :: (tr1 ++ tr)) h (.eff h1 he)
        refine ⟨tr2 ++ ⟨q, r, d1⟩ :: tr1, by simpa using g1, by simpa using g2, ?_⟩
        have e1 : (List.map TStep.q (tr2 ++ ⟨q, r, d1⟩ :: tr1)).Perm (late ++ q :: tr1.map TStep.q) := by
          simp only [List.map_append, List.map_cons]
          exact g3.append_right _
        refine e1.trans ?_
        have e2 : (late ++ q :: tr1.map TStep.q).Perm (tr1.map TStep.q ++ q :: late) := by
          refine List.perm_middle.trans (List.Perm.trans ?_ List.perm_middle.symm)
          exact (List.perm_append_comm).cons q
        exact e2.trans (by simpa using h3)
end Go.Gm
