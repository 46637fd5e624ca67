/- Operations that turn nothing: loads, fields, indexes, slices. -/
import Derived.Test.YtafggfmidkpnbaaGreatAbsMem
namespace Go.Gm

theorem allFV_one {cs : List AV} {xs : List FV} (h : allFV cs = some xs) {j : Nat} {x : FV} (hx : xs[j]? = some x) : nth cs j = some (.fv x) := by
  rw [nth_eq, allFV_some h]; simp [hx]

theorem mkAgg_sound {w : World} {X : Nat → Prop} {β : Nat → Option Loc} {cs : List AV} {vs : Array Value} (hlen : cs.length = vs.size)
    (h1 : ∀ (j : Nat) (x : AV), cs[j]? = some x → x.one = true) (h : ∀ (j : Nat) (x : AV) (v : Value), cs[j]? = some x → vs[j]? = some v → Rel w X β x v) : Rel w X β (mkAgg cs) (.agg vs) := by
  unfold mkAgg
  cases ha : allFV cs with
  | none => exact .agg cs vs hlen (fun j x hx => h1 j x (by rw [← nth_eq]; exact hx)) (fun j x v hx hv => h j x v (by rw [← nth_eq]; exact hx) hv)
  | some xs =>
    have hc := allFV_some ha
    refine .fv _ _ (.agg xs vs (by rw [← hlen, hc]; simp) (fun j x hx => ?_) (fun j x v hx hv => ?_))
    · have := h1 j (.fv x) (by rw [← nth_eq]; exact allFV_one ha (by rw [← nth_eq]; exact hx))
      exact this
    · have := h j (.fv x) v (by rw [← nth_eq]; exact allFV_one ha (by rw [← nth_eq]; exact hx)) hv
      cases this; assumption
theorem mkTup_sound {w : World} {X : Nat → Prop} {β : Nat → Option Loc} {cs : List AV} {vs : Array Value} (hlen : cs.length = vs.size)
    (h : ∀ (j : Nat) (x : AV) (v : Value), cs[j]? = some x → vs[j]? = some v → Rel w X β x v) : Rel w X β (mkTup cs) (.tuple vs) := by
  unfold mkTup
  cases ha : allFV cs with
  | none => exact .tup cs vs hlen (fun j x v hx hv => h j x v (by rw [← nth_eq]; exact hx) hv)
  | some xs =>
    have hc := allFV_some ha
    refine .fv _ _ (.tup xs vs (by rw [← hlen, hc]; simp) (fun j x v hx hv => ?_))
    have := h j (.fv x) v (by rw [← nth_eq]; exact allFV_one ha (by rw [← nth_eq]; exact hx)) hv
    cases this; assumption

/-- inversions -/
theorem Rel.int_inv {w : World} {X : Nat → Prop} {β : Nat → Option Loc} {k : IntKind} {n : Int} {v : Value} (h : Rel w X β (.fv (.int k n)) v) : v = .int k n := by
  cases h; rename_i h; cases h; rfl
theorem Rel.bool_inv {w : World} {X : Nat → Prop} {β : Nat → Option Loc} {b : Bool} {v : Value} (h : Rel w X β (.fv (.bool b)) v) : v = .bool b := by
  cases h; rename_i h; cases h; rfl
theorem asNat_some {x : AV} {n : Nat} (h : asNat x = some n) : ∃ k, x = .fv (.int k (.ofNat n)) := by
  unfold asNat at h
  split at h
  · cases h; exact ⟨_, rfl⟩
  · cases h

section
variable {P : Program} {w : World} {O F : Nat → Prop} {β : Nat → Option Loc} {G : Nat → AObj}

/-- the cells behind a pointer to an object -/
theorem SR.cellOf (h : SR w O F β G) {o : Nat} {l : Loc} (hl : β o = some l) {sz : Nat} {rows : List (List AV)} {cl : Bool} (hG : G o = .arr sz rows cl)
    {i : Nat} {row : List AV} (hi : rows[i]? = some row) {j : Nat} {x : AV} (hx : row[j]? = some x) :
    x.one = true ∧ ∃ v, w.cell? ⟨l.b, l.c + (i * l.sz + j), none⟩ = some v ∧ Rel w (bar O F) β x v := by
  have ho := h.obj o l hl
  rw [hG] at ho
  obtain ⟨h1, _, _, _, _, _, cs, e, hb, _, hr⟩ := ho
  obtain ⟨hone, v, hv, hrel⟩ := (hr i row (by rw [nth_eq]; exact hi)).2 j x (by rw [nth_eq]; exact hx)
  exact ⟨hone, v, cell_iff.2 ⟨cs, e, _, hb, by rw [h1]; exact hv⟩, hrel⟩

theorem loadS_sound {t : TypeId} {a x : AV} {H : Heap} {u : Value} (hl : loadS P t a H = some x) (hr : Rel w (bar O F) β a u) (hsr : SR w O F β G)
    (hG : ∀ o, o ∈ refOf a → G o = H.get o) : ∃ v, (Instr.loadAt t u).run P w = .ok v w ∧ Rel w (bar O F) β x v := by
  unfold loadS at hl
  cases hta : tagg P t with
  | none => simp [hta] at hl
  | some ag =>
    cases ag with
    | false =>
      simp only [hta] at hl
      split at hl
      · -- a frozen cell
        rename_i cs
        cases hn : nth cs 0 with
        | none => simp [hn] at hl
        | some y =>
          simp only [hn, Option.some.injEq] at hl; subst hl
          cases hr; rename_i hr
          cases hr with
          | fp cs ad cv hs hx hb h1 hc h =>
            refine ⟨cv 0, ?_, .fv _ _ (h 0 y hn)⟩
            have := hc 0 y hn
            simp only [Instr.loadAt, Instr.sureAddr, loadVar, Sem.run_bind, Sem.run_pure, Result.andThen_ok, run_agg hta, Bool.false_eq_true, if_false]
            rw [run_load_some (by rw [Addr.eta_spot hs]; simpa using this)]
      · rename_i o i j
        cases hget : H.get o with
        | arr sz rows cl =>
          simp only [hget] at hl
          cases hi : nth rows i with
          | none => simp [hi] at hl
          | some row =>
            simp only [hi] at hl
            cases hr with
            | ptr o i j l hb =>
              obtain ⟨_, v, hv, hrel⟩ := hsr.cellOf hb (by rw [hG o (by simp [refOf])]; exact hget) (by rw [← nth_eq]; exact hi) (by rw [← nth_eq]; exact hl)
              refine ⟨v, ?_, hrel⟩
              simp only [Instr.loadAt, Instr.sureAddr, loadVar, Sem.run_bind, Sem.run_pure, Result.andThen_ok, run_agg hta, Bool.false_eq_true, if_false]
              rw [run_load_some hv]
        | _ => simp [hget] at hl
      · cases hl
    | true =>
      cases hts : tsz P t with
      | none => simp [hta, hts] at hl
      | some size =>
        simp only [hta, hts] at hl
        split at hl
        · rename_i cs
          cases hc : cut cs 0 size with
          | none => simp [hc] at hl
          | some c =>
            simp only [hc, Option.some.injEq] at hl; subst hl
            obtain ⟨hcl, hcg⟩ := cut_some hc
            cases hr; rename_i hr
            cases hr with
            | fp cs ad cv hs hx hb h1 hcell h =>
              have hall : ∀ j, j < size → ∃ x, nth cs j = some x ∧ c[j]? = some x := fun j hj => by
                have := hcg j hj
                obtain ⟨x, hx⟩ := nth_some (l := c) (i := j) (by omega)
                rw [nth_eq] at hx
                exact ⟨x, by rw [nth_eq]; rw [hx] at this; simpa using this.symm, hx⟩
              refine ⟨.agg ((List.range size).map cv).toArray, ?_, .fv _ _ (.agg c _ (by simp [hcl]) (fun j x hx => ?_) (fun j x v hx hv => ?_))⟩
              · simp only [Instr.loadAt, Instr.sureAddr, loadVar, Sem.run_bind, Sem.run_pure, Result.andThen_ok, run_agg hta, if_true, run_size hts]
                rw [run_loadCells hs cv size (fun j hj => by obtain ⟨x, hx, _⟩ := hall j hj; exact hcell j x hx)]
                simp
              · have hj := nth_lt hx
                obtain ⟨y, hy, hy'⟩ := hall j (by omega)
                rw [nth_eq, hy'] at hx; cases hx
                exact h1 j _ hy
              · have hj := nth_lt hx
                obtain ⟨y, hy, hy'⟩ := hall j (by omega)
                rw [nth_eq, hy'] at hx; cases hx
                simp only [List.getElem?_toArray, List.getElem?_map] at hv
                rw [List.getElem?_range (by omega)] at hv
                simp at hv; subst hv
                exact h j _ hy
        · rename_i o i j
          cases hget : H.get o with
          | arr sz rows cl =>
            simp only [hget] at hl
            cases hi : nth rows i with
            | none => simp [hi] at hl
            | some row =>
              simp only [hi] at hl
              cases hc : cut row j size with
              | none => simp [hc] at hl
              | some c =>
                simp only [hc, Option.some.injEq] at hl; subst hl
                obtain ⟨hcl, hcg⟩ := cut_some hc
                cases hr with
                | ptr o i j l hb =>
                  have hall : ∀ k, k < size → ∃ x v, c[k]? = some x ∧ x.one = true ∧ w.cell? ⟨l.b, l.c + (i * l.sz + j) + k, none⟩ = some v ∧ Rel w (bar O F) β x v := fun k hk => by
                    have hk' := hcg k hk
                    obtain ⟨x, hx⟩ := nth_some (l := c) (i := k) (by omega)
                    rw [nth_eq] at hx
                    obtain ⟨hone, v, hv, hrel⟩ := hsr.cellOf hb (by rw [hG o (by simp [refOf])]; exact hget) (by rw [← nth_eq]; exact hi) (j := j + k) (x := x) (by rw [← hk']; exact hx)
                    exact ⟨x, v, hx, hone, by rw [show l.c + (i * l.sz + j) + k = l.c + (i * l.sz + (j + k)) from by omega]; exact hv, hrel⟩
                  let cv : Nat → Value := fun k => if hk : k < size then (hall k hk).choose_spec.choose else default
                  have hcv : ∀ k, k < size → ∃ x, c[k]? = some x ∧ x.one = true ∧ w.cell? ⟨l.b, l.c + (i * l.sz + j) + k, none⟩ = some (cv k) ∧ Rel w (bar O F) β x (cv k) := fun k hk => by
                    have := (hall k hk).choose_spec.choose_spec
                    refine ⟨(hall k hk).choose, ?_⟩
                    simp only [cv, hk, dif_pos]
                    exact this
                  refine ⟨.agg ((List.range size).map cv).toArray, ?_, mkAgg_sound (by simp [hcl]) (fun k x hx => ?_) (fun k x v hx hv => ?_)⟩
                  · simp only [Instr.loadAt, Instr.sureAddr, loadVar, Sem.run_bind, Sem.run_pure, Result.andThen_ok, run_agg hta, if_true, run_size hts]
                    rw [run_loadCells (a := ⟨l.b, l.c + (i * l.sz + j), none⟩) rfl cv size (fun k hk => by obtain ⟨x, _, _, hv, _⟩ := hcv k hk; exact hv)]
                    simp
                  · have hk : k < size := by have := (List.getElem?_eq_some_iff.1 hx).1; omega
                    obtain ⟨y, hy, hone, _, _⟩ := hcv k hk
                    rw [hy] at hx; cases hx; exact hone
                  · have hk : k < size := by have := (List.getElem?_eq_some_iff.1 hx).1; omega
                    obtain ⟨y, hy, _, _, hrel⟩ := hcv k hk
                    rw [hy] at hx; cases hx
                    simp only [List.getElem?_toArray, List.getElem?_map] at hv
                    rw [List.getElem?_range hk] at hv
                    simp at hv; subst hv
                    exact hrel
          | _ => simp [hget] at hl
        · cases hl
end
end Go.Gm
