/- Functions. -/
import Derived.Test.YtafggfmidkpnbaaGreatAbsCode2
namespace Go.Gm

/-- no function is one of those that a call does not enter -/
def NoNum (P : Program) : Prop := ∀ (f : FuncId) (fn : Func), P.funcs[f]? = some fn → (fn.name == "runtime.NumGoroutine") = false
/-- deferred functions that only look for a panic, where there is none -/
def RecOk (P : Program) (opt : Opts) : Prop := ∀ f, opt.reco f = true → Enters P f ∧ ∀ (w : World) (vs : Array Value), CallsDIn Fence.wide 0 P f vs .returning w (fun e u w' => (∃ v, e = .returned v) ∧ u = .returning ∧ w' = w)

section
variable {P : Program} {w w0 w' : World} {O : Nat → Prop} {F : Fo} {X : Nat → Prop} {β : Nat → Option Loc} {b : Nat} {rl : Option Nat} {H : Heap} {opt : Opts} {K : Fns} {n : Nat}

theorem entry_frame {args : List AV} {vs : Array Value} (h : Rels w X β args vs) (hn : args.length ≤ n) : FrR w X β n (frameOf args) (vs ++ Array.replicate (n - vs.size) undef) := by
  refine ⟨by have := h.1; simp; omega, fun t v hv => ?_⟩
  rw [frameOf_eq]
  rcases Nat.lt_or_ge t args.length with hlt | hge
  · rw [Array.getElem?_append_left (by rw [← h.1]; exact hlt)] at hv
    have : args[t]? = some args[t] := by simp [hlt]
    rw [this]
    exact h.2 t _ v (by rw [nth_eq]; exact this) hv
  · rw [Array.getElem?_append_right (by rw [← h.1]; exact hge), Array.getElem?_replicate] at hv
    rw [List.getElem?_eq_none hge]
    split at hv
    · cases hv; exact .fv _ _ .undef
    · cases hv

theorem loadVar_of {t : TypeId} {u v : Value} (h : (Instr.loadAt t u).run P w = .ok v w) : (do loadVar t (← asAddr u) : Sem Value).run P w = .ok v w := by
  cases u <;> simp only [Instr.loadAt, Instr.sureAddr] at h <;> first | (simp [stuck] at h; done) | skip
  rename_i a
  cases a with
  | none => simp [stuck] at h
  | some a => simpa [asAddr] using h

theorem resVars_sound {T : Fr} {tmps : Array Value} (hf : FrR w (bar O F) β n T tmps) (hsr : SRH w O F β H) : ∀ {l : List ResultVar} {vs : List AV} {D : List ADef} {rd : Option Nat}, resVars P n l { T := T, H := H, D := D, rd := rd } = some vs →
    ∃ us : List Value, (l.mapM (fun | .tmp t => pure (tmps.getD t undef) | .cell a t => do loadVar t (← asAddr (tmps.getD a undef)) : ResultVar → Sem Value)).run P w = .ok us w ∧ vs.length = us.length ∧
      ∀ (j : Nat) (x : AV) (v : Value), vs[j]? = some x → us[j]? = some v → Rel w (bar O F) β x v
  | [], vs, D, rd, h => by
    simp only [resVars, Option.some.injEq] at h; subst h
    exact ⟨[], by simp, rfl, fun j x v hx => by simp at hx⟩
  | r :: l, vs, D, rd, h => by
    unfold resVars at h
    simp only [] at h
    cases h1 : resVar P n r { T := T, H := H, D := D, rd := rd } with
    | none => simp [h1] at h
    | some x =>
      simp only [h1] at h
      cases h2 : resVars P n l { T := T, H := H, D := D, rd := rd } with
      | none => simp [h2] at h
      | some xs =>
        simp only [h2, Option.some.injEq] at h; subst h
        obtain ⟨us, g1, g2, g3⟩ := resVars_sound hf hsr h2
        have getD : ∀ t, Nat.blt t n = true → Rel w (bar O F) β (T t) (tmps.getD t undef) := fun t ht => by
          have hlt : t < tmps.size := by rw [hf.1]; simpa using ht
          have := hf.2 t tmps[t] (by simp [hlt])
          simpa [Array.getD_eq_getD_getElem?, Array.getElem?_eq_getElem hlt] using this
        have head : ∃ u, (match r with | .tmp t => pure (tmps.getD t undef) | .cell a t => do loadVar t (← asAddr (tmps.getD a undef)) : Sem Value).run P w = .ok u w ∧ Rel w (bar O F) β x u := by
          cases r with
          | tmp t =>
            unfold resVar at h1
            cases ht : Nat.blt t n with
            | false => simp [ht] at h1
            | true =>
              simp only [ht, cond_true, Option.some.injEq] at h1; subst h1
              exact ⟨_, rfl, getD t ht⟩
          | cell a t =>
            unfold resVar at h1
            cases ht : Nat.blt a n with
            | false => simp [ht] at h1
            | true =>
              simp only [ht, cond_true] at h1
              obtain ⟨v, hv, hr⟩ := loadS_sound (P := P) h1 (getD a ht) hsr.1 (fun _ _ => rfl)
              exact ⟨v, loadVar_of hv, hr⟩
        obtain ⟨u, g4, g5⟩ := head
        refine ⟨u :: us, ?_, by simp [g2], fun j y v hy hv => ?_⟩
        · rw [List.mapM_cons]
          simp only [Sem.run_bind]
          cases r <;> simp only [] at g4 ⊢ <;> (rw [g4]; simp only [Result.andThen_ok]; rw [g1]; rfl)
        · cases j with
          | zero => simp at hy hv; subst hy; subst hv; exact g5
          | succ j => simp at hy hv; exact g3 j y v hy hv

noncomputable def resOf : List AV → AV
  | [v] => v
  | vs => mkTup vs
theorem andThen_eq {α β : Type} {r : Result α} {a : α} {w : World} (h : r = .ok a w) (f : α → World → Result β) : r.andThen f = f a w := by rw [h]; rfl
theorem results_sound {fn : Func} {T : Fr} {tmps : Array Value} {vs : List AV} (hf : FrR w (bar O F) β n T tmps) (hsr : SRH w O F β H) (h : resVars P n fn.results.toList { T := T, H := H, D := [], rd := none } = some vs) :
    ∃ u, (results fn tmps).run P w = .ok u w ∧ Rel w (bar O F) β (resOf vs) u := by
  obtain ⟨us, h1, h2, h3⟩ := resVars_sound hf hsr h
  have hm : (fn.results.mapM (fun | .tmp t => pure (tmps.getD t undef) | .cell a t => do loadVar t (← asAddr (tmps.getD a undef)) : ResultVar → Sem Value)).run P w = .ok us.toArray w := by
    rw [Array.mapM_eq_mapM_toList]
    simp only [map_eq_pure_bind, Sem.run_bind]
    exact (andThen_eq h1 _).trans rfl
  have hrun : (results fn tmps).run P w = .ok (if hh : us.toArray.size = 1 then us.toArray[0] else .tuple us.toArray) w := by
    unfold results
    rw [Sem.run_bind]
    exact (andThen_eq hm _).trans rfl
  refine ⟨_, hrun, ?_⟩
  by_cases hone : us.toArray.size = 1
  · rw [dif_pos hone]
    have hl : vs.length = 1 := by rw [h2]; simpa using hone
    match vs, hl, h3 with
    | [v], _, h3 =>
      simp only [resOf]
      exact h3 0 v _ rfl (by simp)
  · rw [dif_neg hone]
    have hl : vs.length ≠ 1 := by rw [h2]; simpa using hone
    have key : Rel w (bar O F) β (mkTup vs) (.tuple us.toArray) := mkTup_sound (by simpa using h2) fun j x v hx hv => h3 j x v hx (by simpa using hv)
    have hre : resOf vs = mkTup vs := by
      unfold resOf
      split
      · exact absurd rfl hl
      · rfl
    rw [hre]; exact key

theorem leave_sound (hRec : RecOk P opt) {fn : Func} {tmps : Array Value} {R : Ending → World → Prop} : ∀ {D : List ADef} {ds : List Deferred} {H H' : Heap} {w : World}, leaveA opt D H = some H' → All2 (DfR w (bar O F) β) D ds → SRH w O F β H →
    (∀ w', Step w O β w' O β → SRH w' O F β H' → ∃ u, (results fn tmps).run P w' = .ok u w' ∧ R (.returned u) w') → LeavesInM Fence.wide 0 P fn tmps R ds .returning w
  | [], _, H, H', w, h, .nil, hsr, hr => by
    simp only [leaveA, Option.some.injEq] at h; subst h
    obtain ⟨u, h1, h2⟩ := hr w (Step.refl _ _ _) hsr
    exact ⟨u, h1, h2⟩
  | d :: D, e :: ds, H, H', w, h, .cons hd ht, hsr, hr => by
    cases d with
    | coll o =>
      obtain ⟨l, hl, rfl⟩ := hd
      unfold leaveA at h
      cases hg : H.get o with
      | dblk =>
        simp only [hg] at h
        have ha : (H.get o).alive = true := by rw [hg]; rfl
        have ho := hsr.1.obj o l hl
        rw [hg] at ho
        have hlt : l.b < w.heap.size := (Array.getElem?_eq_some_iff.1 ho).1
        have hoth : ∀ b', b' ≠ l.b → (w.heap.setIfInBounds l.b (.deferred none))[b']? = w.heap[b']? := fun b' hb' => by simp [Ne.symm hb']
        have htk : (Instr.takeDeferred l.b).run P w = .ok [] { w with heap := w.heap.setIfInBounds l.b (.deferred none) } := by
          have hgo : (getObj l.b).run P w = .ok (.deferred (some [])) w := by
            simp only [getObj, Sem.run]; rw [show w.heap[l.b]? = some (.deferred (some [])) from ho]
          have hse : (setObj l.b (.deferred none)).run P w = .ok () { w with heap := w.heap.setIfInBounds l.b (.deferred none) } := by
            simp only [setObj, Sem.run]; rw [show w.heap[l.b]? = some (.deferred (some [])) from ho]
          simp [Instr.takeDeferred, hgo, hse]
        have hturn := hsr.1.turn (w' := { w with heap := w.heap.setIfInBounds l.b (.deferred none) }) (x := .dead) ha hl hoth (by simp) ⟨rfl, rfl, rfl⟩ trivial
        refine ⟨by simp, .inl ⟨l.b, _, rfl, htk, ?_⟩⟩
        refine leave_sound hRec h (DfR.mono (hturn.2.still F) hturn.2.ext ht) (hsr.upd (hsr.lt_n ha) hturn.1) fun w' h1 h2 => hr w' (hturn.2.trans h1) h2
      | _ => simp [hg] at h
    | call f cap =>
      obtain ⟨vs, rfl, _⟩ := hd
      unfold leaveA at h
      cases hre : opt.reco f with
      | false => simp [hre] at h
      | true =>
        simp only [hre, cond_true] at h
        obtain ⟨he, hc⟩ := hRec f hre
        obtain ⟨g, g1, g2, g3⟩ := he
        have g3' : g.name ≠ "runtime.NumGoroutine" := by simpa using g3
        have g2' : g.body ≠ none := by intro c; rw [c] at g2; simp at g2
        have hcd := hc w vs
        refine ⟨by simp, .inr ⟨fun hh => by simp [Fence.wide] at hh, .func f, vs, f, vs, rfl, ?_, fun _ _ => trivial, hcd.1, fun c cs hu hroom => ?_⟩⟩
        · simp [invoke, callFunc, g1, g3', g2']
        · obtain ⟨e, u', w', fr, ⟨⟨v, rfl⟩, rfl, rfl⟩, q2⟩ := hcd.2 c cs hu hroom
          refine ⟨.returned v, .returning, w', fr, ?_, q2⟩
          exact leave_sound hRec h ht hsr hr

theorem fnA_sound (hK : KOk P K) (hS : SumOk P opt) (hD : DrawOk P opt K) (hR : RangeOk P K) (hRec : RecOk P opt) (hN : NoNum P) {L : Nat} {f : FuncId} {args : List AV} {v : AV} {H' : Heap} (h : fnA P opt L K f args H = some (v, H')) :
    Enters P f ∧ ∀ (w : World) (O : Nat → Prop) (F : Fo) β (vs : Array Value), SRH w O F β H → Rels w (bar O F) β args vs → CallsIn Fence.wide 0 P f vs w (fun e w' => ∃ u, e = .returned u ∧ ERes w O F β v H' u w') := by
  unfold fnA at h
  cases hfn : P.funcs[f]? with
  | none => simp [hfn] at h
  | some fn =>
    simp only [hfn] at h
    unfold bodyA at h
    cases hb : fn.body with
    | none => simp [hb] at h
    | some c =>
      simp only [hb] at h
      cases hlen : Nat.ble (lenN args) fn.ntmps with
      | false => simp [hlen] at h
      | true =>
        simp only [hlen, cond_true] at h
        rw [Nat.ble_eq, lenN_eq] at hlen
        refine ⟨⟨fn, hfn, by rw [hb]; rfl, hN f fn hfn⟩, fun w O F β vs hsr hargs => ?_⟩
        cases hrun : codeA P opt L K fn.ntmps c { T := frameOf args, H := H, D := [], rd := none } with
        | none => simp [hrun] at h
        | some es =>
          obtain ⟨e, s⟩ := es
          simp only [hrun] at h
          have hne : (∀ id, e ≠ .exit id) ∧ (match leaveA opt s.D s.H with
            | some H' => (match resVars P fn.ntmps fn.results.toList { T := s.T, H := H', D := [], rd := none } with
              | some [v] => some (v, H')
              | some vs => some (mkTup vs, H')
              | none => none)
            | none => none) = some (v, H') := by
            cases e with
            | exit id => simp at h
            | normal => exact ⟨fun id c => by (cases c), h⟩
            | ret => exact ⟨fun id c => by (cases c), h⟩
          obtain ⟨hexit, h⟩ := hne
          cases hlv : leaveA opt s.D s.H with
          | none => simp [hlv] at h
          | some H2 =>
            simp only [hlv] at h
            cases hres : resVars P fn.ntmps fn.results.toList { T := s.T, H := H2, D := [], rd := none } with
            | none => simp [hres] at h
            | some rs =>
              have hv : v = (resOf rs) ∧ H' = H2 := by
                match rs with
                | [] => simp only [hres, Option.some.injEq, Prod.mk.injEq] at h; exact ⟨h.1.symm, h.2.symm⟩
                | [x] => simp only [hres, Option.some.injEq, Prod.mk.injEq] at h; exact ⟨h.1.symm, h.2.symm⟩
                | x :: y :: l => simp only [hres, Option.some.injEq, Prod.mk.injEq] at h; exact ⟨h.1.symm, h.2.symm⟩
              obtain ⟨rfl, rfl⟩ := hv
              have hst : StR none w O F β fn.ntmps { T := frameOf args, H := H, D := [], rd := none } { tmps := vs ++ Array.replicate (fn.ntmps - vs.size) undef, defers := [] } :=
                ⟨hsr, entry_frame hargs hlen, .nil, trivial⟩
              refine callsIn_of_wp_marks hfn hb trivial ?_
              refine codeA_sound hK hS hD hR c _ e s hrun none w O F β _ _ hst fun a' w' O' β' g1 g2 => ?_
              have key : LeavesInM Fence.wide 0 P fn a'.tmps (fun e w' => ∃ u, e = .returned u ∧ ERes w O F β (resOf rs) H' u w') a'.defers .returning w' := by
                refine leave_sound hRec hlv g2.dfs g2.heap fun w2 q1 q2 => ?_
                obtain ⟨u, r1, r2⟩ := results_sound (g2.fr.mono (q1.still F) q1.ext) q2 hres
                exact ⟨u, r1, u, rfl, O', β', g1.trans q1, q2, r2⟩
              cases e with
              | normal => exact key
              | ret => exact key
              | exit id => exact absurd rfl (hexit id)
end
end Go.Gm
