/- The range over a function. -/
import Derived.Test.YtafggfmidkpnbaaGreatAbsRange
namespace Go.Gm
section
variable {P : Program} {w w0 w' : World} {O : Nat → Prop} {F : Fo} {X : Nat → Prop} {β : Nat → Option Loc} {b : Nat} {rl : Option Nat} {H : Heap} {opt : Opts} {K : Fns} {n : Nat}

/-- a new object of a loop's, a block for deferred calls -/
theorem SRH.pushOne (hsr : SRH w O F β H) {x : AObj} {ob : Obj} {l : Loc} {H' : Heap} (hp : H.push [x] = some H') (hlb : l.b = w.heap.size)
    (hx : ∀ (w' : World) (O' : Nat → Prop) (β' : Nat → Option Loc), w' = { w with heap := w.heap.push ob } → Step w O β w' O' β' → ObjR w' (bar O' F) β' l x) :
    ∃ O' β', Step w O β { w with heap := w.heap.push ob } O' β' ∧ SRH { w with heap := w.heap.push ob } O' F β' H' ∧ β' H.n = some l := by
  have hh := hsr.2.1 H.n (Nat.le_refl _)
  obtain ⟨h1, h2⟩ := hsr.1.new (p := H.n) (l := l) (x := x) (ob := ob) hh.1 hh.2 hlb hx
  refine ⟨_, _, h2, hsr.push hp h1 (fun p hpn => ?_), by unfold Go.Gm.upd; rw [if_pos rfl]⟩
  unfold Go.Gm.upd
  rw [if_neg (by simp only [List.length_cons, List.length_nil] at hpn; omega)]

theorem rangeA_sound (hK : KOk P K) : RangeOk P K := by
  intro n g ps assign body s e s' h rl w O F β a Q hst hq
  unfold rangeA at h
  cases hg : evO n g with
  | none => simp [hg] at h
  | some fg =>
    simp only [hg] at h
    refine wpIn_rangeFunc fun fn _ => ?_
    -- entering
    have entered : ∀ (db : Nat) (H1 : Heap) (D1 : List ADef), (match s.rd with
      | some l => (match s.H.get l with
        | .loop _ _ _ _ _ _ _ db => some (db, s.H, s.D)
        | _ => none)
      | none => (match s.H.push [.dblk] with
        | some H1 => some (s.H.n, H1, .coll s.H.n :: s.D)
        | none => none)) = some (db, H1, D1) →
      ∃ (w1 : World) (O1 : Nat → Prop) (β1 : Nat → Option Loc) (ld : Loc) (mark : List Deferred), Step w O β w1 O1 β1 ∧ SRH w1 O1 F β1 H1 ∧ β1 db = some ld ∧ All2 (DfR w1 (bar O1 F) β1) D1 (mark ++ a.defers) ∧
        ∀ (lp : Loop), (Instr.enterLoop fn a.tmps ps assign body rl).run P w = .ok (w1.heap.size, mark) { w1 with heap := w1.heap.push (.loop { state := .ready, pending := none, fn, tmps := a.tmps, params := ps, assign, body, defers := ld.b }) } := by
      intro db H1 D1 he
      have hrd := hst.rd
      cases hr : s.rd with
      | some l =>
        rw [hr] at hrd
        cases rl with
        | none => exact hrd.elim
        | some rb =>
          obtain ⟨ll, hll, rfl⟩ := hrd
          simp only [hr] at he
          split at he
          · rename_i st pe m T ps' as' bo' db' hgl
            simp only [Option.some.injEq, Prod.mk.injEq] at he
            obtain ⟨rfl, rfl, rfl⟩ := he
            obtain ⟨lp, ld, hb, _, _, _, _, _, _, hld, hdb⟩ := hst.heap.loopOf hgl hll
            refine ⟨w, O, β, ld, [], Step.refl _ _ _, hst.heap, hld, hst.dfs, fun _ => ?_⟩
            simp [Instr.enterLoop, run_getLoop hb, hdb]
          · cases he
      | none =>
        rw [hr] at hrd
        cases rl with
        | some _ => exact hrd.elim
        | none =>
          simp only [hr] at he
          cases hp : s.H.push [.dblk] with
          | none => simp [hp] at he
          | some H1' =>
            simp only [hp, Option.some.injEq, Prod.mk.injEq] at he
            obtain ⟨rfl, rfl, rfl⟩ := he
            obtain ⟨O1, β1, h1, h2, h3⟩ := hst.heap.pushOne (l := ⟨w.heap.size, 0, 0, 0, 0, false⟩) (ob := .deferred (some [])) hp rfl (fun w' O' β' hw _ => by subst hw; simp [ObjR])
            refine ⟨_, O1, β1, _, [{ target := .collected w.heap.size, args := #[] }], h1, h2, h3, .cons ⟨_, h3, rfl⟩ (DfR.mono (h1.still F) h1.ext hst.dfs), fun _ => ?_⟩
            simp [Instr.enterLoop]
            rfl
    split at h
    · cases h
    · rename_i db H1 D1 he
      obtain ⟨w1, O1, β1, ld, mark, hs1, hsr1, hld, hdf, hrun⟩ := entered db H1 D1 he
      split at h
      · cases h
      · rename_i H2 hp2
        obtain ⟨O2, β2, hs2, hsr2, hlo⟩ := hsr1.pushOne (l := ⟨w1.heap.size, 0, 0, 0, 0, false⟩) (ob := .loop { state := .ready, pending := none, fn, tmps := a.tmps, params := ps, assign, body, defers := ld.b }) hp2 rfl
          (fun w' O' β' hw hst' => ⟨fn, a.tmps, ld, by subst hw; simp, (hst.fr.mono (hs1.still F) hs1.ext).mono (hst'.still F) hst'.ext, hst'.ext _ _ hld⟩)
        have hrun := hrun default
        generalize hW : ({ w1 with heap := w1.heap.push (.loop { state := .ready, pending := none, fn, tmps := a.tmps, params := ps, assign, body, defers := ld.b }) } : World) = W2 at hs2 hsr2 hrun
        have hs12 := hs1.trans hs2
        have hgr := (evO_sound hg hst.fr).mono (hs12.still F) hs12.ext
        -- the call
        have call : ∀ (f : FuncId) (cap : List AV) (vc : Array Value) (u : AV) (H3 : Heap), K.fn f (.yld H1.n :: cap) H2 = some (u, H3) → a.eval g = .func (.func f) #[] vc → Rels W2 (bar O2 F) β2 cap vc →
            (match H3.get H1.n with
          | .loop st pending n' T' ps' a' b' db' =>
            (match st with
            | .busy => none
            | _ =>
              (match pending with
              | none => some (AExit.normal, ({ T := s.T, H := H3.set H1.n (.loop .exhausted pending n' T' ps' a' b' db'), D := D1, rd := s.rd } : St))
              | some c => (match exitOf c with
                | some e => some (e, { T := s.T, H := H3.set H1.n (.loop .exhausted pending n' T' ps' a' b' db'), D := D1, rd := s.rd })
                | none => none)))
          | _ => none) = some (e, s') →
            ∃ (l : Nat) (mark : List Deferred) (w₁ : World) (d : Deferred) (w₁' : World) (f : FuncId) (args : Array Value) (w₂ : World),
      (Instr.enterLoop fn a.tmps ps assign body (Fc rl).round).run P w = .ok (l, mark) w₁ ∧
      (resolve a.eval (rangeCall g l) 0).run P w₁ = .ok d w₁' ∧
      (∀ f', Target.leads P w₁' d.target d.args = some f' → (Fc rl).fn f') ∧
      (invoke d.target d.args).run P w₁' = .ok (.enter f args) w₂ ∧
      ((Fc rl).depth.isSome = true → 1 ≤ 0) ∧
      CallsIn (Fc rl) (0 - 1) P f args w₂ (rangePost (Fc rl) 0 P l Q { a with defers := mark ++ a.defers }) := by
          intro f cap vc u H3 hfn hev hrc hfin
          obtain ⟨⟨g0, e1, e2, e3⟩, hcall⟩ := hK.fn f _ _ _ _ hfn
          have e3' : g0.name ≠ "runtime.NumGoroutine" := by simpa using e3
          have e2' : g0.body ≠ none := by intro c; rw [c] at e2; simp at e2
          have hargs : Rels W2 (bar O2 F) β2 (.yld H1.n :: cap) (#[.func (.yield w1.heap.size) #[] #[]] ++ vc) := by
            have h1 : Rels W2 (bar O2 F) β2 [.yld H1.n] #[.func (.yield w1.heap.size) #[] #[]] :=
              ⟨rfl, fun j x v hx hv => by
                rw [nth_eq] at hx
                cases j <;> simp at hx hv
                subst hx; subst hv
                exact .yld H1.n _ hlo⟩
            exact h1.append hrc
          have hc := hcall _ O2 F β2 _ hsr2 hargs
          refine ⟨w1.heap.size, mark, W2, { target := .fn (.func f) vc, args := #[.func (.yield w1.heap.size) #[] #[]] }, W2, f, #[.func (.yield w1.heap.size) #[] #[]] ++ vc, W2, hrun, ?_, fun _ _ => trivial, ?_, fun hh => by simp [Fc, Fence.wide] at hh, ?_⟩
          · have hcst : a.eval (.const (.func (.yield w1.heap.size) #[] #[])) = .func (.yield w1.heap.size) #[] #[] := rfl
            simp [resolve, hev, hcst, Deferred.ofValue]
          · simp [invoke, callFunc, e1, e3', e2']
          · have hc' : CallsIn (Fc rl) (0 - 1) P f (#[.func (.yield w1.heap.size) #[] #[]] ++ vc) _ _ := hc
            refine CallsIn.mono hc' ?_
            rintro en w3 ⟨u', rfl, O3, β3, q1, q2, q3⟩
            split at hfin
            · rename_i st pe n' T' ps' as' bo' db' hgl
              have hl3 := q1.ext _ _ hlo
              obtain ⟨lp, ld3, hb3, hst3, hpe3, hf3, hps3, has3, hbo3, hld3, hdb3⟩ := q2.loopOf hgl hl3
              subst hpe3
              have hnb : st ≠ .busy := by rintro rfl; simp at hfin
              obtain ⟨hs4', hsr4'⟩ := q2.setLoop (st' := .exhausted) (pe' := lp.pending) (lp' := { lp with state := .exhausted }) hgl hl3 hb3 rfl hf3 hps3 has3 hbo3 hld3 hdb3
              have hend' : (Instr.endLoop w1.heap.size).run P w3 = .ok lp.pending { w3 with heap := w3.heap.setIfInBounds w1.heap.size (.loop { lp with state := .exhausted }) } := by
                have hnb' : ¬ (lp.state = .busy) := by rw [hst3]; exact hnb
                have hg3 : (Instr.getLoop w1.heap.size).run P w3 = .ok lp w3 := run_getLoop hb3
                have hs3 : (setObj w1.heap.size (.loop { lp with state := .exhausted })).run P w3 = .ok () { w3 with heap := w3.heap.setIfInBounds w1.heap.size (.loop { lp with state := .exhausted }) } := run_setLoop hb3
                simp [Instr.endLoop, hg3, hnb', hs3]
              obtain ⟨W4, hs4, hsr4, hend⟩ : ∃ W4, Step w3 O3 β3 W4 O3 β3 ∧ SRH W4 O3 F β3 (H3.set H1.n (.loop .exhausted lp.pending n' T' ps' as' bo' db')) ∧ (Instr.endLoop w1.heap.size).run P w3 = .ok lp.pending W4 := ⟨_, hs4', hsr4', hend'⟩
              have hs14 := (hs12.trans q1).trans hs4
              have hstF : StR rl W4 O3 F β3 n { T := s.T, H := H3.set H1.n (.loop .exhausted lp.pending n' T' ps' as' bo' db'), D := D1, rd := s.rd } { a with defers := mark ++ a.defers } :=
                ⟨hsr4, hst.fr.mono (hs14.still F) hs14.ext, DfR.mono (((hs2.trans q1).trans hs4).still F) ((hs2.trans q1).trans hs4).ext hdf, hst.rd.mono hs14.ext⟩
              refine ⟨lp.pending, _, hend, ?_⟩
              have hfin' : (match lp.pending with
                | none => some (AExit.normal, ({ T := s.T, H := H3.set H1.n (.loop .exhausted lp.pending n' T' ps' as' bo' db'), D := D1, rd := s.rd } : St))
                | some c => (match exitOf c with
                  | some e => some (e, { T := s.T, H := H3.set H1.n (.loop .exhausted lp.pending n' T' ps' as' bo' db'), D := D1, rd := s.rd })
                  | none => none)) = some (e, s') := by
                cases st <;> first | exact hfin | exact absurd rfl hnb
              generalize ({ T := s.T, H := H3.set H1.n (.loop .exhausted lp.pending n' T' ps' as' bo' db'), D := D1, rd := s.rd } : St) = S1 at hfin' hstF
              cases hpe : lp.pending with
              | none =>
                simp only [hpe, Option.some.injEq, Prod.mk.injEq] at hfin'
                obtain ⟨rfl, rfl⟩ := hfin'
                exact hq _ _ O3 β3 hs14 hstF
              | some c =>
                simp only [hpe] at hfin'
                simp only []
                cases hex : exitOf c with
                | none => simp [hex] at hfin'
                | some e' =>
                  simp only [hex, Option.some.injEq, Prod.mk.injEq] at hfin'
                  obtain ⟨rfl, rfl⟩ := hfin'
                  have hdone := hq _ _ O3 β3 hs14 hstF
                  unfold exitOf at hex
                  split at hex
                  · cases hex; exact wpIn_ret hdone
                  · cases hex; exact wpIn_exit hdone
                  · cases hex
            · cases hfin
        cases hfg : fg s.T with
        | fv x =>
          cases x with
          | fn f =>
            simp only [hfg] at h
            cases hfn : K.fn f [.yld H1.n] H2 with
            | none => simp [hfn] at h
            | some uH =>
              obtain ⟨u, H3⟩ := uH
              simp only [hfn] at h
              rw [hfg] at hgr
              exact call f [] #[] u H3 hfn hgr.fv_inv.fn_inv ⟨rfl, fun j x v hx => by rw [nth_eq] at hx; simp at hx⟩ h
          | _ => simp [hfg] at h
        | clo f cap =>
          simp only [hfg] at h
          cases hfn : K.fn f (.yld H1.n :: cap) H2 with
          | none => simp [hfn] at h
          | some uH =>
            obtain ⟨u, H3⟩ := uH
            simp only [hfn] at h
            rw [hfg] at hgr
            obtain ⟨vc, hvc, hrc⟩ := hgr.clo_inv
            exact call f cap vc u H3 hfn hvc hrc h
        | _ => simp [hfg] at h
end
end Go.Gm
