/- Rounds, ranges over functions. -/
import Derived.Test.YtafggfmidkpnbaaGreatAbsFn
namespace Go.Gm
section
variable {P : Program} {w w0 w' : World} {O : Nat → Prop} {F : Fo} {X : Nat → Prop} {β : Nat → Option Loc} {b : Nat} {rl : Option Nat} {H : Heap} {opt : Opts} {K : Fns} {n : Nat}

theorem run_getLoop {l : Nat} {lp : Loop} (h : w.heap[l]? = some (.loop lp)) : (Instr.getLoop l).run P w = .ok lp w := by
  have hg : (getObj l).run P w = .ok (.loop lp) w := by simp [getObj, Sem.run, h]
  simp [Instr.getLoop, hg]
theorem run_setLoop {l : Nat} {lp lp' : Loop} (h : w.heap[l]? = some (.loop lp)) : (setObj l (.loop lp')).run P w = .ok () { w with heap := w.heap.setIfInBounds l (.loop lp') } := by
  simp [setObj, Sem.run, h]

theorem zipSet_sound : ∀ {ps : List Nat} {args : List AV} {T : Fr} {tmps : Array Value} {vs : List Value}, FrR w X β n T tmps → args.length = vs.length → (∀ (j : Nat) (x : AV) (v : Value), args[j]? = some x → vs[j]? = some v → Rel w X β x v) →
    FrR w X β n (zipSet n ps args T) ((ps.zip vs).foldl (fun tmps (t, a) => tmps.setIfInBounds t a) tmps)
  | [], args, T, tmps, vs, hf, hl, hr => by simpa [zipSet] using hf
  | p :: ps, [], T, tmps, vs, hf, hl, hr => by
    have : vs = [] := by simpa using hl.symm
    subst this; simpa [zipSet] using hf
  | p :: ps, x :: args, T, tmps, vs, hf, hl, hr => by
    cases vs with
    | nil => simp at hl
    | cons v vs =>
      unfold zipSet
      simp only [List.zip_cons_cons, List.foldl_cons]
      exact zipSet_sound (hf.put (hr 0 x v rfl rfl) (some p)) (by simpa using hl) fun j y u hy hu => hr (j + 1) y u (by simpa using hy) (by simpa using hu)

/-- a loop's record is turned -/
theorem SRH.setLoop (hsr : SRH w O F β H) {o : Nat} {l ld : Loc} {st st' : LoopState} {pe pe' : Option Code} {m : Nat} {T : Fr} {ps : List Nat} {as bo : Code} {db : Nat} {lp lp' : Loop} (hg : H.get o = .loop st pe m T ps as bo db) (hl : β o = some l)
    (hb : w.heap[l.b]? = some (.loop lp)) (hlp : lp' = { lp with state := st', pending := pe' }) (hf : FrR w (bar O F) β m T lp.tmps) (hps : lp.params = ps.toArray) (has : lp.assign = as) (hbo : lp.body = bo) (hld : β db = some ld) (hdb : lp.defers = ld.b) :
    Step w O β { w with heap := w.heap.setIfInBounds l.b (.loop lp') } O β ∧ SRH { w with heap := w.heap.setIfInBounds l.b (.loop lp') } O F β (H.set o (.loop st' pe' m T ps as bo db)) := by
  have ha : (H.get o).alive = true := by rw [hg]; rfl
  have hlt : l.b < w.heap.size := (Array.getElem?_eq_some_iff.1 hb).1
  have ho : ∀ b', b' ≠ l.b → (w.heap.setIfInBounds l.b (.loop lp'))[b']? = w.heap[b']? := fun b' hb' => by simp [Ne.symm hb']
  have hst : Step w O β { w with heap := w.heap.setIfInBounds l.b (.loop lp') } O β := Step.of_wrote (hsr.1.own o l ha hl) ho (by simp) ⟨rfl, rfl, rfl⟩
  refine ⟨hst, hsr.upd (hsr.lt_n ha) (hsr.1.turn (w' := { w with heap := w.heap.setIfInBounds l.b (.loop lp') }) ha hl ho (by simp) ⟨rfl, rfl, rfl⟩ ?_).1⟩
  refine ⟨lp.fn, lp.tmps, ld, ?_, hf.mono (hst.still F) (Ext.refl _), hld⟩
  subst hlp
  simp [hlt, ← hps, ← has, ← hbo, hdb]

/-- the record behind a loop's object -/
theorem SRH.loopOf (hsr : SRH w O F β H) {o : Nat} {l : Loc} {st : LoopState} {pe : Option Code} {m : Nat} {T : Fr} {ps : List Nat} {as bo : Code} {db : Nat} (hg : H.get o = .loop st pe m T ps as bo db) (hl : β o = some l) :
    ∃ lp ld, w.heap[l.b]? = some (.loop lp) ∧ lp.state = st ∧ lp.pending = pe ∧ FrR w (bar O F) β m T lp.tmps ∧ lp.params = ps.toArray ∧ lp.assign = as ∧ lp.body = bo ∧ β db = some ld ∧ lp.defers = ld.b := by
  have ho := hsr.1.obj o l hl
  rw [hg] at ho
  obtain ⟨fn, tmps, ld, hh, hf, hd⟩ := ho
  exact ⟨_, ld, hh, rfl, rfl, hf, rfl, rfl, rfl, hd, rfl⟩

theorem ylA_sound (hK : KOk P K) (hS : SumOk P opt) (hD : DrawOk P opt K) (hR : RangeOk P K) {L : Nat} {o : Nat} {args : List AV} {v : AV} {H' : Heap} (h : ylA P opt L K o args H = some (v, H')) :
    ∀ (w : World) (O : Nat → Prop) (F : Fo) β (vs : Array Value) (l : Loc), SRH w O F β H → β o = some l → Rels w (bar O F) β args vs → ∃ lp, w.heap[l.b]? = some (.loop lp) ∧ vs.size = lp.params.size ∧
    RoundIn Fence.wide 0 P l.b lp.fn (setParams lp.params vs lp.tmps) lp.assign lp.body w (fun e w' => ∃ u, e = .returned u ∧ ERes w O F β v H' u w') := by
  intro w O F β vs l hsr hl hargs
  unfold ylA at h
  split at h
  · rename_i pe m T ps as bo db hg
    obtain ⟨lp, ld, hb, hst, hpe, hf, hps, has, hbo, hld, hdb⟩ := hsr.loopOf hg hl
    cases hlen : Nat.beq (lenN args) (lenN ps) with
    | false => simp [hlen] at h
    | true =>
      simp only [hlen, cond_true] at h
      rw [beq_iff, lenN_eq, lenN_eq] at hlen
      refine ⟨lp, hb, by rw [hps, ← hargs.1]; simpa using hlen, ?_⟩
      cases h1 : codeA P opt L K m as { T := zipSet m ps args T, H := H, D := [], rd := some o } with
      | none => simp [h1] at h
      | some es =>
        obtain ⟨e1, s1⟩ := es
        cases e1 with
        | exit _ => simp [h1] at h
        | ret => simp [h1] at h
        | normal =>
          simp only [h1] at h
          split at h
          · rename_i pe1 m1 T1 ps1 as1 bo1 db1 hg1
            cases hD1 : s1.D with
            | cons _ _ => simp [hD1] at h
            | nil =>
              simp only [hD1] at h
              cases h2 : codeA P opt L K m bo { T := s1.T, H := s1.H.set o (.loop .busy pe1 m1 T1 ps1 as1 bo1 db1), D := [], rd := some o } with
              | none => simp [h2] at h
              | some es2 =>
                obtain ⟨e2, s2⟩ := es2
                simp only [h2] at h
                have hst0 : StR (some l.b) w O F β m { T := zipSet m ps args T, H := H, D := [], rd := some o } { tmps := setParams lp.params vs lp.tmps, defers := [] } := by
                  refine ⟨hsr, ?_, .nil, l, hl, rfl⟩
                  have := zipSet_sound (ps := ps) (args := args) (vs := vs.toList) hf (by simpa using hargs.1) (fun j x v hx hv => hargs.2 j x v (by rw [nth_eq]; exact hx) (by rw [Array.getElem?_toList] at hv; exact hv))
                  unfold setParams
                  rw [hps, ← Array.foldl_toList, Array.toList_zip]
                  simpa using this
                rw [has, hbo]
                refine roundIn_of_wpIn trivial ?_
                refine codeA_sound hK hS hD hR as _ _ s1 h1 (some l.b) w O F β _ _ hst0 fun a1 w1 O1 β1 g1 g2 => ?_
                have hl1 := g1.ext o l hl
                obtain ⟨lp1, ld1, hb1, hst1, hpe1, hf1, hps1, has1, hbo1, hld1, hdb1⟩ := g2.heap.loopOf hg1 hl1
                obtain ⟨hs1, hsr1⟩ := g2.heap.setLoop (st' := .busy) (pe' := pe1) (lp' := { lp1 with state := .busy }) hg1 hl1 hb1 (by rw [← hpe1]) hf1 hps1 has1 hbo1 hld1 hdb1
                refine ⟨{ w1 with heap := w1.heap.setIfInBounds l.b (.loop { lp1 with state := .busy }) }, ?_, ?_⟩
                · simp [Instr.beginRound, run_getLoop hb1, run_setLoop hb1, hst1]
                have hdf1 : a1.defers = [] := by
                  have := g2.dfs
                  rw [hD1] at this
                  cases a1 with
                  | mk t d => simp only at this ⊢; cases this; rfl
                have hstB : StR (some l.b) { w1 with heap := w1.heap.setIfInBounds l.b (.loop { lp1 with state := .busy }) } O1 F β1 m { T := s1.T, H := s1.H.set o (.loop .busy pe1 m1 T1 ps1 as1 bo1 db1), D := [], rd := some o } a1 :=
                  ⟨hsr1, g2.fr.mono (hs1.still F) hs1.ext, by rw [hdf1]; exact .nil, l, hl1, rfl⟩
                refine codeA_sound hK hS hD hR bo _ _ s2 h2 (some l.b) _ O1 F β1 _ _ hstB fun a2 w2 O2 β2 q1 q2 => ?_
                split at h
                · rename_i st2 pe2 m2 T2 ps2 as2 bo2 db2 hg2
                  have hl2 := q1.ext o l hl1
                  obtain ⟨lp2, ld2, hb2, hst2, hpe2, hf2, hps2, has2, hbo2, hld2, hdb2⟩ := q2.heap.loopOf hg2 hl2
                  have fin : ∀ (jump : Option Code) (st' : LoopState), st' = (if jump.isNone then .ready else .done) → v = .fv (.bool jump.isNone) → H' = s2.H.set o (.loop st' jump m2 T2 ps2 as2 bo2 db2) →
                      ∃ u w', (Instr.endRound l.b jump).run P w2 = .ok u w' ∧ ∃ u', Ending.returned u = .returned u' ∧ ERes w O F β v H' u' w' := by
                    intro jump st' hst' hv hH
                    obtain ⟨hs2, hsr2⟩ := q2.heap.setLoop (st' := st') (pe' := jump) (lp' := { lp2 with state := st', pending := jump }) hg2 hl2 hb2 rfl hf2 hps2 has2 hbo2 hld2 hdb2
                    refine ⟨.bool jump.isNone, _, ?_, .bool jump.isNone, rfl, O2, β2, ((g1.trans hs1).trans q1).trans hs2, by rw [hH]; exact hsr2, by rw [hv]; exact .fv _ _ (.bool _)⟩
                    subst hst'
                    simp [Instr.endRound, run_getLoop hb2, run_setLoop hb2]
                  cases e2 with
                  | normal =>
                    simp only [Option.some.injEq, Prod.mk.injEq] at h
                    exact fin none .ready rfl h.1.symm h.2.symm
                  | exit id =>
                    simp only [Option.some.injEq, Prod.mk.injEq, jumpOf] at h
                    exact fin (some (.exit id)) .done rfl h.1.symm h.2.symm
                  | ret =>
                    simp only [Option.some.injEq, Prod.mk.injEq, jumpOf] at h
                    exact fin (some .ret) .done rfl h.1.symm h.2.symm
                · cases h
          · cases h
  · cases h
end
end Go.Gm
