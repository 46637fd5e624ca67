/- All operations that turn objects. -/
import Derived.Test.YtafggfmidkpnbaaGreatAbsE3
namespace Go.Gm

/-- full calls tell the truth -/
def FnOk (P : Program) (K : Fns) : Prop := ∀ f args H v H', K.fn f args H = some (v, H') → Enters P f ∧ ∀ (w : World) (O : Nat → Prop) (F : Fo) β (vs : Array Value), SRH w O F β H →
  Rels w (bar O F) β args vs → CallsIn Fence.wide 0 P f vs w (fun e w' => ∃ u, e = .returned u ∧ ERes w O F β v H' u w')
def SumEOk (P : Program) (opt : Opts) : Prop := ∀ f g, opt.sumE f = some g → ∀ args H v H', g args H = some (v, H') → Enters P f ∧ ∀ (w : World) (O : Nat → Prop) (F : Fo) β (vs : Array Value), SRH w O F β H →
  Rels w (bar O F) β args vs → CallsIn Fence.wide 0 P f vs w (fun e w' => ∃ u, e = .returned u ∧ ERes w O F β v H' u w')
/-- the frame of a round -/
def setParams (ps : Array Tmp) (vs tmps : Array Value) : Array Value := (ps.zip vs).foldl (fun tmps (t, a) => tmps.setIfInBounds t a) tmps
/-- rounds tell the truth -/
def YlOk (P : Program) (K : Fns) : Prop := ∀ o args H v H', K.yl o args H = some (v, H') → ∀ (w : World) (O : Nat → Prop) (F : Fo) β (vs : Array Value) (l : Loc), SRH w O F β H → β o = some l →
  Rels w (bar O F) β args vs → ∃ lp, w.heap[l.b]? = some (.loop lp) ∧ vs.size = lp.params.size ∧
    RoundIn Fence.wide 0 P l.b lp.fn (setParams lp.params vs lp.tmps) lp.assign lp.body w (fun e w' => ∃ u, e = .returned u ∧ ERes w O F β v H' u w')

section
variable {P : Program} {w w0 w' : World} {O : Nat → Prop} {F : Fo} {X : Nat → Prop} {β : Nat → Option Loc} {G : Nat → AObj} {b : Nat} {rl : Option Nat} {H : Heap}

theorem Rels.append {xs ys : List AV} {us vs : Array Value} (h1 : Rels w X β xs us) (h2 : Rels w X β ys vs) : Rels w X β (xs ++ ys) (us ++ vs) := by
  refine ⟨by simp [h1.1, h2.1], fun j x v hx hv => ?_⟩
  rw [nth_eq, List.getElem?_append] at hx
  split at hx
  · rename_i hlt
    rw [Array.getElem?_append_left (by rw [← h1.1]; exact hlt)] at hv
    exact h1.2 j x v (by rw [nth_eq]; exact hx) hv
  · rename_i hge
    rw [Array.getElem?_append_right (by rw [← h1.1]; omega)] at hv
    exact h2.2 _ x v (by rw [nth_eq]; exact hx) (by rw [← h1.1] at hv; exact hv)

theorem exec_round {o : Oper} {ρ : Operand → Value} {f : Operand} {args : Array Operand} {ts : Array TypeId} {l : Nat} {lp : Loop} (ho : o.op = .call { callee := .value f, args, argTypes := ts }) (hf : ρ f = .func (.yield l) #[] #[])
    (hb : w.heap[l]? = some (.loop lp)) (hs : (args.map ρ).size = lp.params.size) : (execOp ρ o).run P w = .ok (.round l lp.fn (setParams lp.params (args.map ρ) lp.tmps) lp.assign lp.body) w := by
  have hg : (getObj l).run P w = .ok (.loop lp) w := by simp [getObj, Sem.run, hb]
  have hs' : args.size = lp.params.size := by simpa using hs
  unfold execOp
  simp only [ho]
  simp [resolve, hf, Deferred.ofValue, invoke, Instr.yield, Instr.getLoop, hg, hs', setParams]

theorem Rel.clo_inv {g : FuncId} {cap : List AV} {v : Value} (h : Rel w X β (.clo g cap) v) : ∃ vc, v = .func (.func g) #[] vc ∧ Rels w X β cap vc := by
  cases h with
  | clo f cap vs hlen h => exact ⟨vs, rfl, hlen, h⟩
theorem Rel.yld_inv {o : Nat} {v : Value} (h : Rel w X β (.yld o) v) : ∃ l, v = .func (.yield l.b) #[] #[] ∧ β o = some l := by
  cases h with
  | yld o l hl => exact ⟨l, rfl, hl⟩

theorem opE_sound {opt : Opts} {K : Fns} (hK : FnOk P K) (hS : SumEOk P opt) (hY : YlOk P K) {n : Nat} {o : Oper} {a : Act} {T : Fr} {v : AV} {H' : Heap} (h : opE P opt K n o.op T H = some (v, H'))
    (hf : FrR w (bar O F) β n T a.tmps) (hsr : SRH w O F β H) : Runs P rl o a w (ERes w O F β v H') := by
  have ev : ∀ {x : Operand} {f : Fr → AV}, evO n x = some f → Rel w (bar O F) β (f T) (a.eval x) := fun hx => evO_sound hx hf
  obtain ⟨dst, op, ty, pos, after, guard⟩ := o
  cases op <;> simp only [opE, eFail, reduceCtorEq] at h
  case store t x y =>
    cases hx : evO n x with
    | none => simp [hx, eFail] at h
    | some fx =>
      cases hy : evO n y with
      | none => simp [hx, hy, eFail] at h
      | some fy =>
        simp only [hx, hy] at h
        cases hs : storeS P t (fx T) (fy T) H with
        | none => simp [hs] at h
        | some H2 =>
          simp only [hs, Option.some.injEq, Prod.mk.injEq] at h
          obtain ⟨rfl, rfl⟩ := h
          obtain ⟨w', g1, g2, g3⟩ := storeS_sound (P := P) hs hsr (ev hx) (ev hy)
          exact runs_skip (by simp) (by simp [execOp, g1]) ⟨O, β, g3, g2, .fv _ _ .undef⟩
  case mapUpdate t m k y =>
    cases hm : evO n m with
    | none => simp [hm, eFail] at h
    | some fm =>
      cases hk : evO n k with
      | none => simp [hm, hk, eFail] at h
      | some fk =>
        cases hy : evO n y with
        | none => simp [hm, hk, hy, eFail] at h
        | some fy =>
          simp only [hm, hk, hy] at h
          cases hs : mapUpdateS P t (fm T) (fk T) (fy T) H with
          | none => simp [hs] at h
          | some H2 =>
            simp only [hs, Option.some.injEq, Prod.mk.injEq] at h
            obtain ⟨rfl, rfl⟩ := h
            obtain ⟨w', g1, g2, g3⟩ := mapUpdateS_sound hs (ev hm) (ev hk) (ev hy) hsr
            exact runs_skip (by simp) (by simp [execOp, g1]) ⟨O, β, g2, g3, .fv _ _ .undef⟩
  case call c =>
    obtain ⟨callee, args, ts⟩ := c
    cases callee <;> simp only [eFail, reduceCtorEq] at h
    case builtin bt =>
      cases hos : evOs n args.toList with
      | none => simp [hos, eFail] at h
      | some fs =>
        cases fs with
        | nil => simp [hos, eFail] at h
        | cons fx rest =>
          obtain ⟨x0, l', hl, hx, hrest⟩ := evOs_cons hos
          have harg : args = (x0 :: l').toArray := by rw [← hl]
          subst harg
          cases hts : ts.toList with
          | nil => cases rest with
            | nil => simp [hos, hts, eFail] at h
            | cons fy r => cases r <;> simp [hos, hts, eFail] at h
          | cons t ts' =>
            have htt : ts = (t :: ts').toArray := by rw [← hts]
            subst htt
            have h0 : ((t :: ts').toArray : Array TypeId)[0]? = some t := by simp
            cases rest with
            | nil =>
              have := evOs_nil hrest; subst this
              simp only [hos] at h
              cases bt <;> simp only [eFail, reduceCtorEq] at h
              cases hs : clearS P t (fx T) H with
              | none => simp [hs] at h
              | some H2 =>
                simp only [hs, Option.some.injEq, Prod.mk.injEq] at h
                obtain ⟨rfl, rfl⟩ := h
                obtain ⟨w', g1, g2, g3⟩ := clearS_sound (ty := ty) (us := #[a.eval x0]) hs h0 (by simp) (ev hx) hsr
                exact runs_ok (by simp) ⟨.tuple #[], w', by simp only [execOp, resolve, invoke, builtin, Sem.run_bind, Sem.run_pure, Result.andThen_ok, List.map_toArray, List.map_cons, List.map_nil]; rw [g1]; simp, O, β, g2, g3, .fv _ _ (.tup _ _ rfl (fun j x v hx => by rw [nth_eq] at hx; simp at hx))⟩
            | cons fy rest2 =>
              obtain ⟨x1, l'', rfl, hy, hnil⟩ := evOs_cons hrest
              cases rest2 with
              | cons _ _ => simp [hos, eFail] at h
              | nil =>
                have := evOs_nil hnil; subst this
                simp only [hos] at h
                cases bt <;> simp only [eFail, reduceCtorEq] at h
                case append =>
                  cases ts' with
                  | nil => simp [eFail] at h
                  | cons xt ts2 =>
                    cases hai : appInfo P t with
                    | none => simp [hai, eFail] at h
                    | some info =>
                      obtain ⟨e, esz, bytes⟩ := info
                      simp only [hai] at h
                      cases hsrc : appSrc P e xt (fy T) H with
                      | none => simp [hsrc] at h
                      | some xs =>
                        simp only [hsrc] at h
                        obtain ⟨u, w', g1, g2⟩ := appendE_sound (ty := ty) (ts := (t :: xt :: ts2).toArray) hai (by simp) (by simp) hsrc h (ev hy) (ev hx) hsr
                        exact runs_ok (by simp) ⟨u, w', by simp only [execOp, resolve, invoke, builtin, Sem.run_bind, Sem.run_pure, Result.andThen_ok, List.map_toArray, List.map_cons, List.map_nil]; rw [g1]; simp, g2⟩
                case copy =>
                  obtain ⟨u, w', g1, g2⟩ := copyS_sound (ty := ty) (ts := (t :: ts').toArray) h h0 (ev hx) (ev hy) hsr
                  exact runs_ok (by simp) ⟨u, w', by simp only [execOp, resolve, invoke, builtin, Sem.run_bind, Sem.run_pure, Result.andThen_ok, List.map_toArray, List.map_cons, List.map_nil]; rw [g1]; simp, g2⟩
                case delete =>
                  cases hs : deleteS P t (fx T) (fy T) H with
                  | none => simp [hs] at h
                  | some H2 =>
                    simp only [hs, Option.some.injEq, Prod.mk.injEq] at h
                    obtain ⟨rfl, rfl⟩ := h
                    obtain ⟨w', g1, g2, g3⟩ := deleteS_sound (ty := ty) (ts := (t :: ts').toArray) hs h0 (ev hx) (ev hy) hsr
                    exact runs_ok (by simp) ⟨.tuple #[], w', by simp only [execOp, resolve, invoke, builtin, Sem.run_bind, Sem.run_pure, Result.andThen_ok, List.map_toArray, List.map_cons, List.map_nil]; rw [g1]; simp, O, β, g2, g3, .fv _ _ (.tup _ _ rfl (fun j x v hx => by rw [nth_eq] at hx; simp at hx))⟩
    case value f =>
      cases hff : evO n f with
      | none => simp [hff, eFail] at h
      | some ff =>
        cases hos : evOs n args.toList with
        | none => simp [hff, hos, eFail] at h
        | some fs =>
          simp only [hff, hos] at h
          have hargs := evOs_sound hf hos
          have hmap : (args.toList.map a.eval).toArray = args.map a.eval := mapArr _ _
          rw [hmap] at hargs
          have callE_ok : ∀ (g : FuncId) (xs : List AV) (vs : Array Value), callE opt K g xs H = some (v, H') → Rels w (bar O F) β xs vs →
              Enters P g ∧ CallsIn Fence.wide 0 P g vs w (fun e w' => ∃ u, e = .returned u ∧ ERes w O F β v H' u w') := fun g xs vs hc hr => by
            unfold callE at hc
            cases hse : opt.sumE g with
            | some sg =>
              simp only [hse] at hc
              obtain ⟨h1, h2⟩ := hS g sg hse _ _ _ _ hc
              exact ⟨h1, h2 w O F β vs hsr hr⟩
            | none =>
              simp only [hse] at hc
              obtain ⟨h1, h2⟩ := hK g _ _ _ _ hc
              exact ⟨h1, h2 w O F β vs hsr hr⟩
          have enter : ∀ (g : FuncId) (cap : Array Value), a.eval f = .func (.func g) #[] cap → Enters P g → CallsIn Fence.wide 0 P g (args.map a.eval ++ cap) w (fun e w' => ∃ u, e = .returned u ∧ ERes w O F β v H' u w') →
              Runs P rl ⟨dst, .call ⟨.value f, args, ts⟩, ty, pos, after, guard⟩ a w (ERes w O F β v H') := fun g cap hfv he hc =>
            runs_enter (by simp) (w1 := w) (args := args.map a.eval ++ cap) (exec_enter (P := P) (w := w) (o := ⟨dst, .call ⟨.value f, args, ts⟩, ty, pos, after, guard⟩) rfl hfv he) hc
          have hfr := ev hff
          split at h
          · rename_i g hg
            rw [hg] at hfr
            obtain ⟨h1, h2⟩ := callE_ok g _ _ h hargs
            exact enter g #[] hfr.fv_inv.fn_inv h1 (by simpa using h2)
          · rename_i g cap hg
            rw [hg] at hfr
            obtain ⟨vc, hvc, hrc⟩ : ∃ vc, a.eval f = .func (.func g) #[] vc ∧ Rels w (bar O F) β cap vc := hfr.clo_inv
            rw [appN_eq] at h
            obtain ⟨h1, h2⟩ := callE_ok g _ _ h (hargs.append hrc)
            exact enter g vc hvc h1 h2
          · rename_i yo hg
            rw [hg] at hfr
            obtain ⟨l, hvl, hl⟩ : ∃ l, a.eval f = .func (.yield l.b) #[] #[] ∧ β yo = some l := hfr.yld_inv
            obtain ⟨lp, g1, g2, g3⟩ := hY yo _ _ _ _ h w O F β _ l hsr hl hargs
            exact runs_round (by simp) (w1 := w) (exec_round (P := P) (o := ⟨dst, .call ⟨.value f, args, ts⟩, ty, pos, after, guard⟩) rfl hvl g1 g2) g3
          · cases h
end
end Go.Gm
