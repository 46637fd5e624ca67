/- The operations that turn nothing. -/
import Derived.Test.YtafggfmidkpnbaaGreatAbsShift
namespace Go.Gm

/-- a function that a call enters -/
def Enters (P : Program) (f : FuncId) : Prop := ∃ fn, P.funcs[f]? = some fn ∧ fn.body.isSome = true ∧ (fn.name == "runtime.NumGoroutine") = false

/-- pure calls tell the truth -/
def PfOk (P : Program) (K : Fns) : Prop := ∀ f args v objs, K.pf f args = some (v, objs) → Enters P f ∧ ∀ (w : World) (F : Nat → Prop) (vs : Array Value), (∀ b, F b → b < w.heap.size) →
  Rels w F (fun _ => none) args vs → allN isFV args = true → CallsIn Fence.wide 0 P f vs w (fun e w' => ∃ u, e = .returned u ∧ ∃ O' β', Step w (fun _ => False) (fun _ => none) w' O' β' ∧
    SR w' O' F β' (addO (fun _ => .dead) 0 objs) ∧ Rel w' (bar O' F) β' v u ∧ ∀ p, objs.length ≤ p → β' p = none)
/-- summaries without effect -/
def SumNOk (P : Program) (opt : Opts) : Prop := ∀ f g, opt.sumN f = some g → ∀ args H b v objs, g args H b = some (v, objs) → Enters P f ∧ ∀ (w : World) (O F : Nat → Prop) β G (vs : Array Value), SR w O F β G →
  Rels w (bar O F) β args vs → (∀ o, o ∈ opt.sumR f args H → G o = H.get o) → Hole G β b objs.length → CallsIn Fence.wide 0 P f vs w (fun e w' => ∃ u, e = .returned u ∧ NRes w O F β G b v objs u w')

section
variable {P : Program} {w w0 : World} {O F : Nat → Prop} {X : Nat → Prop} {β : Nat → Option Loc} {G : Nat → AObj} {b : Nat} {rl : Option Nat}

theorem runs_ok {o : Oper} {a : Act} (hd : ∀ c, o.op ≠ .defer c) {R : Value → World → Prop} (h : ∃ u w', (execOp a.eval o).run P w = .ok (.value u) w' ∧ R u w') : Runs P rl o a w R := by
  obtain ⟨u, w', h1, h2⟩ := h
  exact runs_value hd h1 h2
theorem runs_same {o : Oper} {a : Act} (hd : ∀ c, o.op ≠ .defer c) {v : AV} {u : Value} (h : (execOp a.eval o).run P w = .ok (.value u) w) (hsr : SR w O F β G) (hr : Rel w (bar O F) β v u) :
    Runs P rl o a w (NRes w O F β G b v []) := runs_value hd h (NRes.same hsr hr)

theorem nAV_some {f : Fr → Heap → Option AV} {T : Fr} {H : Heap} {v : AV} {objs : List AObj} (h : nAV f T H b = some (v, objs)) : f T H = some v ∧ objs = [] := by
  unfold nAV at h
  cases hf : f T H with
  | none => simp [hf] at h
  | some x => simp only [hf, Option.some.injEq, Prod.mk.injEq] at h; exact ⟨by rw [h.1], h.2.symm⟩
theorem nFV_some {f : Fr → Heap → Option FV} {T : Fr} {H : Heap} {v : AV} {objs : List AObj} (h : nFV f T H b = some (v, objs)) : ∃ x, f T H = some x ∧ v = .fv x ∧ objs = [] := by
  unfold nFV at h
  cases hf : f T H with
  | none => simp [hf] at h
  | some x => simp only [hf, Option.some.injEq, Prod.mk.injEq] at h; exact ⟨x, rfl, h.1.symm, h.2.symm⟩

theorem exec_enter {o : Oper} {ρ : Operand → Value} {f : Operand} {args : Array Operand} {ts : Array TypeId} {g : FuncId} {cap : Array Value} (ho : o.op = .call { callee := .value f, args, argTypes := ts }) (hf : ρ f = .func (.func g) #[] cap) (he : Enters P g) :
    (execOp ρ o).run P w = .ok (.enter g (args.map ρ ++ cap)) w := by
  obtain ⟨fn, h1, h2, h3⟩ := he
  have h4 : fn.body.isNone = false := by cases hb : fn.body <;> simp_all
  unfold execOp
  simp only [ho]
  have h3' : fn.name ≠ "runtime.NumGoroutine" := by simpa using h3
  have h4' : fn.body ≠ none := by intro c; rw [c] at h4; simp at h4
  simp [resolve, hf, Deferred.ofValue, invoke, callFunc, h1, h3', h4']

theorem RelF.fn_inv {g : FuncId} {v : Value} (h : RelF w X (.fn g) v) : v = .func (.func g) #[] #[] := by cases h; rfl
theorem mapArr {α β : Type} (f : α → β) (as : Array α) : (as.toList.map f).toArray = as.map f := Array.ext' (by simp)
theorem evOs_cons {n : Nat} {l : List Operand} {f : Fr → AV} {fs : List (Fr → AV)} (h : evOs n l = some (f :: fs)) : ∃ x l', l = x :: l' ∧ evO n x = some f ∧ evOs n l' = some fs := by
  cases l with
  | nil => simp [evOs] at h
  | cons x l' =>
    simp only [evOs] at h
    cases hx : evO n x with
    | none => simp [hx] at h
    | some g =>
      cases hl : evOs n l' with
      | none => simp [hx, hl] at h
      | some gs =>
        simp only [hx, hl, Option.some.injEq, List.cons.injEq] at h
        obtain ⟨rfl, rfl⟩ := h
        exact ⟨x, l', rfl, hx, hl⟩
theorem evOs_nil {n : Nat} {l : List Operand} (h : evOs n l = some []) : l = [] := by
  cases l with
  | nil => rfl
  | cons x l' =>
    simp only [evOs] at h
    cases hx : evO n x with
    | none => simp [hx] at h
    | some g =>
      cases hl : evOs n l' with
      | none => simp [hx, hl] at h
      | some gs => simp [hx, hl] at h

theorem pureCall_some {K : Fns} {f : FuncId} {args : List AV} {v : AV} {objs : List AObj} (h : pureCall K f args b = some (v, objs)) :
    ∃ v0 objs0, K.pf f args = some (v0, objs0) ∧ v = shiftAV b v0 ∧ objs = mapN (shiftObj b) objs0 := by
  unfold pureCall at h
  split at h
  · rename_i v0 hp
    simp only [Option.some.injEq, Prod.mk.injEq] at h
    exact ⟨v0, [], hp, h.1.symm, h.2.symm⟩
  · rename_i v0 objs0 _ hp
    simp only [Option.some.injEq, Prod.mk.injEq] at h
    exact ⟨v0, objs0, hp, h.1.symm, h.2.symm⟩
  · cases h
theorem Rels.pure {args : List AV} {vs : Array Value} (h : Rels w X β args vs) (ha : allN isFV args = true) : Rels w X (fun _ => none) args vs := by
  refine ⟨h.1, fun j x v hx hv => ?_⟩
  rw [allN_eq, List.all_eq_true] at ha
  have := ha x (by rw [nth_eq] at hx; exact List.mem_of_getElem? hx)
  cases x <;> simp only [isFV, Bool.false_eq_true] at this
  exact .fv _ _ (h.2 j _ v hx hv).fv_inv

theorem opN_sound {opt : Opts} {K : Fns} (hK : PfOk P K) (hS : SumNOk P opt) {n : Nat} {o : Oper} {a : Act} {T : Fr} {H : Heap} {v : AV} {objs : List AObj} (h : opN P opt K n o.op T H b = some (v, objs))
    (hf : FrR w (bar O F) β n T a.tmps) (hsr : SR w O F β G) (hG : ∀ r, r ∈ readsOf opt n o.op T H → G r = H.get r) (hole : Hole G β b objs.length) : Runs P rl o a w (NRes w O F β G b v objs) := by
  have ev : ∀ {x : Operand} {f : Fr → AV}, evO n x = some f → Rel w (bar O F) β (f T) (a.eval x) := fun hx => evO_sound hx hf
  obtain ⟨dst, op, ty, pos, after, guard⟩ := o
  cases op <;> simp only [opN, nFail, reduceCtorEq] at h
  case move x =>
    cases hx : evO n x with
    | none => simp [hx, nFail] at h
    | some f =>
      simp only [hx] at h
      simp only [Option.some.injEq, Prod.mk.injEq] at h
      obtain ⟨rfl, rfl⟩ := h
      exact runs_same (by simp) rfl hsr (ev hx)
  case assign x =>
    cases hx : evO n x with
    | none => simp [hx, nFail] at h
    | some f =>
      simp only [hx] at h
      simp only [Option.some.injEq, Prod.mk.injEq] at h
      obtain ⟨rfl, rfl⟩ := h
      exact runs_same (by simp) rfl hsr (ev hx)
  case pick c x y =>
    cases hc : evO n c with
    | none => simp [hc, nFail] at h
    | some fc =>
      cases hx : evO n x with
      | none => simp [hc, hx, nFail] at h
      | some fx =>
        cases hy : evO n y with
        | none => simp [hc, hx, hy, nFail] at h
        | some fy =>
          simp only [hc, hx, hy] at h
          split at h
          · rename_i t ht
            simp only [Option.some.injEq, Prod.mk.injEq] at h
            obtain ⟨rfl, rfl⟩ := h
            have hb := ev hc
            rw [ht] at hb
            have hb := hb.bool_inv
            cases t
            · exact runs_same (by simp) (by simp [execOp, hb, asBool]) hsr (ev hy)
            · exact runs_same (by simp) (by simp [execOp, hb, asBool]) hsr (ev hx)
          · cases h
  case alloc e =>
    cases hz : zeroCells P e with
    | none => simp [hz, nFail] at h
    | some ez =>
      simp only [hz] at h
      obtain ⟨esz, z⟩ := ez
      simp only [Option.some.injEq, Prod.mk.injEq] at h
      obtain ⟨rfl, rfl⟩ := h
      obtain ⟨u, w', h1, h2⟩ := alloc_sound hz hsr hole (.tuple #[])
      exact runs_ok (by simp) ⟨u, w', by simp [execOp, h1], h2⟩
  case box e x =>
    cases hx : evO n x with
    | none => simp [hx, nFail] at h
    | some fx =>
      simp only [hx] at h
      cases hc : (Nat.blt 0 (lenN (fx T).cells) && allOne (fx T).cells) with
      | false => simp [hc] at h
      | true =>
        simp only [hc, cond_true, Option.some.injEq, Prod.mk.injEq] at h
        obtain ⟨rfl, rfl⟩ := h
        obtain ⟨u, w', h1, h2⟩ := box_sound (P := P) (e := e) (ev hx) hc hsr hole
        exact runs_ok (by simp) ⟨u, w', by simp [execOp, h1], h2⟩
  case build t parts =>
    cases hp : evParts n parts.toList with
    | none => simp [hp, nFail] at h
    | some ps =>
      simp only [hp] at h
      obtain ⟨h', rfl⟩ := nAV_some h
      obtain ⟨r, hr, hrel⟩ := buildS_sound (qs := parts.map fun (i, x) => (i, a.eval x)) h' (by have := evParts_sound hf hp; simpa using this)
      exact runs_same (by simp) (by simp only [execOp, Sem.run_bind]; rw [hr]; simp) hsr hrel
  case buildSlice t len parts =>
    cases hp : evParts n parts.toList with
    | none => simp [hp, nFail] at h
    | some ps =>
      simp only [hp] at h
      obtain ⟨u, w', h1, h2⟩ := buildSliceS_sound (qs := parts.map fun (i, x) => (i, a.eval x)) h (by have := evParts_sound hf hp; simpa using this) hsr hole
      exact runs_ok (by simp) ⟨u, w', by simp only [execOp, Sem.run_bind]; rw [h1]; simp, h2⟩
  case load t x =>
    cases hx : evO n x with
    | none => simp [hx, nFail] at h
    | some fx =>
      simp only [hx] at h
      obtain ⟨h', rfl⟩ := nAV_some h
      obtain ⟨r, hr, hrel⟩ := loadS_sound h' (ev hx) hsr (fun o ho => hG o (by simp only [readsOf, readsArg, hx]; exact ho))
      exact runs_same (by simp) (by simp [execOp, hr]) hsr hrel
  case nilCheck x =>
    cases hx : evO n x with
    | none => simp [hx, nFail] at h
    | some fx =>
      simp only [hx] at h
      obtain ⟨h', rfl⟩ := nAV_some h
      obtain ⟨hr, hrel⟩ := nilCheck_sound (P := P) (o := ⟨dst, .nilCheck x, ty, pos, after, guard⟩) (ρ := a.eval) h' (ev hx) rfl rfl
      exact runs_same (by simp) (hr w) hsr hrel
  case binOp op t x y p =>
    cases hx : evO n x with
    | none => simp [hx, nFail] at h
    | some fx =>
      cases hy : evO n y with
      | none => simp [hx, hy, nFail] at h
      | some fy =>
        simp only [hx, hy] at h
        obtain ⟨z, h', rfl, rfl⟩ := nFV_some h
        obtain ⟨r, hr, hrel⟩ := binS_sound (P := P) h' (ev hx) (ev hy) x y
        exact runs_same (by simp) (by have := hr w; unfold binSem at this; simp only [execOp, Sem.run_bind] at this ⊢; rw [this]; simp) hsr (.fv _ _ hrel)
  case unOp op t x =>
    cases hx : evO n x with
    | none => simp [hx, nFail] at h
    | some fx =>
      simp only [hx] at h
      obtain ⟨z, h', rfl, rfl⟩ := nFV_some h
      obtain ⟨r, hr, hrel⟩ := unS_sound (P := P) h' (ev hx)
      exact runs_same (by simp) (by simp [execOp, hr]) hsr (.fv _ _ hrel)
  case convert s d x =>
    cases hx : evO n x with
    | none => simp [hx, nFail] at h
    | some fx =>
      simp only [hx] at h
      obtain ⟨h', rfl⟩ := nAV_some h
      obtain ⟨r, hr, hrel⟩ := convS_sound (P := P) h' (ev hx)
      exact runs_same (by simp) (by simp [execOp, hr]) hsr hrel
  case makeMap t r =>
    cases r with
    | some r => simp [nFail] at h
    | none =>
      simp only [Option.some.injEq, Prod.mk.injEq] at h
      obtain ⟨rfl, rfl⟩ := h
      obtain ⟨u, w', h1, h2⟩ := makeMap_sound (P := P) (t := t) hsr hole
      exact runs_ok (by simp) ⟨u, w', by simp [execOp, h1], h2⟩
  case slice t x lo hi mx =>
    cases hx : evO n x with
    | none => simp [hx, nFail] at h
    | some fx =>
      cases hl : evOpt n lo with
      | none => simp [hx, hl, nFail] at h
      | some fl =>
        cases hh : evOpt n hi with
        | none => simp [hx, hl, hh, nFail] at h
        | some fh =>
          cases hm : evOpt n mx with
          | none => simp [hx, hl, hh, hm, nFail] at h
          | some fm =>
            simp only [hx, hl, hh, hm] at h
            obtain ⟨h', rfl⟩ := nAV_some h
            obtain ⟨r, hr, hrel⟩ := sliceS_sound h' hsr (fun o ho => hG o (by simp only [readsOf, readsArg, hx]; exact ho)) (ev hx) (evOpt_sound hl hf) (evOpt_sound hh hf) (evOpt_sound hm hf)
            exact runs_same (by simp) (by simp [execOp, hr]) hsr hrel
  case fieldAddr t x i =>
    cases hx : evO n x with
    | none => simp [hx, nFail] at h
    | some fx =>
      simp only [hx] at h
      obtain ⟨h', rfl⟩ := nAV_some h
      obtain ⟨r, hr, hrel⟩ := fieldAddrS_sound h' (ev hx)
      exact runs_same (by simp) (by simp [execOp, hr]) hsr hrel
  case field t x i =>
    cases hx : evO n x with
    | none => simp [hx, nFail] at h
    | some fx =>
      simp only [hx] at h
      obtain ⟨h', rfl⟩ := nAV_some h
      obtain ⟨r, hr, hrel⟩ := fieldS_sound h' (ev hx)
      exact runs_same (by simp) (by simp [execOp, hr]) hsr hrel
  case indexAddr t x i =>
    cases hx : evO n x with
    | none => simp [hx, nFail] at h
    | some fx =>
      cases hi : evO n i with
      | none => simp [hx, hi, nFail] at h
      | some fi =>
        simp only [hx, hi] at h
        obtain ⟨h', rfl⟩ := nAV_some h
        obtain ⟨r, hr, hrel⟩ := indexAddrS_sound h' hsr (fun o ho => hG o (by simp only [readsOf, readsArg, hx]; exact ho)) (ev hx) (ev hi)
        exact runs_same (by simp) (by simp [execOp, hr]) hsr hrel
  case index t x i =>
    cases hx : evO n x with
    | none => simp [hx, nFail] at h
    | some fx =>
      cases hi : evO n i with
      | none => simp [hx, hi, nFail] at h
      | some fi =>
        simp only [hx, hi] at h
        obtain ⟨h', rfl⟩ := nAV_some h
        obtain ⟨r, hr, hrel⟩ := indexS_sound h' (ev hx) (ev hi)
        exact runs_same (by simp) (by simp [execOp, hr]) hsr hrel
  case lookup t x i ok =>
    cases hx : evO n x with
    | none => simp [hx, nFail] at h
    | some fx =>
      cases hi : evO n i with
      | none => simp [hx, hi, nFail] at h
      | some fi =>
        simp only [hx, hi] at h
        obtain ⟨h', rfl⟩ := nAV_some h
        obtain ⟨r, hr, hrel⟩ := lookupS_sound h' hsr (fun o ho => hG o (by simp only [readsOf, readsArg, hx]; exact ho)) (ev hx) (ev hi)
        exact runs_same (by simp) (by simp [execOp, hr]) hsr hrel
  case extract x i =>
    cases hx : evO n x with
    | none => simp [hx, nFail] at h
    | some fx =>
      simp only [hx] at h
      obtain ⟨h', rfl⟩ := nAV_some h
      obtain ⟨r, hr, hrel⟩ := extract_sound (P := P) h' (ev hx)
      exact runs_same (by simp) (by simp [execOp, hr]) hsr hrel
  case makeFunc fn first captured =>
    cases fn with
    | method _ => simp [nFail] at h
    | methodOf _ _ => simp [nFail] at h
    | via _ _ _ _ => simp [nFail] at h
    | yield _ => simp [nFail] at h
    | func g =>
      cases h0 : Nat.beq first.size 0 with
      | false => simp [h0, nFail] at h
      | true =>
        simp only [h0, cond_true] at h
        rw [beq_iff] at h0
        have hfirst : first = #[] := Array.eq_empty_of_size_eq_zero h0
        subst hfirst
        cases hc : evOs n captured.toList with
        | none => simp [hc, nFail] at h
        | some fs =>
          have hev := evOs_sound hf hc
          have hmap : (captured.toList.map a.eval).toArray = captured.map a.eval := mapArr _ _
          rw [hmap] at hev
          cases fs with
          | nil =>
            simp only [hc, Option.some.injEq, Prod.mk.injEq] at h
            obtain ⟨rfl, rfl⟩ := h
            have hcap : captured.map a.eval = #[] := by
              have := hev.1
              simp only [evAll, List.length_nil] at this
              exact Array.eq_empty_of_size_eq_zero this.symm
            exact runs_same (u := .func (.func g) #[] #[]) (by simp) (by simp only [execOp, Sem.run_bind, Instr.makeFunc, Sem.run_pure, Result.andThen_ok, hcap, Array.map_empty]) hsr (.fv _ _ (.fn g))
          | cons f fs =>
            simp only [hc, Option.some.injEq, Prod.mk.injEq] at h
            obtain ⟨rfl, rfl⟩ := h
            exact runs_same (u := .func (.func g) #[] (captured.map a.eval)) (by simp) (by simp only [execOp, Sem.run_bind, Instr.makeFunc, Sem.run_pure, Result.andThen_ok, Array.map_empty]) hsr (.clo g _ _ hev.1 hev.2)
  case makeSlice t l c =>
    cases hu : P.underlying t with
    | none => simp [hu, nFail] at h
    | some d =>
      cases hl : evO n l with
      | none => cases d <;> simp [hu, hl, nFail] at h
      | some fl =>
        cases hc : evO n c with
        | none => cases d <;> simp [hu, hl, hc, nFail] at h
        | some fc =>
          cases d <;> simp only [hu, hl, hc, nFail, reduceCtorEq] at h
          rename_i e
          cases hz : zeroCells P e with
          | none => simp [hz, nFail] at h
          | some ez =>
            obtain ⟨esz, z⟩ := ez
            cases hi : P.info? e with
            | none => simp [hz, hi, nFail] at h
            | some i =>
              simp only [hz, hi] at h
              cases h1 : asNat (fl T) with
              | none => simp [h1] at h
              | some ln =>
                cases h2 : asNat (fc T) with
                | none => simp [h1, h2] at h
                | some cn =>
                  simp only [h1, h2] at h
                  cases hb : (Nat.ble ln cn && Nat.ble (cn * i.bytes) 281474976710656 && Nat.ble cn 1099511627776) with
                  | false => simp [hb] at h
                  | true =>
                    simp only [hb, cond_true] at h
                    obtain ⟨u, w', g1, g2⟩ := makeSlice_sound hu hz hi h1 h2 (ev hl) (ev hc) hb h hsr hole
                    exact runs_ok (by simp) ⟨u, w', by simp [execOp, g1], g2⟩
  case call c =>
    obtain ⟨callee, args, ts⟩ := c
    cases callee <;> simp only [nFail, reduceCtorEq] at h
    case builtin bt =>
      cases hos : evOs n args.toList with
      | none => simp [hos, nFail] at h
      | some fs =>
        cases fs with
        | nil => simp [hos, nFail] at h
        | cons fx rest =>
          cases hts : ts.toList with
          | nil => simp [hos, hts, nFail] at h
          | cons t ts' =>
            simp only [hos, hts] at h
            obtain ⟨x0, l', hl, hx, hrest⟩ := evOs_cons hos
            have harg : args = (x0 :: l').toArray := by rw [← hl]
            subst harg
            have htt : ts = (t :: ts').toArray := by rw [← hts]
            subst htt
            have h0 : ((t :: ts').toArray : Array TypeId)[0]? = some t := by simp
            cases bt <;> simp only [nFail, reduceCtorEq] at h
            case len =>
              obtain ⟨z, h', rfl, rfl⟩ := nFV_some h
              obtain ⟨r, hr, hrel⟩ := lenS_sound (us := ((x0 :: l').toArray.map a.eval)) (ty := ty) h' hsr (fun o ho => hG o (by simp only [readsOf, readsArg, hx]; exact ho)) (ev hx) h0 (by simp)
              exact runs_same (by simp) (by simp only [execOp, resolve, invoke, builtin, Sem.run_bind, Sem.run_pure, Result.andThen_ok]; rw [hr]; simp) hsr (.fv _ _ hrel)
            case cap =>
              obtain ⟨z, h', rfl, rfl⟩ := nFV_some h
              obtain ⟨r, hr, hrel⟩ := capS_sound (us := ((x0 :: l').toArray.map a.eval)) (ty := ty) h' hsr (fun o ho => hG o (by simp only [readsOf, readsArg, hx]; exact ho)) (ev hx) h0 (by simp)
              exact runs_same (by simp) (by simp only [execOp, resolve, invoke, builtin, Sem.run_bind, Sem.run_pure, Result.andThen_ok]; rw [hr]; simp) hsr (.fv _ _ hrel)
            case max =>
              split at h
              · rename_i fy
                obtain ⟨h', rfl⟩ := nAV_some h
                obtain ⟨x1, l'', rfl, hy, hnil⟩ := evOs_cons hrest
                have := evOs_nil hnil; subst this
                obtain ⟨r, hr, hrel⟩ := maxA_sound (P := P) h' (ev hx) (ev hy) (t :: ts').toArray ty
                exact runs_same (by simp) (by simp only [execOp, resolve, invoke, builtin, Sem.run_bind, Sem.run_pure, Result.andThen_ok, List.map_toArray, List.map_cons, List.map_nil]; rw [hr]; simp) hsr hrel
              · cases h
            case min =>
              split at h
              · rename_i fy
                obtain ⟨h', rfl⟩ := nAV_some h
                obtain ⟨x1, l'', rfl, hy, hnil⟩ := evOs_cons hrest
                have := evOs_nil hnil; subst this
                obtain ⟨r, hr, hrel⟩ := minA_sound (P := P) h' (ev hx) (ev hy) (t :: ts').toArray ty
                exact runs_same (by simp) (by simp only [execOp, resolve, invoke, builtin, Sem.run_bind, Sem.run_pure, Result.andThen_ok, List.map_toArray, List.map_cons, List.map_nil]; rw [hr]; simp) hsr hrel
              · cases h
            case append =>
              cases rest with
              | nil => simp [nFail] at h
              | cons fy rest2 =>
                cases rest2 with
                | cons _ _ => simp [nFail] at h
                | nil =>
                  cases ts' with
                  | nil => simp [nFail] at h
                  | cons xt ts2 =>
                    cases hai : appInfo P t with
                    | none => simp [hai, nFail] at h
                    | some info =>
                      obtain ⟨e, esz, bytes⟩ := info
                      simp only [hai] at h
                      obtain ⟨x1, l'', rfl, hy, hnil⟩ := evOs_cons hrest
                      have := evOs_nil hnil; subst this
                      split at h
                      · rename_i xf hxf
                        cases hsrc : appSrc P e xt (fy T) H with
                        | none => simp [hsrc] at h
                        | some xs =>
                          simp only [hsrc] at h
                          have hxr := ev hx
                          rw [hxf] at hxr
                          obtain ⟨u, w', g1, g2⟩ := appendN_sound (ty := ty) (ts := (t :: xt :: ts2).toArray) hai (by simp) (by simp) hsrc h (ev hy) hxr hsr (fun o ho => hG o (by simp only [readsOf, readsArg, hy]; exact ho)) hole
                          exact runs_ok (by simp) ⟨u, w', by simp only [execOp, resolve, invoke, builtin, Sem.run_bind, Sem.run_pure, Result.andThen_ok, List.map_toArray, List.map_cons, List.map_nil]; rw [g1]; simp, g2⟩
                      · cases h
    case value f =>
      cases hff : evO n f with
      | none => simp [hff, nFail] at h
      | some ff =>
        cases hos : evOs n args.toList with
        | none => simp [hff, hos, nFail] at h
        | some fs =>
          simp only [hff, hos] at h
          split at h
          · rename_i g hg
            have hfr := ev hff
            rw [hg] at hfr
            have hfv : a.eval f = .func (.func g) #[] #[] := hfr.fv_inv.fn_inv
            have hargs := evOs_sound hf hos
            have hmap : (args.toList.map a.eval).toArray = args.map a.eval := mapArr _ _
            rw [hmap] at hargs
            have enter : ∀ (R : Value → World → Prop), Enters P g → CallsIn Fence.wide 0 P g (args.map a.eval) w (fun e w' => ∃ u, e = .returned u ∧ R u w') →
                Runs P rl ⟨dst, .call ⟨.value f, args, ts⟩, ty, pos, after, guard⟩ a w R := fun R he hc =>
              runs_enter (by simp) (w1 := w) (args := args.map a.eval) (by have := exec_enter (P := P) (w := w) (o := ⟨dst, .call ⟨.value f, args, ts⟩, ty, pos, after, guard⟩) rfl hfv he; simpa using this) hc
            unfold callN at h
            cases hsn : opt.sumN g with
            | some sg =>
              simp only [hsn] at h
              obtain ⟨he, hc⟩ := hS g sg hsn _ _ _ _ _ h
              refine enter _ he (hc w O F β G _ hsr hargs (fun o ho => hG o ?_) hole)
              simp only [readsOf, hff, hos, hg, hsn]; exact ho
            | none =>
              simp only [hsn] at h
              cases hse : opt.sumE g with
              | some _ => simp [hse] at h
              | none =>
                simp only [hse] at h
                cases hall : allN isFV (evAll fs T) with
                | false => simp [hall] at h
                | true =>
                  simp only [hall] at h
                  obtain ⟨v0, objs0, hpf, rfl, rfl⟩ := pureCall_some h
                  obtain ⟨he, hc⟩ := hK g _ _ _ hpf
                  have hole0 : Hole G β b objs0.length := by rw [mapN_eq, List.length_map] at hole; exact hole
                  refine enter _ he (CallsIn.mono (hc w (bar O F) _ (fun c hc => hc.elim (hsr.lt c) (hsr.flt c)) (hargs.pure hall) hall) ?_)
                  rintro e w' ⟨u, rfl, O', β', g1, g2, g3, g4⟩
                  exact ⟨u, rfl, NRes.shift hsr hole0 g1 g2 g3 g4⟩
          · cases h
end
end Go.Gm
