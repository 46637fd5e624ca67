/- Operations, one by one: the words that all use. -/
import Derived.Test.YtafggfmidkpnbaaGreatAbsRel
namespace Go.Gm

/-- the fence of a frame: of a function's, or of a round's -/
def Fc (rl : Option Nat) : Fence := { Fence.wide with round := rl }
theorem Fc_none : Fc none = Fence.wide := rfl

/-- an operation runs to a value -/
def Runs (P : Program) (rl : Option Nat) (o : Oper) (a : Act) (w : World) (R : Value → World → Prop) : Prop :=
  ∀ (next : Act → World → Prop) (Q : Exit → Act → World → Prop), (∀ v w', R v w' → next (a.put o.dst v) w') → o.wpIn (Fc rl) 0 P a w next Q

section
variable {P : Program} {rl : Option Nat} {o : Oper} {a : Act} {w : World} {R : Value → World → Prop}

theorem Runs.mono {R' : Value → World → Prop} (h : Runs P rl o a w R) (hr : ∀ v w', R v w' → R' v w') : Runs P rl o a w R' :=
  fun next Q hn => h next Q fun v w' hv => hn v w' (hr v w' hv)
theorem runs_value (hd : ∀ c, o.op ≠ .defer c) {v : Value} {w' : World} (h : (execOp a.eval o).run P w = .ok (.value v) w') (hR : R v w') : Runs P rl o a w R :=
  fun next Q hn => ⟨fun _ _ => trivial, by rw [Oper.semAt_eq _ _ _ hd, h, Oper.uponIn_value]; exact hn v w' hR⟩
theorem runs_skip (hd : ∀ c, o.op ≠ .defer c) {w' : World} (h : (execOp a.eval o).run P w = .ok .skip w') (hR : R undef w') : Runs P rl o a w R :=
  fun next Q hn => ⟨fun _ _ => trivial, by rw [Oper.semAt_eq _ _ _ hd, h, Oper.uponIn_skip]; exact hn undef w' hR⟩
theorem runs_enter (hd : ∀ c, o.op ≠ .defer c) {f : FuncId} {args : Array Value} {w1 : World} (h : (execOp a.eval o).run P w = .ok (.enter f args) w1)
    (hc : CallsIn Fence.wide 0 P f args w1 fun e w' => ∃ v, e = .returned v ∧ R v w') : Runs P rl o a w R :=
  fun next Q hn => ⟨fun _ _ => trivial, by
    rw [Oper.semAt_eq _ _ _ hd, h, Oper.uponIn_enter]
    refine ⟨fun hh => by simp [Fc, Fence.wide] at hh, ?_⟩
    have hc' : CallsIn (Fc rl) 0 P f args w1 fun e w' => ∃ v, e = .returned v ∧ R v w' := hc
    refine CallsIn.mono hc' ?_
    rintro e w' ⟨v, rfl, hR⟩
    exact hn v w' hR⟩
theorem runs_round (hd : ∀ c, o.op ≠ .defer c) {l : Nat} {f : FuncId} {tmps : Array Value} {assign body : Code} {w1 : World} (h : (execOp a.eval o).run P w = .ok (.round l f tmps assign body) w1)
    (hc : RoundIn Fence.wide 0 P l f tmps assign body w1 fun e w' => ∃ v, e = .returned v ∧ R v w') : Runs P rl o a w R :=
  fun next Q hn => ⟨fun _ _ => trivial, by
    rw [Oper.semAt_eq _ _ _ hd, h, Oper.uponIn_round]
    refine ⟨fun hh => by simp [Fc, Fence.wide] at hh, ?_⟩
    have hc' : RoundIn (Fc rl) 0 P l f tmps assign body w1 fun e w' => ∃ v, e = .returned v ∧ R v w' := hc
    refine RoundIn.mono hc' ?_
    rintro e w' ⟨v, rfl, hR⟩
    exact hn v w' hR⟩
end

/-! ### types -/
section
variable {P : Program} {w : World}
theorem run_under {t : TypeId} {d : TypeDesc} (h : P.underlying t = some d) : (underlying t).run P w = .ok d w := by simp [underlying, h]
theorem run_info {t : TypeId} {i : TypeInfo} (h : P.info? t = some i) : (typeInfo t).run P w = .ok i w := by simp [typeInfo, h]
theorem run_size {t : TypeId} {n : Nat} (h : tsz P t = some n) : (sizeOf t).run P w = .ok n w := by
  unfold tsz at h
  cases hi : P.info? t with
  | none => simp [hi] at h
  | some i => simp [hi] at h; subst h; simp [sizeOf, run_info hi]
theorem run_agg {t : TypeId} {b : Bool} (h : tagg P t = some b) : (isAgg t).run P w = .ok b w := by
  unfold tagg at h
  cases hu : P.underlying t with
  | none => simp [hu] at h
  | some d => simp only [hu] at h; cases d <;> simp_all [isAgg, run_under hu]
theorem run_zero {t : TypeId} {i : TypeInfo} {v : Value} (h : P.info? t = some i) (hz : i.zero = some v) : (zeroValue t).run P w = .ok v w := by simp [zeroValue, run_info h, hz]
end

/-! ### constants -/
theorem constFV_rel (w : World) (X : Nat → Prop) : ∀ (n : Nat), (∀ v x, constFV n v = some x → RelF w X x v) ∧
    (∀ (vs : List Value) (xs : List FV), constFVs n vs = some xs → xs.length = vs.length ∧ ∀ (i : Nat) (x : FV) (v : Value), xs[i]? = some x → vs[i]? = some v → RelF w X x v) := by
  intro n
  induction n with
  | zero =>
    refine ⟨fun v x h => by simp [constFV] at h, fun vs xs h => ?_⟩
    cases vs with
    | nil => simp [constFVs] at h; subst h; exact ⟨rfl, fun i x v h => by simp at h⟩
    | cons a l => simp [constFVs] at h
  | succ n ih =>
    refine ⟨fun v x h => ?_, fun vs xs h => ?_⟩
    · cases v with
      | bool b => simp only [constFV, Option.some.injEq] at h; subst h; exact .bool b
      | int k i => simp only [constFV, Option.some.injEq] at h; subst h; exact .int k i
      | string s => simp only [constFV, Option.some.injEq] at h; subst h; exact .str s
      | pointer a => cases a <;> simp only [constFV, Option.some.injEq, reduceCtorEq] at h; subst h; exact .nilp
      | slice a l c =>
        cases l with
        | succ l => simp only [constFV, reduceCtorEq] at h
        | zero => cases c with
          | succ c => simp only [constFV, reduceCtorEq] at h
          | zero =>
            simp only [constFV, Option.some.injEq] at h; subst h
            exact .sl [] true a 0 0 (fun _ _ => default) (Nat.le_refl _) (fun _ => rfl) (fun h => absurd rfl h) (fun i row h => by rw [nth_eq] at h; simp at h)
              (fun i row j x h => by rw [nth_eq] at h; simp at h) (fun ad i row j x _ h => by rw [nth_eq] at h; simp at h) (fun i row j x h => by rw [nth_eq] at h; simp at h)
      | map r => cases r <;> simp only [constFV, Option.some.injEq, reduceCtorEq] at h; subst h; exact .nilm
      | nilFunc => simp only [constFV, Option.some.injEq] at h; subst h; exact .nilf
      | nilIface => simp only [constFV, Option.some.injEq] at h; subst h; exact .nili
      | agg cs =>
        simp only [constFV] at h
        cases hc : constFVs n cs.toList with
        | none => simp only [hc, reduceCtorEq] at h
        | some xs =>
          simp only [hc, Bool.cond_eq_ite] at h
          split at h
          · rename_i hone
            cases h
            obtain ⟨h1, h2⟩ := ih.2 _ _ hc
            refine .agg xs cs (by simpa using h1) (fun j x hx => ?_) (fun j x v hx hv => ?_)
            · rw [allN_eq, List.all_eq_true] at hone
              rw [nth_eq] at hx
              exact hone x (List.mem_of_getElem? hx)
            · rw [nth_eq] at hx
              exact h2 j x v hx (by rw [Array.getElem?_toList]; exact hv)
          · cases h
      | _ => simp only [constFV, reduceCtorEq] at h
    · cases vs with
      | nil => simp [constFVs] at h; subst h; exact ⟨rfl, fun i x v h => by simp at h⟩
      | cons a l =>
        simp only [constFVs] at h
        cases ha : constFV n a with
        | none => simp [ha] at h
        | some y =>
          cases hl : constFVs n l with
          | none => simp [ha, hl] at h
          | some ys =>
            simp [ha, hl] at h
            subst h
            obtain ⟨h1, h2⟩ := ih.2 l ys hl
            refine ⟨by simp [h1], fun i x v hx hv => ?_⟩
            cases i with
            | zero => simp at hx hv; subst hx; subst hv; exact ih.1 _ _ ha
            | succ i => simp at hx hv; exact h2 i x v hx hv

theorem constFV_sound {w : World} {X : Nat → Prop} {n : Nat} {v : Value} {x : FV} (h : constFV n v = some x) : RelF w X x v := (constFV_rel w X n).1 v x h

theorem tzero_sound {P : Program} {t : TypeId} {z : FV} (h : tzero P t = some z) : ∃ i v, P.info? t = some i ∧ i.zero = some v ∧ ∀ w X, RelF w X z v := by
  unfold tzero at h
  cases hi : P.info? t with
  | none => simp [hi] at h
  | some i =>
    simp only [hi] at h
    cases hz : i.zero with
    | none => simp [hz] at h
    | some v => simp only [hz] at h; exact ⟨i, v, rfl, hz, fun w X => constFV_sound h⟩

/-! ### operands -/
theorem evO_sound {n : Nat} {x : Operand} {f : Fr → AV} (h : evO n x = some f) {w : World} {X : Nat → Prop} {β : Nat → Option Loc} {T : Fr} {a : Act}
    (hf : FrR w X β n T a.tmps) : Rel w X β (f T) (a.eval x) := by
  cases x with
  | tmp t =>
    simp only [evO, Bool.cond_eq_ite] at h
    split at h
    · rename_i hb
      cases h
      have hlt : t < a.tmps.size := by rw [hf.1]; simpa using hb
      have := hf.2 t a.tmps[t] (by simp [hlt])
      simp only [Act.eval, Array.getD_eq_getD_getElem?, Array.getElem?_eq_getElem hlt, Option.getD_some]
      exact this
    · cases h
  | const v =>
    simp only [evO] at h
    cases hc : constFV maxConst v with
    | none => simp [hc] at h
    | some c => simp [hc] at h; subst h; exact .fv _ _ (constFV_sound hc)
  | global g => simp [evO] at h
  | func g => simp [evO] at h; subst h; exact .fv _ _ (.fn g)

theorem evOs_sound {n : Nat} {w : World} {X : Nat → Prop} {β : Nat → Option Loc} {T : Fr} {a : Act} (hf : FrR w X β n T a.tmps) :
    ∀ {l : List Operand} {fs : List (Fr → AV)}, evOs n l = some fs → Rels w X β (evAll fs T) (l.map a.eval).toArray
  | [], fs, h => by
    simp [evOs] at h; subst h
    exact ⟨rfl, fun j x v h => by rw [nth_eq] at h; simp [evAll] at h⟩
  | x :: l, fs, h => by
    simp only [evOs] at h
    cases hx : evO n x with
    | none => simp [hx] at h
    | some g =>
      cases hl : evOs n l with
      | none => simp [hx, hl] at h
      | some gs =>
        simp [hx, hl] at h; subst h
        have ih := evOs_sound hf hl
        refine ⟨by have := ih.1; simp [evAll] at this ⊢; exact this, fun j y v hy hv => ?_⟩
        rw [nth_eq] at hy
        cases j with
        | zero => simp [evAll] at hy hv; subst hy; subst hv; exact evO_sound hx hf
        | succ j =>
          simp [evAll] at hy hv
          exact ih.2 j y v (by rw [nth_eq]; exact hy) (by simpa using hv)
end Go.Gm
