/- Regions whose order is open. -/
import Derived.Test.YtafggfmidkpnbaaGreatAbsKA
namespace Go.Gm
section
variable {P : Program} {w w0 w' : World} {O : Nat → Prop} {F : Fo} {X : Nat → Prop} {β : Nat → Option Loc} {b : Nat} {rl : Option Nat} {H : Heap} {opt : Opts} {K : Fns} {n : Nat}

theorem put_inj {a a' : Act} (hs : a.tmps.size = a'.tmps.size) {d : Option Tmp} {u v : Value} (h : a'.put d u = a'.put d v) : a.put d u = a.put d v := by
  cases d with
  | none => rfl
  | some t =>
    have h1 : a'.tmps.setIfInBounds t u = a'.tmps.setIfInBounds t v := congrArg Act.tmps h
    have h2 : a.tmps.setIfInBounds t u = a.tmps.setIfInBounds t v := by
      rcases Nat.lt_or_ge t a.tmps.size with ht | ht
      · have h3 := congrArg (fun (x : Array Value) => x[t]?) h1
        have ht' : t < a'.tmps.size := hs ▸ ht
        simp only [Array.getElem?_setIfInBounds_self_of_lt ht', Option.some.injEq] at h3
        rw [h3]
      · rw [Array.setIfInBounds_eq_of_size_le ht, Array.setIfInBounds_eq_of_size_le ht]
    unfold Act.put
    simp only [h2]

/-- an operation looks at its operands alone -/
theorem runs_restrict {o : Oper} (hd : ∀ c, o.op ≠ .defer c) (hsel : ∀ cs b, o.op ≠ .select cs b) {a a' : Act} (hs : a.tmps.size = a'.tmps.size) (he : ∀ x ∈ o.op.operands, a.eval x = a'.eval x) {R : Value → World → Prop} (h : Runs P rl o a' w R) : Runs P rl o a w R := by
  intro next Q hn
  have h1 := h (fun a2 w' => ∃ v, a2 = a'.put o.dst v ∧ next (a.put o.dst v) w') (fun _ _ _ => False) (fun v w' hv => ⟨v, rfl, hn v w' hv⟩)
  have nx : ∀ v w', (∃ u, a'.put o.dst v = a'.put o.dst u ∧ next (a.put o.dst u) w') → next (a.put o.dst v) w' := fun v w' ⟨u, e, hu⟩ => by rw [put_inj hs e]; exact hu
  unfold Oper.wpIn at h1 ⊢
  rw [Oper.semAt_eq _ _ _ hd] at h1 ⊢
  rw [execOp_congr o hsel he]
  refine ⟨fun _ _ => trivial, ?_⟩
  have h2 := h1.2
  generalize (execOp a'.eval o).run P w = r at h2
  cases r with
  | halt x w1 => cases x <;> simp only [Oper.uponIn] at h2
  | ok x w1 =>
    cases x <;> simp only [Oper.uponIn] at h2 ⊢
    case value v => exact nx _ _ h2
    case skip => exact nx _ _ h2
    case enter f args =>
      refine ⟨h2.1, CallsIn.mono h2.2 fun e w2 he => ?_⟩
      cases e with
      | returned v => exact nx _ _ he
      | panicked ch => exact he.elim
      | outgrown => obtain ⟨_, _, hh⟩ := he; exact hh.elim
    case row r args => exact ⟨h2.1, RowsIn.mono h2.2 fun v w2 he => nx _ _ he⟩
    case round l f tmps as bo =>
      refine ⟨h2.1, RoundIn.mono h2.2 fun e w2 he => ?_⟩
      cases e with
      | returned v => exact nx _ _ he
      | panicked ch => exact he.elim
      | outgrown => obtain ⟨_, _, hh⟩ := he; exact hh.elim
    case defer d =>
      obtain ⟨v, e, _⟩ := h2
      have e2 := congrArg Act.defers e
      rw [(put_tmps _ _ _).2, (put_tmps _ _ _).2] at e2
      have := congrArg List.length e2
      simp at this
end
end Go.Gm
