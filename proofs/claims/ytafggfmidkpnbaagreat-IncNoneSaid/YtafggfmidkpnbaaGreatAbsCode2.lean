/- Code. -/
import Derived.Test.YtafggfmidkpnbaaGreatAbsCode
namespace Go.Gm

def toExit : AExit → Exit
  | .normal => .normal
  | .exit id => .exit id
  | .ret => .ret

/-- a piece of code does what is told of it -/
def CodeOk (P : Program) (n : Nat) (c : Code) (f : St → Option (AExit × St)) : Prop := ∀ s e s', f s = some (e, s') → ∀ (rl : Option Nat) (w : World) (O : Nat → Prop) (F : Fo) β a (Q : Exit → Act → World → Prop), StR rl w O F β n s a →
  (∀ a' w' O' β', Step w O β w' O' β' → StR rl w' O' F β' n s' a' → Q (toExit e) a' w') → c.wpIn (Fc rl) 0 P Q a w
/-- regions whose order is open -/
def DrawOk (P : Program) (opt : Opts) (K : Fns) : Prop := ∀ n id ops, CodeOk P n (.region id ops true) (fun s => normO (drawA P opt K n ops.toList s))
/-- ranges over functions -/
def RangeOk (P : Program) (K : Fns) : Prop := ∀ n g (ps : Array Tmp) assign body, CodeOk P n (.rangeFunc g ps assign body) (rangeA K n g ps.toList assign body)

section
variable {P : Program} {w w0 w' : World} {O : Nat → Prop} {F : Fo} {X : Nat → Prop} {β : Nat → Option Loc} {b : Nat} {rl : Option Nat} {H : Heap} {opt : Opts} {K : Fns} {n : Nat}

theorem stepR_scope {fr : Frame} {a : Act} {k : List Item} {cs : List Frame} {c : Code} : step P (lone (fr.atR a (.code (.scope c) :: k)) cs w) = .next (lone (fr.atR a (.code c :: .inScope c :: k)) cs w) :=
  step_lone_go (by simp [stepG, stepG.exec, Frame.atR])
theorem stepR_inScope {fr : Frame} {a : Act} {k : List Item} {cs : List Frame} {c : Code} : step P (lone (fr.atR a (.inScope c :: k)) cs w) = .next (lone (fr.atR a k) cs w) :=
  step_lone_go (by simp [stepG, stepG.exec, Frame.atR])
theorem wpIn_scope {Fe : Fence} {m : Nat} {Q : Exit → Act → World → Prop} {a : Act} {c : Code} (h : c.wpIn Fe m P (Exit.noGoto Q) a w) : (Code.scope c).wpIn Fe m P Q a w := by
  intro b k cs hro hb hr
  have h0 : (lone (b.atR a (.code (.scope c) :: k)) cs w).fenced P Fe := fenced_calm hb hr rfl
  obtain ⟨e, a₁, w₁, hq, harr⟩ := h b (.inScope c :: k) cs hro hb hr
  cases e with
  | normal => exact ⟨.normal, a₁, w₁, hq, .head h0 stepR_scope (StepsIn.trans harr (.one (fenced_calm hb hr rfl) stepR_inScope))⟩
  | exit id =>
    have hx : exitTo id (.inScope c :: k) = exitTo id k := by simp [exitTo]
    exact ⟨.exit id, a₁, w₁, hq, fun k' hk => .head h0 stepR_scope (harr.1 k' (by rw [hx]; exact hk)),
        fun hr' hk => let ⟨k₁, h1, h2⟩ := harr.2 hr' (by rw [hx]; exact hk); ⟨k₁, h1, .head h0 stepR_scope h2⟩⟩
  | goto l => exact hq.elim
  | ret => exact ⟨_, a₁, w₁, hq, .of_steps (.one h0 stepR_scope) harr⟩
  | panic ch => exact ⟨_, a₁, w₁, hq, .of_steps (.one h0 stepR_scope) harr⟩
  | outgrown => exact ⟨_, a₁, w₁, hq, .of_steps (.one h0 stepR_scope) harr⟩

theorem noGoto_toExit {Q : Exit → Act → World → Prop} {e : AExit} {a : Act} (h : Q (toExit e) a w) : Exit.noGoto Q (toExit e) a w := by cases e <;> exact h

theorem iter_succ {α β : Type} (body : α → Option (Bool × β × α)) (n : Nat) (s : α) : iter body (n + 1) s = (match body s with
    | some (true, _, s') => iter body n s'
    | some (false, b, s') => some (b, s')
    | none => none) := rfl
/-- a loop's rounds -/
theorem loop_sound {c : Code} {f : St → Option (AExit × St)} (hc : CodeOk P n c f) : ∀ (L : Nat) {s : St} {e : AExit} {s' : St},
    iter (loopB f) L s = some (e, s') →
    ∀ (rl : Option Nat) (w : World) (O : Nat → Prop) (F : Fo) β a (Q : Exit → Act → World → Prop), StR rl w O F β n s a →
    (∀ a' w' O' β', Step w O β w' O' β' → StR rl w' O' F β' n s' a' → Q (toExit e) a' w') → Code.roundsIn (Fc rl) 0 P c Q L a w
  | 0, s, e, s', h, rl, w, O, F, β, a, Q, hst, hq => by simp [iter] at h
  | L + 1, s, e, s', h, rl, w, O, F, β, a, Q, hst, hq => by
    rw [iter_succ] at h
    unfold loopB at h
    rw [roundsIn_succ]
    cases hf : f s with
    | none => simp [hf] at h
    | some es =>
      obtain ⟨e1, s1⟩ := es
      simp only [hf] at h
      cases e1 with
      | normal =>
        simp only [isNormal] at h
        refine hc s _ _ hf rl w O F β a _ hst fun a' w' O' β' h1 h2 => ?_
        exact loop_sound hc L h rl w' O' F β' a' Q h2 fun a2 w2 O2 β2 g1 g2 => hq a2 w2 O2 β2 (h1.trans g1) g2
      | exit id =>
        simp only [isNormal, Option.some.injEq, Prod.mk.injEq] at h
        obtain ⟨rfl, rfl⟩ := h
        exact hc s _ _ hf rl w O F β a _ hst fun a' w' O' β' h1 h2 => hq a' w' O' β' h1 h2
      | ret =>
        simp only [isNormal, Option.some.injEq, Prod.mk.injEq] at h
        obtain ⟨rfl, rfl⟩ := h
        exact hc s _ _ hf rl w O F β a _ hst fun a' w' O' β' h1 h2 => hq a' w' O' β' h1 h2

theorem codeA_sound (hK : KOk P K) (hS : SumOk P opt) (hD : DrawOk P opt K) (hR : RangeOk P K) {L : Nat} : ∀ (c : Code), CodeOk P n c (codeA P opt L K n c)
  | .skip => fun s e s' h rl w O F β a Q hst hq => by
    simp only [codeA, Option.some.injEq, Prod.mk.injEq] at h
    obtain ⟨rfl, rfl⟩ := h
    exact wpIn_skip (hq a w O β (Step.refl _ _ _) hst)
  | .label l => fun s e s' h rl w O F β a Q hst hq => by
    simp only [codeA, Option.some.injEq, Prod.mk.injEq] at h
    obtain ⟨rfl, rfl⟩ := h
    exact wpIn_label (hq a w O β (Step.refl _ _ _) hst)
  | .exit id => fun s e s' h rl w O F β a Q hst hq => by
    simp only [codeA, Option.some.injEq, Prod.mk.injEq] at h
    obtain ⟨rfl, rfl⟩ := h
    exact wpIn_exit (hq a w O β (Step.refl _ _ _) hst)
  | .ret => fun s e s' h rl w O F β a Q hst hq => by
    simp only [codeA, Option.some.injEq, Prod.mk.injEq] at h
    obtain ⟨rfl, rfl⟩ := h
    exact wpIn_ret (hq a w O β (Step.refl _ _ _) hst)
  | .region id ops draw => fun s e s' h => by
    cases draw with
    | true => exact hD n id ops s e s' (by simpa only [codeA] using h)
    | false =>
      intro rl w O F β a Q hst hq
      simp only [codeA] at h
      cases h1 : seqA P opt K n ops.toList ops.toList s with
      | none => simp [h1, normO] at h
      | some s1 =>
        simp only [h1, normO, Option.some.injEq, Prod.mk.injEq] at h
        obtain ⟨rfl, rfl⟩ := h
        exact wpIn_region_list (seqA_sound hK hS h1 hst hq)
  | .seq x y => fun s e s' h rl w O F β a Q hst hq => by
    simp only [codeA] at h
    cases h1 : codeA P opt L K n x s with
    | none => simp [h1] at h
    | some es =>
      obtain ⟨e1, s1⟩ := es
      cases e1 with
      | normal =>
        simp only [h1] at h
        refine wpIn_seq (codeA_sound hK hS hD hR x s _ _ h1 rl w O F β a _ hst fun a' w' O' β' g1 g2 => ?_)
        exact codeA_sound hK hS hD hR y s1 e s' h rl w' O' F β' a' Q g2 fun a2 w2 O2 β2 q1 q2 => hq a2 w2 O2 β2 (g1.trans q1) q2
      | exit id =>
        simp only [h1, Option.some.injEq, Prod.mk.injEq] at h
        obtain ⟨rfl, rfl⟩ := h
        exact wpIn_seq (codeA_sound hK hS hD hR x s _ _ h1 rl w O F β a _ hst fun a' w' O' β' g1 g2 => hq a' w' O' β' g1 g2)
      | ret =>
        simp only [h1, Option.some.injEq, Prod.mk.injEq] at h
        obtain ⟨rfl, rfl⟩ := h
        exact wpIn_seq (codeA_sound hK hS hD hR x s _ _ h1 rl w O F β a _ hst fun a' w' O' β' g1 g2 => hq a' w' O' β' g1 g2)
  | .cond c x y => fun s e s' h rl w O F β a Q hst hq => by
    simp only [codeA] at h
    cases hc : evO n c with
    | none => simp [hc] at h
    | some fc =>
      simp only [hc] at h
      split at h
      · rename_i t ht
        have hr := evO_sound hc hst.fr
        rw [ht] at hr
        refine wpIn_cond hr.bool_inv ?_
        cases t with
        | true => exact codeA_sound hK hS hD hR x s e s' h rl w O F β a Q hst hq
        | false => exact codeA_sound hK hS hD hR y s e s' h rl w O F β a Q hst hq
      · cases h
  | .block id c => fun s e s' h rl w O F β a Q hst hq => by
    simp only [codeA] at h
    cases h1 : codeA P opt L K n c s with
    | none => simp [h1] at h
    | some es =>
      obtain ⟨e1, s1⟩ := es
      refine wpIn_block (codeA_sound hK hS hD hR c s e1 s1 h1 rl w O F β a _ hst fun a' w' O' β' g1 g2 => ?_)
      cases e1 with
      | normal =>
        simp only [h1, Option.some.injEq, Prod.mk.injEq] at h
        obtain ⟨rfl, rfl⟩ := h
        exact hq a' w' O' β' g1 g2
      | ret =>
        simp only [h1, Option.some.injEq, Prod.mk.injEq] at h
        obtain ⟨rfl, rfl⟩ := h
        exact hq a' w' O' β' g1 g2
      | exit id' =>
        simp only [h1] at h
        rw [bif_beq] at h
        simp only [toExit, Exit.inBlock]
        by_cases hid : id' = id
        · rw [if_pos hid] at h ⊢
          simp only [Option.some.injEq, Prod.mk.injEq] at h
          obtain ⟨rfl, rfl⟩ := h
          exact hq a' w' O' β' g1 g2
        · rw [if_neg hid] at h ⊢
          simp only [Option.some.injEq, Prod.mk.injEq] at h
          obtain ⟨rfl, rfl⟩ := h
          exact hq a' w' O' β' g1 g2
  | .loop c => fun s e s' h rl w O F β a Q hst hq => by
    simp only [codeA] at h
    exact wpIn_loop_rounds L (loop_sound (codeA_sound hK hS hD hR c) L h rl w O F β a Q hst hq)
  | .rangeFunc g ps assign body => fun s e s' h => hR n g ps assign body s e s' (by simpa only [codeA] using h)
  | .scope c => fun s e s' h rl w O F β a Q hst hq => by
    simp only [codeA] at h
    exact wpIn_scope (codeA_sound hK hS hD hR c s e s' h rl w O F β a _ hst fun a' w' O' β' g1 g2 => noGoto_toExit (hq a' w' O' β' g1 g2))
  | .goto l => fun s e s' h => by simp [codeA] at h
  | .refuse r => fun s e s' h => by simp [codeA] at h
end
end Go.Gm
