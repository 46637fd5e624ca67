/- Operations in a row, code. -/
import Derived.LoopNIn
import Derived.TacticsIn
import Derived.Scope
import Derived.Test.YtafggfmidkpnbaaGreatAbsE4
namespace Go.Gm

/-- a deferred call, a mark -/
def DfR (w : World) (X : Nat → Prop) (β : Nat → Option Loc) : ADef → Deferred → Prop
  | .coll o, d => ∃ l, β o = some l ∧ d = { target := .collected l.b, args := #[] }
  | .call f cap, d => ∃ vs, d = { target := .fn (.func f) vs, args := #[] } ∧ Rels w X β cap vs
def RdR (β : Nat → Option Loc) : Option Nat → Option Nat → Prop
  | none, none => True
  | some o, some b => ∃ l, β o = some l ∧ l.b = b
  | _, _ => False

structure StR (rl : Option Nat) (w : World) (O : Nat → Prop) (F : Fo) (β : Nat → Option Loc) (n : Nat) (s : St) (a : Act) : Prop where
  heap : SRH w O F β s.H
  fr : FrR w (bar O F) β n s.T a.tmps
  dfs : All2 (DfR w (bar O F) β) s.D a.defers
  rd : RdR β s.rd rl

structure KOk (P : Program) (K : Fns) : Prop where
  pf : PfOk P K
  fn : FnOk P K
  yl : YlOk P K
structure SumOk (P : Program) (opt : Opts) : Prop where
  n : SumNOk P opt
  e : SumEOk P opt

section
variable {P : Program} {w w0 w' : World} {O : Nat → Prop} {F : Fo} {X : Nat → Prop} {β : Nat → Option Loc} {b : Nat} {rl : Option Nat} {H : Heap} {opt : Opts} {K : Fns} {n : Nat}

theorem DfR.mono {w w' : World} {X X' : Nat → Prop} {β β' : Nat → Option Loc} (hs : Still w X w' X') (hb : Ext β β') : ∀ {D : List ADef} {ds : List Deferred}, All2 (DfR w X β) D ds → All2 (DfR w' X' β') D ds
  | _, _, .nil => .nil
  | d :: D, e :: ds, .cons h t => by
    refine .cons ?_ (DfR.mono hs hb t)
    cases d with
    | coll o => obtain ⟨l, h1, h2⟩ := h; exact ⟨l, hb _ _ h1, h2⟩
    | call f cap => obtain ⟨vs, h1, h2⟩ := h; exact ⟨vs, h1, h2.mono hs hb⟩
theorem RdR.mono {β β' : Nat → Option Loc} (hb : Ext β β') {r rl : Option Nat} (h : RdR β r rl) : RdR β' r rl := by
  cases r <;> cases rl <;> first | trivial | exact h.elim | skip
  obtain ⟨l, h1, h2⟩ := h
  exact ⟨l, hb _ _ h1, h2⟩

theorem runOp_sound (hK : KOk P K) (hS : SumOk P opt) {o : Oper} {a : Act} {T : Fr} {v : AV} {H' : Heap} (h : runOp P opt K n o.op T H = some (v, H')) (hf : FrR w (bar O F) β n T a.tmps) (hsr : SRH w O F β H) :
    Runs P rl o a w (ERes w O F β v H') := by
  unfold runOp at h
  cases hN : opN P opt K n o.op T H H.n with
  | some r =>
    obtain ⟨v1, objs⟩ := r
    simp only [hN] at h
    cases hp : H.push objs with
    | none => simp [hp] at h
    | some H2 =>
      simp only [hp, Option.some.injEq, Prod.mk.injEq] at h
      obtain ⟨rfl, rfl⟩ := h
      exact (opN_sound hK.pf hS.n hN hf hsr.1 (fun _ _ => rfl) (hsr.hole _)).mono fun u w' hr => hr.eres hsr hp
  | none =>
    simp only [hN] at h
    exact opE_sound hK.fn hS.e hK.yl h hf hsr

/-- the guard -/
theorem wanted_sound {ops : Array Oper} {o : Oper} {T : Fr} {tmps : Array Value} {t : Bool} (h : wantedA n ops.toList o T = some t) (hf : FrR w X β n T tmps) : Region.wanted o (yielded ops tmps) = t := by
  unfold wantedA at h
  unfold Region.wanted
  cases hg : o.guard with
  | none => simp only [hg, Option.some.injEq] at h ⊢; exact h
  | some jb =>
    obtain ⟨j, b⟩ := jb
    simp only [hg] at h ⊢
    cases hn : nth ops.toList j with
    | none => simp [hn] at h
    | some g =>
      simp only [hn] at h
      cases hd : g.dst with
      | none => simp [hd] at h
      | some d =>
        simp only [hd] at h
        cases hlt : Nat.blt d n with
        | false => simp [hlt] at h
        | true =>
          simp only [hlt, cond_true] at h
          have hlt : d < tmps.size := by rw [hf.1]; simpa using hlt
          rw [nth_eq, Array.getElem?_toList] at hn
          have hy : ((ops[j]?).bind (·.dst)).bind (tmps[·]?) = some tmps[d] := by simp [hn, hd, hlt]
          have hr := hf.2 d tmps[d] (by simp [hlt])
          unfold yielded
          rw [hy]
          split at h
          · rename_i x hx
            rw [hx] at hr
            have := hr.bool_inv
            rw [this]
            simp only [Option.some.injEq] at h
            subst h
            cases x <;> cases b <;> rfl
          · rename_i hx
            rw [hx] at hr
            have : tmps[d] = .tuple #[] := by have := hr.fv_inv; generalize tmps[d] = q at this; cases this; rfl
            rw [this]
            simp only [Option.some.injEq] at h
            subst h
            rfl
          · cases h

/-- one operation in its place -/
def OneIn (P : Program) (rl : Option Nat) (ops : Array Oper) (o : Oper) (a : Act) (w : World) (next : Act → World → Prop) (Q : Exit → Act → World → Prop) : Prop :=
  if Region.wanted o (yielded ops a.tmps) then o.wpIn (Fc rl) 0 P a w next Q else (∀ f, o.about P w a.eval = some f → (Fc rl).fn f) ∧ next (a.put o.dst undef) w

theorem put_tmps (a : Act) (d : Option Tmp) (v : Value) : (a.put d v).tmps = (match d with | some t => a.tmps.setIfInBounds t v | none => a.tmps) ∧ (a.put d v).defers = a.defers := by
  cases d <;> exact ⟨rfl, rfl⟩

theorem StR.put {s : St} {a : Act} {v : AV} {u : Value} {d : Option Tmp} (h : StR rl w O F β n s a) (hr : Rel w (bar O F) β v u) : StR rl w O F β n { T := putT n d s.T v, H := s.H, D := s.D, rd := s.rd } (a.put d u) := by
  refine ⟨h.heap, ?_, ?_, h.rd⟩
  · rw [(put_tmps a d u).1]; exact h.fr.put hr d
  · rw [(put_tmps a d u).2]; exact h.dfs
theorem StR.step {s : St} {a : Act} {H' : Heap} {O' : Nat → Prop} {β' : Nat → Option Loc} (h : StR rl w O F β n s a) (hst : Step w O β w' O' β') (hh : SRH w' O' F β' H') :
    StR rl w' O' F β' n { T := s.T, H := H', D := s.D, rd := s.rd } a :=
  ⟨hh, h.fr.mono (hst.still F) hst.ext, DfR.mono (hst.still F) hst.ext h.dfs, h.rd.mono hst.ext⟩

theorem stepA_sound (hK : KOk P K) (hS : SumOk P opt) {ops : Array Oper} {o : Oper} {s s' : St} {a : Act} (h : stepA P opt K n ops.toList o s = some s') (hst : StR rl w O F β n s a)
    {next : Act → World → Prop} {Q : Exit → Act → World → Prop} (hn : ∀ a' w' O' β', Step w O β w' O' β' → StR rl w' O' F β' n s' a' → next a' w') : OneIn P rl ops o a w next Q := by
  have unwanted : wantedA n ops.toList o s.T = some false → s' = { T := putT n o.dst s.T (.fv .undef), H := s.H, D := s.D, rd := s.rd } → OneIn P rl ops o a w next Q := by
    intro hw hs
    unfold OneIn
    rw [wanted_sound hw hst.fr, if_neg (by simp)]
    subst hs
    exact ⟨fun _ _ => trivial, hn _ w O β (Step.refl _ _ _) (hst.put (.fv _ _ .undef))⟩
  by_cases hdf : ∃ c, o.op = .defer c
  · obtain ⟨c, hc⟩ := hdf
    unfold stepA at h
    simp only [hc] at h
    cases hw : wantedA n ops.toList o s.T with
    | none => simp [hw] at h
    | some t =>
      cases t with
      | false =>
        simp only [hw, Option.some.injEq] at h
        exact unwanted hw h.symm
      | true =>
        simp only [hw] at h
        cases hd : deferA n c s with
        | none => simp [hd] at h
        | some s1 =>
          simp only [hd, Option.some.injEq] at h
          unfold deferA at hd
          cases hcal : c.callee with
          | builtin _ => simp [hcal] at hd
          | invoke _ _ => simp [hcal] at hd
          | value f =>
            simp only [hcal] at hd
            cases hz : Nat.beq c.args.size 0 with
            | false => simp [hz] at hd
            | true =>
              simp only [hz, cond_true] at hd
              rw [beq_iff] at hz
              have hargs : c.args = #[] := Array.eq_empty_of_size_eq_zero hz
              cases hff : evO n f with
              | none => simp [hff] at hd
              | some ff =>
                simp only [hff] at hd
                cases hrd : s.rd with
                | some _ => simp [hrd] at hd
                | none =>
                  simp only [hrd] at hd
                  split at hd
                  · rename_i g cap hg
                    simp only [Option.some.injEq] at hd
                    have hr := evO_sound hff hst.fr
                    rw [hg] at hr
                    obtain ⟨vc, hvc, hrc⟩ := hr.clo_inv
                    have hrl : rl = none := by
                      have := hst.rd; rw [hrd] at this
                      cases rl with
                      | none => rfl
                      | some _ => exact this.elim
                    subst hrl
                    unfold OneIn
                    rw [wanted_sound hw hst.fr, if_pos rfl]
                    refine ⟨fun _ _ => trivial, ?_⟩
                    have hsem : (Oper.semAt (Fc none).round a.eval o).run P w = .ok (.defer { target := .fn (.func g) vc, args := #[] }) w := by
                      rw [show (Fc none).round = none from rfl, Oper.semAt_none]
                      unfold execOp
                      simp only [hc]
                      simp [resolve, hcal, hargs, hvc, Deferred.ofValue]
                    rw [hsem, Oper.uponIn_defer]
                    subst hd; subst h
                    refine hn _ w O β (Step.refl _ _ _) ?_
                    have h1 : StR none w O F β n { T := s.T, H := s.H, D := .call g cap :: s.D, rd := none } { a with defers := { target := .fn (.func g) vc, args := #[] } :: a.defers } :=
                      ⟨hst.heap, hst.fr, .cons ⟨vc, rfl, hrc⟩ hst.dfs, trivial⟩
                    exact h1.put (.fv _ _ .undef)
                  · cases hd
  · have hstep : stepA P opt K n ops.toList o s = (match wantedA n ops.toList o s.T with
      | some true => (match runOp P opt K n o.op s.T s.H with
        | some (v, H') => some { T := putT n o.dst s.T v, H := H', D := s.D, rd := s.rd }
        | none => none)
      | some false => some { T := putT n o.dst s.T (.fv .undef), H := s.H, D := s.D, rd := s.rd }
      | none => none) := by
      unfold stepA
      cases hop : o.op <;> first | rfl | exact absurd ⟨_, hop⟩ hdf
    rw [hstep] at h
    cases hw : wantedA n ops.toList o s.T with
    | none => simp [hw] at h
    | some t =>
      cases t with
      | false =>
        simp only [hw, Option.some.injEq] at h
        exact unwanted hw h.symm
      | true =>
        simp only [hw] at h
        cases hr : runOp P opt K n o.op s.T s.H with
        | none => simp [hr] at h
        | some vH =>
          obtain ⟨v, H'⟩ := vH
          simp only [hr, Option.some.injEq] at h
          subst h
          unfold OneIn
          rw [wanted_sound hw hst.fr, if_pos rfl]
          refine runOp_sound hK hS hr hst.fr hst.heap next Q fun u w' hres => ?_
          obtain ⟨O', β', h1, h2, h3⟩ := hres
          exact hn _ w' O' β' h1 ((hst.step h1 h2).put h3)

theorem seqA_sound (hK : KOk P K) (hS : SumOk P opt) {ops : Array Oper} {Q : Exit → Act → World → Prop} : ∀ {l : List Oper} {s s' : St} {a : Act} {w : World} {O : Nat → Prop} {β : Nat → Option Loc}, seqA P opt K n ops.toList l s = some s' → StR rl w O F β n s a →
    (∀ a' w' O' β', Step w O β w' O' β' → StR rl w' O' F β' n s' a' → Q .normal a' w') → wpListIn (Fc rl) 0 P ops Q l a w
  | [], s, s', a, w, O, β, h, hst, hn => by
    simp only [seqA, Option.some.injEq] at h; subst h
    exact hn a w O β (Step.refl _ _ _) hst
  | o :: l, s, s', a, w, O, β, h, hst, hn => by
    unfold seqA at h
    simp only [] at h
    cases h1 : stepA P opt K n ops.toList o s with
    | none => simp [h1] at h
    | some s1 =>
      simp only [h1] at h
      unfold wpListIn
      exact stepA_sound hK hS h1 hst fun a' w' O' β' hs hst' => seqA_sound hK hS h hst' fun a2 w2 O2 β2 hs2 hst2 => hn a2 w2 O2 β2 (hs.trans hs2) hst2
end
end Go.Gm
