/- A region, whoever runs first: an operation with effect. -/
import Derived.Test.YtafggfmidkpnbaaGreatAbsDraw10
namespace Go.Gm
section
variable {P : Program} {opt : Opts} {K : Fns} {n : Nat} {ops : Array Oper} {masks : List Nat} {s0 : St} {tr post pre : List TStep} {y : TStep} {rl : Option Nat} {F : Fo} {S : Nat → Bool} {w : World} {O : Nat → Prop} {β : Nat → Option Loc} {a : Act}

/-- the blocks of what is set aside -/
def AsideB (G : Nat → AObj) (β : Nat → Option Loc) (A : Nat → Prop) (c : Nat) : Prop := ∃ o l, A o ∧ (G o).alive = true ∧ β o = some l ∧ l.b = c

theorem bar_aside {G : Nat → AObj} {A : Nat → Prop} {Fb : Nat → Prop} (h : SR w O Fb β G) : bar (fun c => O c ∧ ¬ AsideB G β A c) (fun c => Fb c ∨ AsideB G β A c) = bar O Fb := by
  funext c
  refine propext ⟨?_, ?_⟩
  · rintro (⟨h1, _⟩ | h1 | ⟨o, l, h1, h2, h3, rfl⟩)
    · exact .inl h1
    · exact .inr h1
    · exact .inl (h.own o l h2 h3)
  · rintro (h1 | h1)
    · by_cases hc : AsideB G β A c
      · exact .inr (.inr hc)
      · exact .inl ⟨h1, hc⟩
    · exact .inr (.inl h1)

/-- some objects are set aside -/
theorem SR.aside {G G1 : Nat → AObj} {A : Nat → Prop} {Fb : Nat → Prop} (h : SR w O Fb β G) (h1 : ∀ o, (A o → G1 o = .dead) ∧ (¬ A o → G1 o = G o)) :
    SR w (fun c => O c ∧ ¬ AsideB G β A c) (fun c => Fb c ∨ AsideB G β A c) β G1 := by
  have key : ∀ o, (G1 o).alive = true → ¬ A o ∧ (G o).alive = true := fun o ha => by
    by_cases hA : A o
    · rw [(h1 o).1 hA] at ha; simp [AObj.alive] at ha
    · rw [(h1 o).2 hA] at ha; exact ⟨hA, ha⟩
  refine ⟨fun o l hl => ?_, fun o ha => h.has o (key o ha).2, fun o l ha hl => ⟨h.own o l (key o ha).2 hl, ?_⟩, fun o o' l l' ha ha' hl hl' hne => h.inj o o' l l' (key o ha).2 (key o' ha').2 hl hl' hne, fun c hc => h.lt c hc.1, fun c hc => ?_, fun c hc hf => ?_⟩
  · rw [bar_aside h]
    by_cases hA : A o
    · rw [(h1 o).1 hA]; trivial
    · rw [(h1 o).2 hA]; exact h.obj o l hl
  · rintro ⟨o', l', g1, g2, g3, g4⟩
    have hne : o' ≠ o := fun e => by subst e; exact (key o' ha).1 g1
    exact h.inj o' o l' l g2 (key o ha).2 g3 hl hne g4
  · rcases hc with hc | ⟨o, l, _, g2, g3, rfl⟩
    · exact h.flt c hc
    · exact h.lt _ (h.own o l g2 g3)
  · rcases hf with hf | hf
    · exact h.dis c hc.1 hf
    · exact hc.2 hf

/-- and come back -/
theorem SR.back {G G2 G3 : Nat → AObj} {A : Nat → Prop} {Fb : Nat → Prop} {w' : World} {O2 : Nat → Prop} {β2 : Nat → Option Loc} (h : SR w O Fb β G)
    (hst : Step w (fun c => O c ∧ ¬ AsideB G β A c) β w' O2 β2) (h2 : SR w' O2 (fun c => Fb c ∨ AsideB G β A c) β2 G2) (h3 : ∀ o, (A o → G3 o = G o) ∧ (¬ A o → G3 o = G2 o)) :
    Step w O β w' (fun c => O2 c ∨ AsideB G β A c) β2 ∧ SR w' (fun c => O2 c ∨ AsideB G β A c) Fb β2 G3 ∧ bar (fun c => O2 c ∨ AsideB G β A c) Fb = bar O2 (fun c => Fb c ∨ AsideB G β A c) := by
  have hB : ∀ c, AsideB G β A c → O c := by
    rintro c ⟨o, l, _, g2, g3, rfl⟩; exact h.own o l g2 g3
  have hbar : bar (fun c => O2 c ∨ AsideB G β A c) Fb = bar O2 (fun c => Fb c ∨ AsideB G β A c) := by
    funext c
    refine propext ⟨?_, ?_⟩
    · rintro ((g | g) | g)
      · exact .inl g
      · exact .inr (.inr g)
      · exact .inr (.inl g)
    · rintro (g | g | g)
      · exact .inl (.inl g)
      · exact .inr g
      · exact .inl (.inr g)
  have hs : Step w O β w' (fun c => O2 c ∨ AsideB G β A c) β2 := by
    refine ⟨fun c hc hn => hst.heap c hc fun g => hn g.1, hst.size, fun c hc => ?_, hst.ext, hst.out⟩
    rcases hc with hc | hc
    · rcases hst.own c hc with g | g
      · exact .inl g.1
      · exact .inr g
    · exact .inl (hB c hc)
  have hA3 : ∀ o, A o → (G3 o).alive = true → ∃ l0, β o = some l0 ∧ β2 o = some l0 ∧ AsideB G β A l0.b := fun o hA ha => by
    rw [(h3 o).1 hA] at ha
    obtain ⟨l0, g⟩ := h.has o ha
    exact ⟨l0, g, hst.ext _ _ g, o, l0, hA, ha, g, rfl⟩
  refine ⟨hs, ⟨fun o l hl => ?_, fun o ha => ?_, fun o l ha hl => ?_, fun o o' l l' ha ha' hl hl' hne => ?_, fun c hc => ?_, fun c hc => Nat.lt_of_lt_of_le (h.flt c hc) hst.size, fun c hc hf => ?_⟩, hbar⟩
  · by_cases hA : A o
    · by_cases ha : (G3 o).alive = true
      · obtain ⟨l0, g1, g2, g3⟩ := hA3 o hA ha
        rw [hl] at g2; cases g2
        rw [(h3 o).1 hA]
        exact (h.obj o l g1).mono (hs.still Fb) hst.ext (hst.heap _ (h.lt _ (hB _ g3)) (fun g => g.2 g3))
      · rw [not_alive ha]; trivial
    · rw [(h3 o).2 hA, hbar]; exact h2.obj o l hl
  · by_cases hA : A o
    · obtain ⟨l0, _, g2, _⟩ := hA3 o hA ha; exact ⟨l0, g2⟩
    · rw [(h3 o).2 hA] at ha; exact h2.has o ha
  · by_cases hA : A o
    · obtain ⟨l0, _, g2, g3⟩ := hA3 o hA ha
      rw [hl] at g2; cases g2; exact .inr g3
    · rw [(h3 o).2 hA] at ha; exact .inl (h2.own o l ha hl)
  · by_cases hA : A o
    · obtain ⟨l0, g1, g2, g3⟩ := hA3 o hA ha
      rw [hl] at g2; cases g2
      by_cases hA' : A o'
      · obtain ⟨l0', g1', g2', g3'⟩ := hA3 o' hA' ha'
        rw [hl'] at g2'; cases g2'
        rw [(h3 o).1 hA] at ha; rw [(h3 o').1 hA'] at ha'
        exact h.inj o o' l l' ha ha' g1 g1' hne
      · rw [(h3 o').2 hA'] at ha'
        intro e
        exact h2.dis _ (h2.own o' l' ha' hl') (.inr (e ▸ g3))
    · rw [(h3 o).2 hA] at ha
      by_cases hA' : A o'
      · obtain ⟨l0', g1', g2', g3'⟩ := hA3 o' hA' ha'
        rw [hl'] at g2'; cases g2'
        intro e
        exact h2.dis _ (h2.own o l ha hl) (.inr (e ▸ g3'))
      · rw [(h3 o').2 hA'] at ha'
        exact h2.inj o o' l l' ha ha' hl hl' hne
  · rcases hc with hc | hc
    · exact h2.lt c hc
    · exact Nat.lt_of_lt_of_le (h.lt c (hB c hc)) hst.size
  · rcases hc with hc | hc
    · exact h2.dis c hc (.inl hf)
    · exact h.dis c (hB c hc) hf

/-- an operation with effect runs, whoever has run -/
theorem eff_runs (hK : KOk P K) (hS : SumOk P opt) (h : Reg P opt K n ops masks s0 (post ++ y :: pre)) (hi : Inv rl n s0 (post ++ y :: pre) F S w O β a) {o : Oper} (hr : Ready ops S y o) (he : y.r.eff = true) :
    wantedA n ops.toList o (frS S s0.T (post ++ y :: pre)) = some true ∧
    Runs P rl o a w (fun u w' => ∃ O' β', Step w O β w' O' β' ∧ Inv rl n s0 (post ++ y :: pre) F (withI S y.r.i) w' O' β' (a.put o.dst u)) := by
  have hy : y ∈ post ++ y :: pre := List.mem_append_right _ (List.mem_cons_self ..)
  have hsub : ∀ x, x ∈ pre → x ∈ post ++ y :: pre := fun x hx => List.mem_append_right _ (List.mem_cons_of_mem _ hx)
  obtain ⟨o', m, h1, _, h3, h4⟩ := h.mkOf hy
  rw [hr.op] at h1; cases h1
  obtain ⟨hnd, hns⟩ := h.nodef _ _ hr.op
  have hfE : y.q.fE = opE P opt K n o.op := by rw [h3]; rfl
  have hlk : y.q.lk = tmpsOf o.op := by rw [h3]; rfl
  have hwt : y.q.want = wantedA n ops.toList o := by rw [h3]; rfl
  have hmS : ∀ j, y.r.mask.testBit j = true → S j = true := fun j hj => h.ready hr hy hj
  have hmp : ∀ x ∈ post, y.r.mask.testBit x.r.i = false := fun x hx => pw_before (R := fun b a : TStep => a.r.mask.testBit b.r.i = false) h.fair.msk hx
  have hpost : ∀ x ∈ post, S x.r.i = true → x.r.eff = false ∧ x.r.objs = [] := fun x hx hs => by
    have hpk : x.r.mask.testBit y.r.i = true ∨ pairOk y.r x.r = true := pw_before (R := fun b a : TStep => b.r.mask.testBit a.r.i = true ∨ pairOk a.r b.r = true) h.fair.pair hx
    rcases hpk with c | c
    · have := h.inS hr.closed (List.mem_append_left _ hx) hs c
      rw [hr.out] at this; cases this
    · unfold pairOk at c
      cases hxe : x.r.eff with
      | true => simp [he, hxe] at c
      | false =>
        simp only [he, hxe, Bool.and_eq_true, beq_iff, lenN_eq] at c
        exact ⟨rfl, List.eq_nil_of_length_eq_zero c.1⟩
  have hposte : ∀ x ∈ post, x.r.eff = true → S x.r.i = false := fun x hx hxe => by
    cases hs : S x.r.i with
    | false => rfl
    | true => rw [(hpost x hx hs).1] at hxe; cases hxe
  have hpre : ∀ x ∈ pre, x.r.eff = true → S x.r.i = true := fun x hx hxe => by
    have hpk : y.r.mask.testBit x.r.i = true ∨ pairOk x.r y.r = true := pw_at (R := fun b a : TStep => b.r.mask.testBit a.r.i = true ∨ pairOk a.r b.r = true) h.fair.pair hx
    rcases hpk with c | c
    · exact hmS _ c
    · unfold pairOk at c
      simp [he, hxe] at c
  have hrun := (AllF.at h.run).run
  rcases hrun with ⟨_, hwt1, hf, hpg, hbd, hdd⟩ | ⟨c, _⟩ | ⟨c, _⟩
  rotate_left
  · rw [he] at c; cases c
  · rw [he] at c; cases c
  rw [hwt, h.wantEq hr] at hwt1
  refine ⟨hwt1, ?_⟩
  rw [hlk, h.restrEq hr, hfE] at hf
  -- what is set aside
  have hPS : ∀ p, (Aside S (post ++ y :: pre) y.r.mask p → y.r.pre.get p = .dead) ∧ (¬ Aside S (post ++ y :: pre) y.r.mask p → y.r.pre.get p = GS S s0.H (post ++ y :: pre) p) := fun p => by
    rw [hpg]; exact PS_eff h.good hposte hr.out hpre hmS hmp hi.dead p
  have hsr1 := hi.sr.aside hPS
  have hbar1 := bar_aside (A := Aside S (post ++ y :: pre) y.r.mask) hi.sr
  -- numbers
  have hb1 : baseS S s0.H (post ++ y :: pre) = baseS S s0.H pre := by
    rw [baseS_append hposte]
    simp [baseS, hr.out]
  have hbn : (baseS S s0.H pre).n ≤ y.lo := by
    rcases baseS_cases (S := S) (H0 := s0.H) pre with c | ⟨p1, e, p2, rfl, e1, e2, e3, e4⟩
    · have : baseS S s0.H pre = s0.H := by
        have := baseS_append (S := S) (H0 := s0.H) (post := pre) (l := []) c
        rw [List.append_nil] at this; rw [this]; rfl
      rw [this]; exact (h.good.lo y hy).1
    · rw [e4]
      exact pw_at (R := fun b a : TStep => a.hi ≤ b.lo) h.good.num (List.mem_append_right _ (List.mem_cons_self ..))
  have hnone : ∀ p, y.r.pre.n ≤ p → β p = none := fun p hp => by
    cases hβ : β p with
    | none => rfl
    | some l =>
      rcases hi.has p (by rw [hβ]; simp) with c | ⟨x, g1, g2, g3, g4⟩
      · rw [hb1] at c
        have : y.lo = y.r.pre.n := rfl
        omega
      · rcases List.mem_append.1 g1 with hx | hx
        · have := h.good.pobj x g1 g2
          rw [(hpost x hx g3).2] at this
          have q1 := g4.1; have q2 := g4.2; simp at this; omega
        · rcases List.mem_cons.1 hx with rfl | hx
          · rw [he] at g2; cases g2
          · have : x.hi ≤ y.lo := pw_at (R := fun b a : TStep => a.hi ≤ b.lo) h.good.num hx
            have q2 := g4.2
            have : y.lo = y.r.pre.n := rfl
            omega
  let F1 : Fo := ⟨fun c => F.blk c ∨ AsideB (GS S s0.H (post ++ y :: pre)) β (Aside S (post ++ y :: pre) y.r.mask) c, fun p => p < y.r.pre.n ∧ β p = none⟩
  have hlohi : y.r.pre.n ≤ y.r.post.n := (h.good.lo y hy).2
  have hsrh : SRH w (fun c => O c ∧ ¬ AsideB (GS S s0.H (post ++ y :: pre)) β (Aside S (post ++ y :: pre) y.r.mask) c) F1 β y.r.pre := by
    refine ⟨hsr1, fun p hp => ⟨not_alive fun c => ?_, hnone p hp⟩, Nat.le_trans hlohi hbd, fun p hp => hp⟩
    obtain ⟨l, hl⟩ := hsr1.has p c
    rw [hnone p hp] at hl; cases hl
  have hfr : FrR w (bar (fun c => O c ∧ ¬ AsideB (GS S s0.H (post ++ y :: pre)) β (Aside S (post ++ y :: pre) y.r.mask) c) F1.blk) β n (restr (tmpsOf o.op) (frS S s0.T (post ++ y :: pre))) (actR (tmpsOf o.op) a).tmps := by
    rw [show bar (fun c => O c ∧ ¬ AsideB (GS S s0.H (post ++ y :: pre)) β (Aside S (post ++ y :: pre) y.r.mask) c) F1.blk = bar O F.blk from hbar1]
    exact hi.fr.restr _
  refine runs_restrict hnd hns (a' := actR (tmpsOf o.op) a) (by simp [actR]) (fun x hx => actR_eval fun t ht => mem_tmpsOf.2 (by rw [← ht]; exact hx)) ((opE_sound hK.fn hS.e hK.yl hf hfr hsrh).mono ?_)
  rintro u w' ⟨O2, β2, hst, hs2, hrel⟩
  have hGS := GS_eff (H0 := s0.H) h.good he hposte hr.out
  obtain ⟨k1, k2, k3⟩ := hi.sr.back hst hs2.1 hGS
  refine ⟨_, β2, k1, k2, ?_, ?_, ?_, ?_, ?_, ?_, ?_, ?_⟩
  · rw [h.frWith hr]
    refine (hi.fr.mono (k1.still F.blk) k1.ext).puts ?_ o.dst
    rw [k3]; exact hrel
  · rw [(put_tmps a o.dst u).2]
    exact DfR.mono (k1.still F.blk) k1.ext hi.dfs
  · exact hi.rd.mono k1.ext
  all_goals
    have hnp : ∀ x ∈ post, x.r.i ≠ y.r.i := fun x hx e => (pw_before (R := fun b a : TStep => b.r.i ≠ a.r.i) h.good.idx hx) e
    have hb : baseS (withI S y.r.i) s0.H (post ++ y :: pre) = y.r.post := by
      rw [baseS_append fun x hx hxe => by rw [withI_ne (hnp x hx)]; exact hposte x hx hxe]
      simp [baseS, he, withI_self]
  · intro p hp
    rw [hb]
    refine .inl (Nat.lt_of_not_le fun c => hp ?_)
    exact (hs2.2.1 p c).2
  · intro x hx hxe hxs p hc
    have hne : x.r.i ≠ y.r.i := fun e => by rw [e, withI_self] at hxs; cases hxs
    rw [withI_ne hne] at hxs
    have hβ := hi.free x hx hxe hxs p hc
    rcases Nat.lt_or_ge p y.r.pre.n with hlt | hge
    · exact (hs2.2.2.2 p ⟨hlt, hβ⟩).2
    · rcases List.mem_append.1 hx with hx | hx
      · have q : y.hi ≤ x.lo := pw_before (R := fun b a : TStep => a.hi ≤ b.lo) h.good.num hx
        exact (hs2.2.1 p (Nat.le_trans q hc.1)).2
      · rcases List.mem_cons.1 hx with rfl | hx
        · exact absurd rfl hne
        · have q : x.hi ≤ y.lo := pw_at (R := fun b a : TStep => a.hi ≤ b.lo) h.good.num hx
          have q2 := hc.2
          have : y.lo = y.r.pre.n := rfl
          omega
  · intro p hp
    obtain ⟨g1, g2⟩ := hi.num p hp
    refine ⟨g1, (hs2.2.2.2 p ⟨?_, g2⟩).2⟩
    have := (h.good.lo y hy).1
    have : y.lo = y.r.pre.n := rfl
    omega
  · rw [hb]; exact fun p hp => (hs2.2.1 p hp).1
  · intro r hr' hre hrs hru p hc
    rw [hb]
    have hym : y.r.mask.testBit r.r.i = false := hru y hy he (withI_self _)
    have hne : r.r.i ≠ y.r.i := fun e => by have := h.good.same hr' hy e; subst this; rw [he] at hre; cases hre
    rw [withI_ne hne] at hrs
    rcases List.mem_append.1 hr' with hx | hx
    · have q : y.hi ≤ r.lo := pw_before (R := fun b a : TStep => a.hi ≤ b.lo) h.good.num hx
      exact (hs2.2.1 p (Nat.le_trans q hc.1)).1
    · rcases List.mem_cons.1 hx with rfl | hx
      · exact absurd rfl hne
      · have hgp : Good s0.H.n pre := (Good.drop h.good).tail
        have hp := hgp.pobj r hx hre
        refine hdd (r.r.i, r.lo, r.r.objs) ((mem_pendS hgp).2 ⟨r, hx, hre, rfl, fun c => ?_, fun z hz hze _ => ?_, rfl⟩) hym p ⟨hc.1, by show p < r.lo + r.r.objs.length; rw [← hp]; exact hc.2⟩
        · rw [c] at hp; have q1 := hc.1; have q2 := hc.2; simp at hp; omega
        · exact hru z (hsub z hz) hze (withI_mono (hpre z hz hze))
end
end Go.Gm
