/- A region, whoever runs first: an operation without effect. -/
import Derived.Test.YtafggfmidkpnbaaGreatAbsDraw9
namespace Go.Gm
section
variable {P : Program} {opt : Opts} {K : Fns} {n : Nat} {ops : Array Oper} {masks : List Nat} {s0 : St} {tr post pre : List TStep} {y : TStep} {rl : Option Nat} {F : Fo} {S : Nat → Bool} {w : World} {O : Nat → Prop} {β : Nat → Option Loc} {a : Act}

theorem liveB_spec {H : Heap} : ∀ {l : List Nat}, pairOk.liveB H l = true → ∀ o ∈ l, H.get o ≠ .dead
  | [], _, o, ho => by cases ho
  | x :: l, h, o, ho => by
    unfold pairOk.liveB at h
    rw [Bool.and_eq_true] at h
    rcases List.mem_cons.1 ho with rfl | ho
    · intro c
      rw [c] at h
      simp at h
    · exact liveB_spec h.2 o ho

theorem Inv.hole (hi : Inv rl n s0 tr F S w O β a) (h : Reg P opt K n ops masks s0 tr) (hy : y ∈ tr) (he : y.r.eff = false) (hS : S y.r.i = false) : Hole (GS S s0.H tr) β y.lo y.r.objs.length := by
  have hp := h.good.pobj y hy he
  have hn : ∀ p, y.lo ≤ p → p < y.lo + y.r.objs.length → β p = none := fun p h1 h2 => hi.free y hy he hS p ⟨h1, by rw [hp]; exact h2⟩
  refine ⟨fun p h1 h2 => not_alive fun c => ?_, hn⟩
  obtain ⟨l, hl⟩ := hi.sr.has p c
  rw [hn p h1 h2] at hl; cases hl

theorem NRes.nil {G : Nat → AObj} {b b' : Nat} {v : AV} {u : Value} {w' : World} (h : NRes w O F.blk β G b v [] u w') : NRes w O F.blk β G b' v [] u w' := by
  obtain ⟨O', β', h1, h2, h3, h4⟩ := h
  exact ⟨O', β', h1, h2, h3, fun p _ => h4 p (by simp only [List.length_nil]; omega)⟩

/-- an operation without effect runs, whoever has run -/
theorem pure_runs (hK : KOk P K) (hS : SumOk P opt) (h : Reg P opt K n ops masks s0 (post ++ y :: pre)) (hi : Inv rl n s0 (post ++ y :: pre) F S w O β a) {o : Oper} (hr : Ready ops S y o) (he : y.r.eff = false)
    (hw : wantedA n ops.toList o (frS S s0.T (post ++ y :: pre)) = some true) : Runs P rl o a w (NRes w O F.blk β (GS S s0.H (post ++ y :: pre)) y.lo y.r.val y.r.objs) := by
  have hy : y ∈ post ++ y :: pre := List.mem_append_right _ (List.mem_cons_self ..)
  have hsub : ∀ x, x ∈ pre → x ∈ post ++ y :: pre := fun x hx => List.mem_append_right _ (List.mem_cons_of_mem _ hx)
  obtain ⟨o', m, h1, _, h3, h4⟩ := h.mkOf hy
  rw [hr.op] at h1; cases h1
  obtain ⟨hnd, hns⟩ := h.nodef _ _ hr.op
  have hfN : y.q.fN = opN P opt K n o.op := by rw [h3]; rfl
  have hrd : y.q.rd = readsOf opt n o.op := by rw [h3]; rfl
  have hlk : y.q.lk = tmpsOf o.op := by rw [h3]; rfl
  have hwt : y.q.want = wantedA n ops.toList o := by rw [h3]; rfl
  -- whoever is ahead of it has run
  have hmS : ∀ j, y.r.mask.testBit j = true → S j = true := fun j hj => h.ready hr hy hj
  have hmp : ∀ x ∈ post, y.r.mask.testBit x.r.i = false := fun x hx => pw_before (R := fun b a : TStep => a.r.mask.testBit b.r.i = false) h.fair.msk hx
  -- the run alone
  have hrun := (AllF.at h.run).run
  rcases hrun with ⟨c, _⟩ | ⟨_, hwt1, hf, hpg, hreads, hrdAt, hagain⟩ | ⟨_, hwt1, _⟩
  · rw [he] at c; cases c
  · rw [hlk, h.restrEq hr] at hf hreads hrdAt hagain
    rw [hfN] at hf hagain
    rw [hrd] at hreads hrdAt
    have hfr := hi.fr.restr (tmpsOf o.op)
    have close : ∀ {b : Nat} {H : Heap} {R : Value → World → Prop}, opN P opt K n o.op (restr (tmpsOf o.op) (frS S s0.T (post ++ y :: pre))) H b = some (y.r.val, y.r.objs) →
        (∀ r, r ∈ readsOf opt n o.op (restr (tmpsOf o.op) (frS S s0.T (post ++ y :: pre))) H → GS S s0.H (post ++ y :: pre) r = H.get r) → Hole (GS S s0.H (post ++ y :: pre)) β b y.r.objs.length →
        (∀ u w', NRes w O F.blk β (GS S s0.H (post ++ y :: pre)) b y.r.val y.r.objs u w' → R u w') → Runs P rl o a w R := fun g1 g2 g3 g4 =>
      runs_restrict hnd hns (a' := actR (tmpsOf o.op) a) (by simp [actR]) (fun x hx => actR_eval fun t ht => mem_tmpsOf.2 (by rw [← ht]; exact hx)) ((opN_sound hK.pf hS.n g1 hfr hi.sr g2 g3).mono g4)
    have hole := hi.hole h hy he hr.out
    have direct : (∀ r, r ∈ y.r.reads → GS S s0.H (post ++ y :: pre) r = y.r.pre.get r) → Runs P rl o a w (NRes w O F.blk β (GS S s0.H (post ++ y :: pre)) y.lo y.r.val y.r.objs) := fun g =>
      close hf (fun r hr' => g r (by rw [hreads]; exact hr')) hole fun _ _ h => h
    -- over another heap
    have other : ∀ H, pairOk.free y.r H = true → (∀ r, r ∈ y.r.reads → H.get r ≠ .dead → GS S s0.H (post ++ y :: pre) r = H.get r) → Runs P rl o a w (NRes w O F.blk β (GS S s0.H (post ++ y :: pre)) y.lo y.r.val y.r.objs) := fun H hfree hg => by
      unfold pairOk.free at hfree
      split at hfree
      · rename_i hnil
        exact direct fun r hr' => by rw [hnil] at hr'; cases hr'
      · simp only [Bool.and_eq_true] at hfree
        obtain ⟨⟨⟨f1, f2⟩, f3⟩, f4⟩ := hfree
        rw [beq_iff, lenN_eq] at f1
        have hobj : y.r.objs = [] := List.eq_nil_of_length_eq_zero f1
        have f3' := beqL_eq (fun a b hab => (beq_iff a b).1 hab) f3
        split at f4
        · rename_i v hv
          have hv' := beqA_eq _ f4
          subst hv'
          have hop := hagain H _ hv
          rw [← hobj] at hop
          have hlive := liveB_spec f2
          refine close hop (fun r hr' => ?_) (by rw [hobj]; exact ⟨fun p a b => absurd b (by simp), fun p a b => absurd b (by simp)⟩) fun u w' hn => ?_
          · have : r ∈ y.r.reads := by rw [← f3', hrdAt]; exact hr'
            exact hg r this (hlive r this)
          · rw [hobj] at hn ⊢; exact hn.nil
        · cases f4
    have made : ∀ r ∈ y.r.reads, r < s0.H.n ∨ ∃ x ∈ post ++ y :: pre, y.r.mask.testBit x.r.i = true ∧ x.cov r := fun r hr' => h.fair.made y hy r hr'
    by_cases hpost : ∀ x ∈ post, x.r.eff = true → S x.r.i = false
    · rcases first_out (S := S) pre with hpre | ⟨mid, e, pre', rfl, e1, e2, e3⟩
      · exact direct fun r hr' => by rw [hpg]; exact read_same h.good hpost hr.out hpre hmS hmp (made r hr')
      · have hep : e ∈ mid ++ e :: pre' := List.mem_append_right _ (List.mem_cons_self ..)
        have hpair := pw_at (R := fun b a : TStep => b.r.mask.testBit a.r.i = true ∨ pairOk a.r b.r = true) h.fair.pair hep
        rcases hpair with c | hpk
        · rw [hmS _ c] at e2; cases e2
        · unfold pairOk at hpk
          simp only [e1, he, Bool.and_eq_true] at hpk
          have hassoc : post ++ y :: (mid ++ e :: pre') = (post ++ y :: mid) ++ e :: pre' := by simp
          refine other e.r.pre hpk.2 fun r hr' hl => ?_
          have hge : e.r.pre.get = PS e.r.mask s0.H pre' := by
            have hat := h.run
            rw [hassoc] at hat
            have := (AllF.at hat).run
            rcases this with ⟨_, _, _, g, _⟩ | ⟨c, _⟩ | ⟨c, _⟩
            · exact g
            · rw [e1] at c; cases c
            · rw [e1] at c; cases c
          rw [hge] at hl ⊢
          have hmade := made r hr'
          have hg := h.good
          have hdead := hi.dead
          rw [hassoc] at hg hdead hmade ⊢
          refine read_pre hg (fun x hx hxe => ?_) e2 e3 hdead ?_ hl
          · rcases List.mem_append.1 hx with hx | hx
            · exact hpost x hx hxe
            · rcases List.mem_cons.1 hx with rfl | hx
              · exact hr.out
              · cases hs : S x.r.i with
                | false => rfl
                | true =>
                  have hp2 : x.r.mask.testBit e.r.i = true ∨ pairOk e.r x.r = true := pw_before (R := fun b a : TStep => b.r.mask.testBit a.r.i = true ∨ pairOk a.r b.r = true) (List.pairwise_cons.1 (List.pairwise_append.1 h.fair.pair).2.1).2 hx
                  rcases hp2 with c | c
                  · have := h.inS hr.closed (hsub x (List.mem_append_left _ hx)) hs c
                    rw [e2] at this; cases this
                  · unfold pairOk at c
                    simp [e1, hxe] at c
          · rcases hmade with c | ⟨x, g1, g2, g3⟩
            · exact .inl c
            · exact .inr ⟨x, g1, hmS _ g2, g3⟩
    · rcases baseS_cases (S := S) (H0 := s0.H) post with c | ⟨p1, e, p2, rfl, e1, e2, e3, _⟩
      · exact absurd c hpost
      · have hem : e ∈ p1 ++ e :: p2 := List.mem_append_right _ (List.mem_cons_self ..)
        have hpair := pw_before (R := fun b a : TStep => b.r.mask.testBit a.r.i = true ∨ pairOk a.r b.r = true) h.fair.pair hem
        rcases hpair with c | hpk
        · have := h.inS hr.closed (List.mem_append_left _ hem) e2 c
          rw [hr.out] at this; cases this
        · unfold pairOk at hpk
          simp only [e1, he] at hpk
          have hb : baseS S s0.H (p1 ++ e :: p2 ++ y :: pre) = e.r.post := by
            rw [List.append_assoc, baseS_append e3]
            simp [baseS, e1, e2]
          exact other e.r.post hpk fun r _ hl => read_post h.good hb hi.dead hl
  · rw [hwt, h.wantEq hr, hw] at hwt1; cases hwt1

/-- behind an operation without effect -/
theorem Inv.pure (h : Reg P opt K n ops masks s0 (post ++ y :: pre)) (hi : Inv rl n s0 (post ++ y :: pre) F S w O β a) {o : Oper} (hr : Ready ops S y o) (he : y.r.eff = false) {u : Value} {w' : World}
    (hn : NRes w O F.blk β (GS S s0.H (post ++ y :: pre)) y.lo y.r.val y.r.objs u w') : ∃ O' β', Step w O β w' O' β' ∧ Inv rl n s0 (post ++ y :: pre) F (withI S y.r.i) w' O' β' (a.put o.dst u) := by
  have hy : y ∈ post ++ y :: pre := List.mem_append_right _ (List.mem_cons_self ..)
  obtain ⟨O', β', h1, h2, h3, h4⟩ := hn
  have hp := h.good.pobj y hy he
  have hU : Un S (post ++ y :: pre) y := fun x hx hxe hxs => by
    cases c : x.r.mask.testBit y.r.i with
    | false => rfl
    | true =>
      have := h.inS hr.closed hx hxs c
      rw [hr.out] at this; cases this
  have hb : baseS (withI S y.r.i) s0.H (post ++ y :: pre) = baseS S s0.H (post ++ y :: pre) := baseS_congr fun x hx hxe => by
    refine withI_ne fun e => ?_
    have := h.good.same hx hy e; subst this; rw [he] at hxe; cases hxe
  have hcov : ∀ p, ¬ y.cov p → β' p = β p := fun p hc => h4 p (by
    unfold TStep.cov at hc
    rw [hp] at hc; omega)
  refine ⟨O', β', h1, ?_, ?_, ?_, ?_, ?_, ?_, ?_, ?_, ?_⟩
  · rw [GS_pure h.good hy he hr.out hU]; exact h2
  · rw [h.frWith hr]
    exact (hi.fr.mono (h1.still F.blk) h1.ext).puts h3 o.dst
  · rw [(put_tmps a o.dst u).2]
    exact DfR.mono (h1.still F.blk) h1.ext hi.dfs
  · exact hi.rd.mono h1.ext
  · intro p hpn
    rw [hb]
    by_cases hc : y.cov p
    · exact .inr ⟨y, hy, he, withI_self _, hc⟩
    · rw [hcov p hc] at hpn
      rcases hi.has p hpn with c | ⟨x, g1, g2, g3, g4⟩
      · exact .inl c
      · exact .inr ⟨x, g1, g2, withI_mono g3, g4⟩
  · intro x hx hxe hxs p hc
    by_cases e : x.r.i = y.r.i
    · rw [e, withI_self] at hxs; cases hxs
    · rw [withI_ne e] at hxs
      rw [hcov p (fun c => e (by rw [h.good.one hx hy hc c]))]
      exact hi.free x hx hxe hxs p hc
  · intro p hpn
    obtain ⟨g1, g2⟩ := hi.num p hpn
    refine ⟨g1, ?_⟩
    rw [hcov p (fun c => ?_)]
    · exact g2
    · have := (h.good.lo y hy).1; have := c.1; omega
  · rw [hb]; exact hi.top
  · intro r hr' hre hrs hru p hc
    rw [hb]
    by_cases e : r.r.i = y.r.i
    · have := h.good.same hr' hy e; subst this
      have hbn := hi.free r hy he hr.out p hc
      refine not_alive fun c => ?_
      have : GS S s0.H (post ++ r :: pre) p = (baseS S s0.H (post ++ r :: pre)).get p := GS_miss h.good fun x g1 g2 g3 g4 g5 => by
        have := h.good.one g1 hy g5 hc; subst this
        rw [hr.out] at g3; cases g3
      rw [← this] at c
      obtain ⟨l, hl⟩ := hi.sr.has p c
      rw [hbn] at hl; cases hl
    · rw [withI_ne e] at hrs
      refine hi.dead r hr' hre hrs (fun x hx hxe hxs => hru x hx hxe (withI_mono hxs)) p hc
end
end Go.Gm
