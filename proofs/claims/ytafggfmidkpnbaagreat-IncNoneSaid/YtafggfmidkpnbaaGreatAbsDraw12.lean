/- A region whose order is open: sound. -/
import Derived.Test.YtafggfmidkpnbaaGreatAbsDraw11
namespace Go.Gm
section
variable {P : Program} {opt : Opts} {K : Fns} {n : Nat} {ops : Array Oper} {masks : List Nat} {s0 : St} {tr : List TStep} {rl : Option Nat} {F : Fo} {w : World} {O : Nat → Prop} {β : Nat → Option Loc} {a : Act}

theorem countP_lt {f g : Nat → Bool} : ∀ {l : List Nat} {i : Nat}, (∀ j, g j = true → f j = true) → i ∈ l → f i = true → g i = false → l.countP g < l.countP f
  | [], i, _, h, _, _ => by cases h
  | x :: l, i, hgf, hi, hf, hg => by
    have mono : ∀ (l : List Nat), l.countP g ≤ l.countP f := fun l => List.countP_mono_left fun x _ => hgf x
    rcases List.mem_cons.1 hi with rfl | hi
    · rw [List.countP_cons_of_neg (by simp [hg]), List.countP_cons_of_pos hf]
      have := mono l; omega
    · have ih := countP_lt hgf hi hf hg
      cases hx : g x with
      | true => rw [List.countP_cons_of_pos hx, List.countP_cons_of_pos (hgf x hx)]; omega
      | false =>
        rw [List.countP_cons_of_neg (by simp [hx])]
        have : l.countP f ≤ (x :: l).countP f := by rw [List.countP_cons]; omega
        omega

theorem maskOf_lt {masks : List Nat} : ∀ {es : List Edge} {m : Nat}, maskOf masks es = some m → ∀ e ∈ es, Region.binds .any e = true → e.on < masks.length
  | [], _, _, e, he, _ => by cases he
  | x :: es, m, h, e, he, hb => by
    unfold maskOf at h
    cases hm : maskOf masks es with
    | none => simp [hm] at h
    | some m0 =>
      simp only [hm] at h
      rcases List.mem_cons.1 he with rfl | he
      · simp only [hb] at h
        cases hn : nth masks e.on with
        | none => simp [hn] at h
        | some x => exact nth_lt hn
      · exact maskOf_lt hm e he hb
theorem edge_lt {ops : Array Oper} {M : List Nat} (h : masksOf ops.toList [] = some M) {i : Nat} {o : Oper} (ho : ops[i]? = some o) {e : Edge} (he : e ∈ o.after.toList) (hb : Region.binds .any e = true) : e.on < i := by
  obtain ⟨h1, h2, h3⟩ := masksOf_spec h
  obtain ⟨m, q1, q2⟩ := h3 i o (by rw [Array.getElem?_toList]; exact ho)
  simp only [List.length_nil, Nat.zero_add] at q2
  have := maskOf_lt q2 e he hb
  rw [List.length_take] at this
  omega

theorem frS_congr {S S' : Nat → Bool} {T0 : Fr} : ∀ {l : List TStep}, (∀ x ∈ l, S x.r.i = S' x.r.i) → frS S T0 l = frS S' T0 l
  | [], _ => rfl
  | x :: l, h => by
    unfold frS
    rw [h x (List.mem_cons_self ..), frS_congr fun z hz => h z (List.mem_cons_of_mem _ hz)]
theorem pendS_congr {S S' : Nat → Bool} : ∀ {l : List TStep}, (∀ x ∈ l, S x.r.i = S' x.r.i) → pendS S l = pendS S' l
  | [], _ => rfl
  | x :: l, h => by
    unfold pendS
    rw [h x (List.mem_cons_self ..), pendS_congr fun z hz => h z (List.mem_cons_of_mem _ hz)]
theorem frS_none {T0 : Fr} : ∀ (l : List TStep), frS (fun _ => false) T0 l = T0
  | [] => rfl
  | x :: l => by unfold frS; exact frS_none l
theorem pendS_none : ∀ (l : List TStep), pendS (fun _ => false) l = []
  | [] => rfl
  | x :: l => by unfold pendS; exact pendS_none l
theorem baseS_none {H0 : Heap} : ∀ (l : List TStep), baseS (fun _ => false) H0 l = H0
  | [] => rfl
  | x :: l => by simp only [baseS, Bool.false_and, cond_false]; exact baseS_none l

def cnt (n : Nat) (listed : Array Bool) : Nat := (List.range n).countP fun i => !listed.getD i false

theorem region_runs (hK : KOk P K) (hS : SumOk P opt) (h : Reg P opt K n ops masks s0 tr) {Q : Exit → Act → World → Prop}
    {w0 : World} {O0 : Nat → Prop} {β0 : Nat → Option Loc} (hq : ∀ S a w O β, (∀ x ∈ tr, S x.r.i = true) → Step w0 O0 β0 w O β → Inv rl n s0 tr F S w O β a → Q .normal a w) :
    ∀ (fuel : Nat) (listed : Array Bool) (a : Act) (w : World) (O : Nat → Prop) (β : Nat → Option Loc), Step w0 O0 β0 w O β → Inv rl n s0 tr F (fun i => listed.getD i false) w O β a → listed.size = ops.size → cnt ops.size listed ≤ fuel → Closed ops (fun i => listed.getD i false = true) →
      wpAnyIn (Fc rl) 0 P .any ops Q fuel listed a w := by
  have fin : ∀ (listed : Array Bool) (a : Act) (w : World) (O : Nat → Prop) (β : Nat → Option Loc), Step w0 O0 β0 w O β → Inv rl n s0 tr F (fun i => listed.getD i false) w O β a → listed.size = ops.size → Region.ready .any ops listed = [] → Q .normal a w := fun listed a w O β hst hi hsz hr => by
    have all : ∀ i, i < ops.size → listed.getD i false = true := by
      intro i
      induction i using Nat.strongRecOn with
      | _ i ih =>
        intro hlt
        cases hl : listed.getD i false with
        | true => rfl
        | false =>
          have : i ∈ Region.ready .any ops listed := mem_ready.2 ⟨by
            rw [Array.getD_eq_getD_getElem?] at hl ⊢
            have : i < listed.size := by omega
            simp [this] at hl ⊢; exact hl, ops[i], by simp [hlt], fun e he hb => by
              have h1 := edge_lt h.mks (i := i) (o := ops[i]) (by simp [hlt]) (by simpa using he) hb
              exact ih e.on h1 (by omega)⟩
          rw [hr] at this; cases this
    refine hq _ a w O β (fun x hx => ?_) hst hi
    obtain ⟨o, m, h1, _⟩ := h.mkOf hx
    exact all _ (Array.getElem?_eq_some_iff.1 h1).1
  intro fuel
  induction fuel with
  | zero =>
    intro listed a w O β hst hi hsz hc hcl
    have hr : Region.ready .any ops listed = [] := by
      cases hr : Region.ready .any ops listed with
      | nil => rfl
      | cons i l =>
        have hm : i ∈ Region.ready .any ops listed := by rw [hr]; exact List.mem_cons_self ..
        obtain ⟨h1, o, h2, _⟩ := mem_ready.1 hm
        have hlt : i < ops.size := (Array.getElem?_eq_some_iff.1 h2).1
        unfold cnt at hc
        have h0 := Nat.le_zero.1 hc
        rw [List.countP_eq_zero] at h0
        have := h0 i (List.mem_range.2 hlt)
        rw [Array.getD_eq_getD_getElem?] at h1 this
        have hl : i < listed.size := by omega
        simp [hl] at h1 this
        rw [h1] at this; cases this
    exact ⟨hr, fin listed a w O β hst hi hsz hr⟩
  | succ fuel ih =>
    intro listed a w O β hst hi hsz hc hcl
    refine ⟨fun hr => fin listed a w O β hst hi hsz hr, fun i hm => ?_⟩
    obtain ⟨h1, o, ho, hall⟩ := mem_ready.1 hm
    have hlt : i < ops.size := (Array.getElem?_eq_some_iff.1 ho).1
    have hli : i < listed.size := by omega
    have h1' : listed.getD i false = false := by
      rw [Array.getD_eq_getD_getElem?] at h1 ⊢
      simp [hli] at h1 ⊢; exact h1
    have hset : (fun j => (listed.setIfInBounds i true).getD j false) = withI (fun j => listed.getD j false) i := funext fun j => by
      unfold withI
      rw [bif_beq, Array.getD_eq_getD_getElem?]
      by_cases e : j = i
      · subst e
        rw [if_pos rfl, Array.getElem?_setIfInBounds_self_of_lt hli]; rfl
      · rw [if_neg e, Array.getElem?_setIfInBounds_ne (fun c => e c.symm)]
        exact (Array.getD_eq_getD_getElem? ..).symm
    obtain ⟨y, hy, hyi⟩ := h.full.all i o (by rw [Array.getElem?_toList]; exact ho)
    rw [← h.idx y hy] at hyi
    subst hyi
    obtain ⟨post, pre, rfl⟩ := List.append_of_mem hy
    have hrd : Ready ops (fun j => listed.getD j false) y o := ⟨hcl, ho, h1', fun e he hb => hall e (by simpa using he) hb⟩
    have next : ∀ (u : Value) (w' : World) (O' : Nat → Prop) (β' : Nat → Option Loc), Step w O β w' O' β' → Inv rl n s0 (post ++ y :: pre) F (withI (fun j => listed.getD j false) y.r.i) w' O' β' (a.put o.dst u) →
        wpAnyIn (Fc rl) 0 P .any ops Q fuel (listed.setIfInBounds y.r.i true) (a.put o.dst u) w' := fun u w' O' β' hs' hi' => by
      refine ih _ _ w' O' β' (hst.trans hs') (by rw [hset]; exact hi') (by simp [hsz]) ?_ ?_
      · have : cnt ops.size (listed.setIfInBounds y.r.i true) < cnt ops.size listed := by
          have hs : ∀ j, (listed.setIfInBounds y.r.i true).getD j false = withI (fun j => listed.getD j false) y.r.i j := fun j => congrFun hset j
          refine countP_lt (i := y.r.i) (fun j hj => ?_) (List.mem_range.2 hlt) (by rw [h1']; rfl) (by rw [hs, withI_self]; rfl)
          rw [hs] at hj
          by_cases e : j = y.r.i
          · subst e; rw [withI_self] at hj; cases hj
          · rw [withI_ne e] at hj; exact hj
        omega
      · rw [show (fun i => (listed.setIfInBounds y.r.i true).getD i false = true) = (fun i => withI (fun j => listed.getD j false) y.r.i i = true) from funext fun i => by rw [congrFun hset i]]
        intro j oj hoj hj e he hb
        by_cases c : j = y.r.i
        · subst c
          rw [ho] at hoj; cases hoj
          exact withI_mono (hall e (by simpa using he) hb)
        · rw [withI_ne c] at hj
          exact withI_mono (hcl j oj hoj hj e he hb)
    unfold wpOpIn
    simp only [ho]
    cases hey : y.r.eff with
    | true =>
      obtain ⟨hw, hruns⟩ := eff_runs hK hS h hi hrd hey
      rw [wanted_sound hw hi.fr, if_pos rfl]
      exact hruns _ _ fun u w' ⟨O', β', hs', hi'⟩ => next u w' O' β' hs' hi'
    | false =>
      have hrun := (AllF.at h.run).run
      obtain ⟨o', m, g1, _, g3, _⟩ := h.mkOf hy
      rw [ho] at g1; cases g1
      have hwt : y.q.want = wantedA n ops.toList o := by rw [g3]; rfl
      rcases hrun with ⟨c, _⟩ | ⟨_, hw, _⟩ | ⟨_, hw, hv, hob, _⟩
      · rw [hey] at c; cases c
      · rw [hwt, h.wantEq hrd] at hw
        rw [wanted_sound hw hi.fr, if_pos rfl]
        refine pure_runs hK hS h hi hrd hey hw _ _ fun u w' hn => ?_
        obtain ⟨O', β', hs', hi'⟩ := hi.pure h hrd hey hn
        exact next u w' O' β' hs' hi'
      · rw [hwt, h.wantEq hrd] at hw
        rw [wanted_sound hw hi.fr, if_neg (by simp)]
        refine ⟨fun _ _ => trivial, ?_⟩
        have hn : NRes w O F.blk β (GS (fun j => listed.getD j false) s0.H (post ++ y :: pre)) y.lo y.r.val y.r.objs undef w := by
          rw [hv, hob]
          exact NRes.same hi.sr (.fv _ _ .undef)
        obtain ⟨O', β', hs', hi'⟩ := hi.pure h hrd hey hn
        exact next undef w O' β' hs' hi'
end

theorem SR.drew {w : World} {O Fb : Nat → Prop} {β : Nat → Option Loc} {G : Nat → AObj} (h : SR w O Fb β G) {k : Nat} : SR { w with drawn := k } O Fb β G ∧ Step w O β { w with drawn := k } O β := SR.heap h rfl ⟨rfl, rfl, rfl⟩

theorem drawA_sound {P : Program} {opt : Opts} {K : Fns} (hm : P.follows .mixedOrders = true) (hK : KOk P K) (hS : SumOk P opt) : DrawOk P opt K := by
  intro n id ops s e s' h rl w O F β a Q hst hq
  simp only [] at h
  cases hd : drawA P opt K n ops.toList s with
  | none => simp [hd, normO] at h
  | some s1 =>
    simp only [hd, normO, Option.some.injEq, Prod.mk.injEq] at h
    obtain ⟨rfl, rfl⟩ := h
    unfold drawA at hd
    cases hmk : masksOf ops.toList [] with
    | none => simp [hmk] at hd
    | some masks =>
      simp only [hmk] at hd
      cases hchk : (tmpsOk ops.toList masks 0 ops.toList && allN plainOp ops.toList) with
      | false => simp [hchk] at hd
      | true =>
        simp only [hchk, cond_true] at hd
        rw [Bool.and_eq_true] at hchk
        obtain ⟨htm, hnd⟩ := hchk
        cases hrun : runD (lenN ops.toList + 1) (mkD P opt K n ops.toList (ops.toList.zip masks) 0) { s := s, pend := [] } [] with
        | none => simp [hrun] at hd
        | some drs =>
          obtain ⟨d, rs⟩ := drs
          simp only [hrun] at hd
          cases hrec : recsOk s.H.n rs with
          | false => simp [hrec] at hd
          | true =>
            simp only [hrec, cond_true, Option.some.injEq] at hd
            subst hd
            obtain ⟨tr, ht, hrs, hperm⟩ := runD_spec (d0 := { s := s, pend := [] }) (tr := []) hrun .nil
            rw [List.append_nil] at ht hrs
            subst hrs
            obtain ⟨hend, hall⟩ := trD_end (d0 := { s := s, pend := [] }) rfl ht
            have hlen : masks.length = ops.toList.length := by have := (masksOf_spec hmk).1; simpa using this
            have hfull := full_of hlen hperm
            have hidx : ∀ x ∈ tr, x.r.i = x.q.i := fun x hx => by
              obtain ⟨A, B, rfl⟩ := List.append_of_mem hx
              exact (AllF.at hall).i
            have hpw : tr.Pairwise (fun b a => b.r.i ≠ a.r.i) := by
              refine hfull.idx.imp_of_mem fun {b a} hb ha hne => ?_
              rw [hidx b hb, hidx a ha]; exact hne
            have hfair := recs_spec hrec hpw
            have hreg : Reg P opt K n ops masks s tr :=
              ⟨hmk, htm, fun i o ho => by
                rw [allN_eq, List.all_eq_true] at hnd
                have := hnd o (by rw [← Array.getElem?_toList] at ho; exact List.mem_of_getElem? ho)
                exact ⟨fun c hc => by unfold plainOp at this; rw [hc] at this; simp at this, fun cs b hc => by unfold plainOp at this; rw [hc] at this; simp at this⟩,
                hfull, ⟨hpw, hend.num, hfair.msk, fun x hx => ⟨(hend.lo x hx).1, (hend.lo x hx).2.1⟩, hend.pobj⟩, hfair, hall, hidx, fun o ho => (hst.heap.2.1 o ho).1, hst.heap.2.2.1⟩
            refine wpIn_region_any hm ?_
            have hstep := (hst.heap.1.drew (k := w.drawn + 1)).2
            have hinit : Inv rl n s tr F (fun i => (Array.replicate ops.size false).getD i false) { w with drawn := w.drawn + 1 } O β a := by
              have hS0 : (fun i => (Array.replicate ops.size false).getD i false) = fun _ => false := funext fun i => by
                rw [Array.getD_eq_getD_getElem?, Array.getElem?_replicate]
                split <;> rfl
              rw [hS0]
              have hb := baseS_none (H0 := s.H) tr
              refine ⟨?_, ?_, ?_, hst.rd, fun o ho => .inl ?_, fun y hy hye _ o hc => ?_, fun o ho => hst.heap.2.2.2 o ho, ?_, fun r _ _ hs => by cases hs⟩
              · have : GS (fun _ => false) s.H tr = s.H.get := by unfold GS; rw [pendS_none, hb]; rfl
                rw [this]; exact (hst.heap.1.drew (k := w.drawn + 1)).1
              · rw [frS_none]; exact hst.fr.mono (hstep.still F.blk) (Ext.refl _)
              · exact DfR.mono (hstep.still F.blk) (Ext.refl _) hst.dfs
              · rw [hb]
                refine Nat.lt_of_not_le fun c => ho ?_
                exact (hst.heap.2.1 o c).2
              · exact (hst.heap.2.1 o (Nat.le_trans (hend.lo y hy).1 hc.1)).2
              · rw [hb]; exact fun o ho => (hst.heap.2.1 o ho).1
            refine region_runs (w0 := w) (O0 := O) (β0 := β) hK hS hreg (fun S a' w' O' β' hall' hst' hi => ?_) ops.size _ a _ O β hstep hinit (by simp) ?_ ?_
            · have hb : baseS S s.H tr = baseS (fun _ => true) s.H tr := baseS_congr fun x hx _ => hall' x hx
              have hG : GS S s.H tr = (layEvery d.pend d.s.H).get := by
                unfold GS
                rw [layEvery_get _ _ hend.bound, hend.pend, hend.H, hb, pendS_congr (S' := fun _ => true) fun x hx => hall' x hx]
              have hno : ∀ o, d.s.H.n ≤ o → β' o = none := fun o ho => by
                cases hβ : β' o with
                | none => rfl
                | some l =>
                  rcases hi.has o (by rw [hβ]; simp) with c | ⟨x, g1, _, _, g4⟩
                  · rw [hb] at c
                    have := hend.bn
                    simp only [] at this
                    omega
                  · have := (hend.lo x g1).2.2
                    have := g4.2; omega
              refine hq a' w' O' β' hst' ⟨⟨?_, fun o ho => ?_, ?_, fun o ho => ?_⟩, ?_, ?_, ?_⟩
              · rw [← hG]; exact hi.sr
              · simp only [layEvery_n] at ho
                refine ⟨not_alive fun c => ?_, hno o ho⟩
                rw [← hG] at c
                obtain ⟨l, hl⟩ := hi.sr.has o c
                rw [hno o ho] at hl; cases hl
              · simp only [layEvery_n]; exact hend.le hst.heap.2.2.1
              · obtain ⟨g1, g2⟩ := hi.num o ho
                simp only [layEvery_n]
                exact ⟨Nat.lt_of_lt_of_le g1 hend.n0, g2⟩
              · rw [show d.s.T = frS S s.T tr from by rw [hend.T]; exact (frS_congr fun x hx => hall' x hx).symm]
                exact hi.fr
              · rw [hend.D]; exact hi.dfs
              · rw [hend.rd]; exact hi.rd
            · unfold cnt
              exact Nat.le_trans List.countP_le_length (by simp)
            · intro i o ho hi
              rw [Array.getD_eq_getD_getElem?, Array.getElem?_replicate] at hi
              split at hi <;> simp at hi
end Go.Gm
