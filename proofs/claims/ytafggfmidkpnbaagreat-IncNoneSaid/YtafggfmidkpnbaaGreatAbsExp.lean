/- What leaves a pure call. -/
import Derived.Test.YtafggfmidkpnbaaGreatAbsRange2
namespace Go.Gm
section
variable {P : Program} {w w0 w' : World} {O : Nat → Prop} {F : Fo} {X : Nat → Prop} {β : Nat → Option Loc} {b : Nat} {rl : Option Nat} {H : Heap} {opt : Opts} {K : Fns} {n : Nat}

theorem memN_iff {x : Nat} : ∀ {l : List Nat}, memN x l = true ↔ x ∈ l
  | [] => by simp [memN]
  | y :: l => by simp [memN, memN_iff (l := l)]

/-- what is kept as ours -/
def Kept (β : Nat → Option Loc) (H : Heap) (avoid : List Nat) (O2 : Nat → Prop) : Prop := ∀ c, O2 c → ∃ a la, a ∈ avoid ∧ β a = some la ∧ (H.get a).alive = true ∧ la.b = c

theorem Kept.still {O2 : Nat → Prop} {avoid : List Nat} (h : Kept β H avoid O2) (hsr : SRH w O F β H) : Still w (bar O F) w (bar O2 F) :=
  ⟨fun _ _ _ => rfl, Nat.le_refl _, fun c hc => .inl (by
    rcases hc with hc | hc
    · obtain ⟨a, la, _, h1, h2, rfl⟩ := h c hc
      exact .inl (hsr.1.own a la h2 h1)
    · exact .inr hc)⟩

theorem frz_sound {O2 : Nat → Prop} {avoid : List Nat} (hk : Kept β H avoid O2) (hsr : SRH w O F β H) : ∀ (k : Nat) {v : AV} {x : FV} {u : Value}, frz H avoid k v = some x → Rel w (bar O F) β v u → RelF w (bar O2 F) x u
  | 0, v, x, u, h, hr => by simp [frz] at h
  | k + 1, v, x, u, h, hr => by
    unfold frz at h
    split at h
    · cases h; exact hr.fv_inv.mono (hk.still hsr)
    · rename_i o off len app
      cases hm : memN o avoid with
      | true => simp [hm] at h
      | false =>
        simp only [hm, cond_false] at h
        cases hg : H.get o with
        | arr sz rows cl =>
          simp only [hg] at h
          cases hc : cut rows off len with
          | none => simp [hc] at h
          | some r =>
            simp only [hc] at h
            cases hmo : mapO (mapO (frz H avoid k)) r with
            | none => simp [hmo] at h
            | some rs =>
              simp only [hmo, Option.some.injEq] at h; subst h
              obtain ⟨hcl, hcg⟩ := cut_some hc
              obtain ⟨hml, hmg⟩ := mapO_some hmo
              cases hr with
              | osl o off len cap app l hl hlen hcap happ =>
                have ha : (H.get o).alive = true := by rw [hg]; rfl
                have ho := hsr.1.obj o l hl
                have hlt := ho.lt ha
                rw [hg] at ho
                have hszl : l.sz = sz := ho.1
                obtain ⟨h1, h2, h3, h4, h5, h6, cs, elem, hh, hsz, hrr⟩ := ho
                have hnot : ¬ bar O2 F l.b := by
                  rintro (hc | hc)
                  · obtain ⟨a, la, g1, g2, g3, g4⟩ := hk l.b hc
                    have hne : a ≠ o := fun e => by subst e; rw [memN_iff.2 g1] at hm; cases hm
                    exact hsr.1.inj a o la l g3 ha g2 hl hne g4
                  · exact hsr.1.dis _ (hsr.1.own o l ha hl) hc
                -- one cell
                have each : ∀ (i : Nat) (row : List FV) (j : Nat) (y : FV), nth rs i = some row → nth row j = some y →
                    ∃ (row' : List AV) (z : AV), rows[off + i]? = some row' ∧ row'[j]? = some z ∧ frz H avoid k z = some y := fun i row j y hi hy => by
                  rw [nth_eq] at hi hy
                  have hil : i < r.length := by rw [hml]; exact (List.getElem?_eq_some_iff.1 hi).1
                  obtain ⟨row2, q1, q2⟩ := hmg i r[i] (by simp [hil])
                  rw [hi] at q1; cases q1
                  obtain ⟨ml, mg⟩ := mapO_some q2
                  have hjl : j < r[i].length := by rw [ml]; exact (List.getElem?_eq_some_iff.1 hy).1
                  obtain ⟨y2, q3, q4⟩ := mg j r[i][j] (by simp [hjl])
                  rw [hy] at q3; cases q3
                  exact ⟨r[i], r[i][j], by rw [← hcg i (by omega)]; simp [hil], by simp [hjl], q4⟩
                have cell : ∀ (i : Nat) (row : List FV) (j : Nat) (y : FV), nth rs i = some row → nth row j = some y → y.one = true ∧ ∃ v, w.cell? ⟨l.b, l.c + off * l.sz + (i * sz + j), none⟩ = some v ∧ RelF w (bar O2 F) y v := fun i row j y hi hy => by
                  obtain ⟨row', z, q1, q2, q3⟩ := each i row j y hi hy
                  obtain ⟨hone, v, hv, hrel⟩ := hsr.1.cellOf hl hg q1 q2
                  have hrf := frz_sound hk hsr k q3 hrel
                  refine ⟨?_, v, ?_, hrf⟩
                  · have h1v := hrel.oneCell hone
                    cases hrf <;> first | rfl | simp [Value.oneCell'] at h1v
                  · rw [show l.c + off * l.sz + (i * sz + j) = l.c + ((off + i) * l.sz + j) from by rw [Nat.add_mul, hszl]; omega]
                    exact hv
                have hrsl : rs.length = len := by rw [← hml, hcl]
                have key := RelF.sl (w := w) (X := bar O2 F) rs false (some ⟨l.b, l.c + off * l.sz, none⟩) cap sz (fun i j => (w.cell? ⟨l.b, l.c + off * l.sz + (i * sz + j), none⟩).getD default) (by rw [hrsl]; exact hlen) (fun e => by cases e)
                  (fun _ => ⟨_, rfl, rfl, hnot, hlt⟩)
                  (fun i row hi => by
                    rw [nth_eq] at hi
                    have hil : i < r.length := by rw [hml]; exact (List.getElem?_eq_some_iff.1 hi).1
                    obtain ⟨row2, q1, q2⟩ := hmg i r[i] (by simp [hil])
                    rw [hi] at q1; cases q1
                    obtain ⟨ml, mg⟩ := mapO_some q2
                    rw [← ml]
                    exact (hrr (off + i) r[i] (by rw [nth_eq, ← hcg i (by omega)]; simp [hil])).1)
                  (fun i row j y hi hy => (cell i row j y hi hy).1)
                  (fun ad i row j y e hi hy => by
                    cases e
                    obtain ⟨_, v, hv, _⟩ := cell i row j y hi hy
                    rw [hv]; rfl)
                  (fun i row j y hi hy => by
                    obtain ⟨_, v, hv, hrf⟩ := cell i row j y hi hy
                    rw [hv]; exact hrf)
                rw [hrsl] at key
                exact key
        | _ => simp [hg] at h
    · cases h

theorem heapList_eq (H : Heap) : heapList H = (List.range H.n).map H.get := by
  have : ∀ (k i : Nat), natRec (α := Nat → List AObj) (fun _ => []) (fun g i => H.get i :: g (i + 1)) k i = (List.range' i k).map H.get := by
    intro k
    induction k with
    | zero => intro i; rfl
    | succ k ih => intro i; rw [natRec_succ, ih, List.range'_succ]; rfl
  unfold heapList
  rw [this, List.range_eq_range']

/-- what a pure call may tell of its end -/
def PRes (w : World) (F : Nat → Prop) (v : AV) (objs : List AObj) (u : Value) (w' : World) : Prop :=
  ∃ O' β', Step w (fun _ => False) (fun _ => none) w' O' β' ∧ SR w' O' F β' (addO (fun _ => .dead) 0 objs) ∧ Rel w' (bar O' F) β' v u ∧ ∀ p, objs.length ≤ p → β' p = none

theorem exportV_sound {v v2 : AV} {objs : List AObj} {u : Value} (h : exportV H v = (v2, objs)) (hst : Step w (fun _ => False) (fun _ => none) w' O β) (hsr : SRH w' O F β H) (hr : Rel w' (bar O F) β v u) : PRes w F v2 objs u w' := by
  have hnew : ∀ c, O c → w.heap.size ≤ c := fun c hc => (hst.own c hc).elim (fun h => h.elim) id
  have none_case : ∀ (x : FV), RelF w' (bar (fun _ => False) F) x u → PRes w F (.fv x) [] u w' := fun x hx =>
    ⟨fun _ => False, fun _ => none, ⟨fun c hc hn => hst.heap c hc hn, hst.size, fun _ h => h.elim, Ext.refl _, hst.out⟩,
      ⟨nofun, fun o h => (by simp [addO, AObj.alive] at h), fun o l h => (by simp [addO, AObj.alive] at h), fun o o' l l' h => (by simp [addO, AObj.alive] at h), fun _ h => h.elim, hsr.1.flt, fun _ h => h.elim⟩,
      .fv _ _ hx, fun _ _ => rfl⟩
  have all_case : v2 = v → objs = heapList H → PRes w F v2 objs u w' := fun h1 h2 => by
    subst h1; subst h2
    refine ⟨O, β, hst, ?_, hr, fun p hp => (hsr.2.1 p (by rw [heapList_eq] at hp; simpa using hp)).2⟩
    have : addO (fun _ => .dead) 0 (heapList H) = H.get := funext fun p => by
      rw [addO_get, heapList_eq]
      simp only [List.length_map, List.length_range, Nat.zero_add, Nat.sub_zero]
      split
      · rename_i hp
        simp [hp.2]
      · rename_i hp
        exact (hsr.2.1 p (by omega)).1.symm
    rw [this]; exact hsr.1
  have kept0 : Kept β H [] (fun _ => False) := fun _ h => h.elim
  unfold exportV at h
  cases he : export1 H v with
  | some r =>
    simp only [he] at h; subst h
    unfold export1 at he
    split at he
    · rename_i x
      simp only [Option.some.injEq, Prod.mk.injEq] at he
      obtain ⟨rfl, rfl⟩ := he
      exact none_case x (hr.fv_inv.mono (kept0.still hsr))
    · rename_i o off len app
      cases hg : H.get o with
      | arr sz rows cl =>
        simp only [hg] at he
        cases hmo : mapO (mapO (frz H [o] 100)) rows with
        | none => simp [hmo] at he
        | some rs =>
          simp only [hmo, Option.some.injEq, Prod.mk.injEq] at he
          obtain ⟨rfl, rfl⟩ := he
          cases hr with
          | osl o off len cap app l hl hlen hcap happ =>
            have ha : (H.get o).alive = true := by rw [hg]; rfl
            have ho := hsr.1.obj o l hl
            have hlt := ho.lt ha
            rw [hg] at ho
            obtain ⟨h1, h2, h3, h4, h5, h6, cs, elem, hh, hsz, hrr⟩ := ho
            have hown := hsr.1.own o l ha hl
            have hkept : Kept β H [o] (fun c => c = l.b) := fun c hc => ⟨o, l, by simp, hl, ha, hc.symm⟩
            obtain ⟨hml, hmg⟩ := mapO_some hmo
            have hβ : ∀ p lp, upd (fun _ => none) 0 (some l) p = some lp → p = 0 ∧ lp = l := fun p lp hp => by
              unfold upd at hp
              split at hp
              · cases hp; exact ⟨by assumption, rfl⟩
              · cases hp
            have hG : ∀ p, (addO (fun _ => .dead) 0 [.arr sz (fvRows rs) cl] p).alive = true → p = 0 := fun p hp => by
              rw [addO_get] at hp
              split at hp
              · simp only [List.length_cons, List.length_nil] at *; omega
              · simp [AObj.alive] at hp
            have hG0 : addO (fun _ => .dead) 0 [.arr sz (fvRows rs) cl] 0 = .arr sz (fvRows rs) cl := by rw [addO_get]; simp
            refine ⟨fun c => c = l.b, upd (fun _ => none) 0 (some l), ⟨fun c hc hn => hst.heap c hc hn, hst.size, fun c hc => .inr (by rw [hc]; exact hnew _ hown), fun o' l' h => (by cases h), hst.out⟩,
              ⟨fun p lp hp => ?_, fun p hp => ⟨l, by rw [hG p hp]; rfl⟩, fun p lp _ hp => by rw [(hβ p lp hp).2], fun p p' lp lp' hp hp' _ _ hne => absurd ((hG p hp).trans (hG p' hp').symm) hne, fun c hc => by rw [hc]; exact hlt, hsr.1.flt, fun c hc hf => hsr.1.dis c (by rw [hc]; exact hown) hf⟩, ?_, fun p hp => ?_⟩
            · obtain ⟨rfl, rfl⟩ := hβ p lp hp
              rw [hG0]
              have hrl : (fvRows rs).length = rows.length := by unfold fvRows; rw [mapN_eq]; simp [hml]
              refine ⟨h1, by rw [h2, hrl], h3, h4, h5, h6, cs, elem, hh, hsz, fun i row hi => ?_⟩
              rw [nth_eq] at hi
              unfold fvRows at hi
              rw [mapN_eq, List.getElem?_map] at hi
              cases hri : rs[i]? with
              | none => simp [hri] at hi
              | some fr =>
                simp [hri] at hi; subst hi
                have hil : i < rows.length := by rw [hml]; exact (List.getElem?_eq_some_iff.1 hri).1
                obtain ⟨row2, q1, q2⟩ := hmg i rows[i] (by simp [hil])
                rw [hri] at q1; cases q1
                obtain ⟨ml, mg⟩ := mapO_some q2
                have hrow := hrr i rows[i] (by rw [nth_eq]; simp [hil])
                unfold fvRow
                rw [mapN_eq]
                refine ⟨by simp [← ml, hrow.1], fun j x hx => ?_⟩
                rw [nth_eq, List.getElem?_map] at hx
                cases hfj : fr[j]? with
                | none => simp [hfj] at hx
                | some y =>
                  simp [hfj] at hx; subst hx
                  have hjl : j < rows[i].length := by rw [ml]; exact (List.getElem?_eq_some_iff.1 hfj).1
                  obtain ⟨y2, q3, q4⟩ := mg j rows[i][j] (by simp [hjl])
                  rw [hfj] at q3; cases q3
                  obtain ⟨hone, v, hv, hrel⟩ := hrow.2 j rows[i][j] (by rw [nth_eq]; simp [hjl])
                  have hrf := frz_sound hkept hsr 100 q4 hrel
                  refine ⟨?_, v, hv, .fv _ _ hrf⟩
                  have h1v := hrel.oneCell hone
                  cases hrf <;> first | rfl | simp [Value.oneCell'] at h1v
            · exact .osl 0 off len cap app l rfl hlen hcap happ
            · unfold upd; rw [if_neg (by simp only [List.length_cons, List.length_nil] at hp; omega)]
      | _ => simp [hg] at he
    · cases he
  | none =>
    simp only [he] at h
    split at h
    · rename_i vs
      split at h
      · rename_i xs hmo
        simp only [Prod.mk.injEq] at h
        obtain ⟨rfl, rfl⟩ := h
        obtain ⟨hml, hmg⟩ := mapO_some hmo
        cases hr with
        | tup cs us hlen hrel =>
          refine none_case (.tup xs) (.tup xs us (by rw [← hml]; exact hlen) fun j x v hx hv => ?_)
          rw [nth_eq] at hx
          have hjl : j < vs.length := by rw [hml]; exact (List.getElem?_eq_some_iff.1 hx).1
          obtain ⟨y, q1, q2⟩ := hmg j vs[j] (by simp [hjl])
          rw [hx] at q1; cases q1
          exact frz_sound kept0 hsr 100 q2 (hrel j vs[j] v (by rw [nth_eq]; simp [hjl]) hv)
      · simp only [Prod.mk.injEq] at h
        exact all_case h.1.symm h.2.symm
    · simp only [Prod.mk.injEq] at h
      exact all_case h.1.symm h.2.symm

theorem pfA_sound (hK : KOk P K) (hS : SumOk P opt) (hD : DrawOk P opt K) (hR : RangeOk P K) (hRec : RecOk P opt) (hN : NoNum P) {L : Nat} {f : FuncId} {args : List AV} {v : AV} {objs : List AObj} (h : pfA P opt L K f args = some (v, objs)) :
    Enters P f ∧ ∀ (w : World) (F : Nat → Prop) (vs : Array Value), (∀ b, F b → b < w.heap.size) → Rels w F (fun _ => none) args vs → CallsIn Fence.wide 0 P f vs w (fun e w' => ∃ u, e = .returned u ∧ PRes w F v objs u w') := by
  unfold pfA at h
  cases hf : fnA P opt L K f args noHeap with
  | none => simp [hf] at h
  | some vH =>
    obtain ⟨v0, H⟩ := vH
    simp only [hf, Option.some.injEq] at h
    obtain ⟨he, hc⟩ := fnA_sound hK hS hD hR hRec hN hf
    refine ⟨he, fun w F vs hF hargs => ?_⟩
    have hsr : SRH w (fun _ => False) ⟨F, fun _ => False⟩ (fun _ => none) noHeap :=
      ⟨⟨nofun, fun o h => (by rw [noHeap_get] at h; simp [AObj.alive] at h), fun o l h => (by rw [noHeap_get] at h; simp [AObj.alive] at h), fun o o' l l' h => (by rw [noHeap_get] at h; simp [AObj.alive] at h), fun _ h => h.elim, hF, fun _ h => h.elim⟩,
        fun o _ => ⟨noHeap_get o, rfl⟩, by decide, nofun⟩
    have hbar : bar (fun _ => False) F = F := funext fun c => by simp [bar]
    refine CallsIn.mono (hc w (fun _ => False) ⟨F, fun _ => False⟩ (fun _ => none) vs hsr (by rw [hbar]; exact hargs)) ?_
    rintro e w' ⟨u, rfl, O', β', h1, h2, h3⟩
    exact ⟨u, rfl, exportV_sound h h1 h2 h3⟩
end
end Go.Gm
