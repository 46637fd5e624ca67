/- What each step of a region's run did. -/
import Derived.Test.YtafggfmidkpnbaaGreatAbsDraw5
namespace Go.Gm
section
variable {H0 : Heap} {T0 : Fr} {tr : List TStep} {y : TStep}

/-- what a step did behind tr -/
structure StepF (H0 : Heap) (T0 : Fr) (tr : List TStep) (y : TStep) : Prop where
  i : y.r.i = y.q.i
  mask : y.r.mask = y.q.mask
  run : (y.r.eff = true ∧ y.q.want (frS (fun _ => true) T0 tr) = some true ∧ y.q.fE (restr y.q.lk (frS (fun _ => true) T0 tr)) y.r.pre = some (y.r.val, y.r.post) ∧ y.r.pre.get = PS y.r.mask H0 tr ∧
      y.r.post.n ≤ 1152921504606846976 ∧ ∀ e ∈ pendS (fun _ => true) tr, y.r.mask.testBit e.1 = false → ∀ o, Ent.cov e o → y.r.post.get o = .dead) ∨
    (y.r.eff = false ∧ y.q.want (frS (fun _ => true) T0 tr) = some true ∧ y.q.fN (restr y.q.lk (frS (fun _ => true) T0 tr)) y.r.pre y.r.pre.n = some (y.r.val, y.r.objs) ∧ y.r.pre.get = PS y.r.mask H0 tr ∧
      y.r.reads = y.q.rd (restr y.q.lk (frS (fun _ => true) T0 tr)) y.r.pre ∧ y.r.rdAt = y.q.rd (restr y.q.lk (frS (fun _ => true) T0 tr)) ∧
      ∀ H v, y.r.again H = some v → y.q.fN (restr y.q.lk (frS (fun _ => true) T0 tr)) H 0 = some (v, [])) ∨
    (y.r.eff = false ∧ y.q.want (frS (fun _ => true) T0 tr) = some false ∧ y.r.val = .fv .undef ∧ y.r.objs = [] ∧ y.r.reads = [])
def AllF (H0 : Heap) (T0 : Fr) : List TStep → Prop
  | [] => True
  | y :: tr => AllF H0 T0 tr ∧ StepF H0 T0 tr y
theorem AllF.at : ∀ {post : List TStep} {pre : List TStep}, AllF H0 T0 (post ++ y :: pre) → StepF H0 T0 pre y
  | [], _, h => h.2
  | _ :: _, _, h => AllF.at h.1

/-- the state behind the run -/
structure EndF (d0 : DS) (tr : List TStep) (d : DS) : Prop where
  T : d.s.T = frS (fun _ => true) d0.s.T tr
  D : d.s.D = d0.s.D
  rd : d.s.rd = d0.s.rd
  pend : d.pend = pendS (fun _ => true) tr
  H : d.s.H.get = (baseS (fun _ => true) d0.s.H tr).get
  n0 : d0.s.H.n ≤ d.s.H.n
  bn : (baseS (fun _ => true) d0.s.H tr).n ≤ d.s.H.n
  num : tr.Pairwise (fun b a => a.hi ≤ b.lo)
  lo : ∀ x ∈ tr, d0.s.H.n ≤ x.lo ∧ x.lo ≤ x.hi ∧ x.hi ≤ d.s.H.n
  pobj : ∀ x ∈ tr, x.r.eff = false → x.hi = x.lo + x.r.objs.length
  bound : ∀ e ∈ d.pend, e.2.1 + e.2.2.length ≤ 1152921504606846976
  le : d0.s.H.n ≤ 1152921504606846976 → d.s.H.n ≤ 1152921504606846976

theorem addO_congr {G G' : Nat → AObj} (h : G = G') (b : Nat) (objs : List AObj) : addO G b objs = addO G' b objs := by rw [h]
theorem layAll_n (m : Nat) : ∀ (l : List Ent) (H : Heap), (layAll m l H).n = H.n
  | [], H => rfl
  | (i, b, objs) :: l, H => by
    unfold layAll
    cases m.testBit i with
    | true => simp only [cond_true]; rw [instN_n]; exact layAll_n m l H
    | false => simp only [cond_false]; exact layAll_n m l H
theorem instN_addO {objs : List AObj} {H : Heap} {b : Nat} (h : b + objs.length ≤ 1152921504606846976) : (instN objs H b).get = addO H.get b objs := funext fun p => by
  rw [instN_get objs H b p (by omega), addO_get]
theorem layAll_get (m : Nat) : ∀ (l : List Ent) (H : Heap), (∀ e ∈ l, e.2.1 + e.2.2.length ≤ 1152921504606846976) → (layAll m l H).get = layP (fun i => m.testBit i) l H.get
  | [], H, _ => rfl
  | (i, b, objs) :: l, H, h => by
    unfold layAll layP
    have ih := layAll_get m l H (fun e he => h e (List.mem_cons_of_mem _ he))
    cases m.testBit i with
    | true =>
      simp only [cond_true]
      rw [instN_addO (h (i, b, objs) (List.mem_cons_self ..)), ih]
    | false => simp only [cond_false]; exact ih
theorem layEvery_n : ∀ (l : List Ent) (H : Heap), (layEvery l H).n = H.n
  | [], H => rfl
  | (i, b, objs) :: l, H => by unfold layEvery; rw [instN_n]; exact layEvery_n l H
theorem layEvery_get : ∀ (l : List Ent) (H : Heap), (∀ e ∈ l, e.2.1 + e.2.2.length ≤ 1152921504606846976) → (layEvery l H).get = layP (fun _ => true) l H.get
  | [], H, _ => rfl
  | (i, b, objs) :: l, H, h => by
    unfold layEvery layP
    simp only [cond_true]
    rw [instN_addO (h (i, b, objs) (List.mem_cons_self ..)), layEvery_get l H (fun e he => h e (List.mem_cons_of_mem _ he))]

theorem layP_base {f : Nat → Bool} {G G' : Nat → AObj} (h : G = G') (l : List Ent) : layP f l G = layP f l G' := by rw [h]

theorem isDead_iff {x : AObj} : isDead x = true ↔ x = .dead := by cases x <;> simp [isDead]
theorem deadFrom_spec {H : Heap} : ∀ {objs : List AObj} {b : Nat}, deadFrom H objs b = true → ∀ o, b ≤ o → o < b + objs.length → H.get o = .dead
  | [], b, _, o, h1, h2 => by simp at h2; omega
  | x :: l, b, h, o, h1, h2 => by
    unfold deadFrom at h
    rw [Bool.and_eq_true, isDead_iff] at h
    simp only [List.length_cons] at h2
    by_cases e : o = b
    · subst e; exact h.1
    · exact deadFrom_spec h.2 o (by omega) (by omega)
theorem deadP_spec {H : Heap} : ∀ {l : List Ent}, deadP H l = true → ∀ e ∈ l, ∀ o, e.cov o → H.get o = .dead
  | [], _, e, he, _, _ => by cases he
  | (i, b, objs) :: l, h, e, he, o, hc => by
    unfold deadP at h
    rw [Bool.and_eq_true] at h
    rcases List.mem_cons.1 he with rfl | he
    · exact deadFrom_spec h.1 o hc.1 hc.2
    · exact deadP_spec h.2 e he o hc

theorem trD_end {d0 : DS} (hd0 : d0.pend = []) {tr : List TStep} {d : DS} (h : TrD d0 tr d) : EndF d0 tr d ∧ AllF d0.s.H d0.s.T tr := by
  induction h with
  | nil =>
    exact ⟨⟨rfl, rfl, rfl, hd0, rfl, Nat.le_refl _, Nat.le_refl _, .nil, nofun, nofun, by rw [hd0]; nofun, id⟩, trivial⟩
  | @pure tr d d' q r h hp ih =>
    obtain ⟨ih, hall⟩ := ih
    have hpre : (layAll q.mask d.pend d.s.H).get = PS q.mask d0.s.H tr := by
      rw [layAll_get _ _ _ ih.bound]
      unfold PS
      rw [ih.pend, ih.H]
    unfold pureD at hp
    simp only [] at hp
    split at hp
    · rename_i hw
      split at hp
      · rename_i v objs hf
        split at hp
        · simp only [Option.some.injEq, Prod.mk.injEq] at hp
          obtain ⟨rfl, rfl⟩ := hp
          refine ⟨⟨by simp [frS, ih.T], ih.D, ih.rd, ?_, by rw [show baseS (fun _ => true) d0.s.H (⟨q, _, d⟩ :: tr) = baseS (fun _ => true) d0.s.H tr from by simp [baseS]]; exact ih.H, ih.n0, by simpa [baseS] using ih.bn, ?_, ?_, ?_, ih.bound, ih.le⟩, hall, rfl, rfl, .inr (.inl ⟨rfl, by rw [← ih.T]; exact hw, by rw [← ih.T]; exact hf, hpre, by rw [← ih.T], by rw [← ih.T], ?_⟩)⟩
          · simp [pendS, addP, ih.pend]
          · exact List.pairwise_cons.2 ⟨fun a ha => by show a.hi ≤ (layAll q.mask d.pend d.s.H).n; rw [layAll_n]; exact (ih.lo a ha).2.2, ih.num⟩
          · intro x hx
            rcases List.mem_cons.1 hx with rfl | hx
            · simp only [TStep.lo, TStep.hi, layAll_n]; exact ⟨ih.n0, Nat.le_refl _, Nat.le_refl _⟩
            · exact ih.lo x hx
          · intro x hx hxe
            rcases List.mem_cons.1 hx with rfl | hx
            · simp only [TStep.lo, TStep.hi, layAll_n]; rfl
            · exact ih.pobj x hx hxe
          · intro H v' hv
            simp only [] at hv
            split at hv
            · rename_i hf'; simp only [Option.some.injEq] at hv; subst hv; rw [← ih.T]; exact hf'
            · cases hv
        · rename_i hne
          cases hle : Nat.ble (d.s.H.n + lenN objs) 1152921504606846976 with
          | false => simp [hle] at hp
          | true =>
            simp only [hle, cond_true, Option.some.injEq, Prod.mk.injEq] at hp
            obtain ⟨rfl, rfl⟩ := hp
            have hle' := Nat.le_of_ble_eq_true hle
            rw [lenN_eq] at hle'
            refine ⟨⟨by simp [frS, ih.T], ih.D, ih.rd, ?_, by rw [show baseS (fun _ => true) d0.s.H (⟨q, _, d⟩ :: tr) = baseS (fun _ => true) d0.s.H tr from by simp [baseS]]; exact ih.H, Nat.le_trans ih.n0 (Nat.le_add_right _ _), by rw [show baseS (fun _ => true) d0.s.H (⟨q, _, d⟩ :: tr) = baseS (fun _ => true) d0.s.H tr from by simp [baseS]]; exact Nat.le_trans ih.bn (Nat.le_add_right _ _), ?_, ?_, ?_, ?_, fun _ => Nat.le_of_ble_eq_true hle⟩, hall, rfl, rfl, .inr (.inl ⟨rfl, by rw [← ih.T]; exact hw, by rw [← ih.T]; exact hf, hpre, by rw [← ih.T], by rw [← ih.T], ?_⟩)⟩
            · simp only [pendS, cond_true, cond_false, TStep.lo, layAll_n]
              rw [← ih.pend]
              cases objs with
              | nil => exact absurd rfl hne
              | cons x xs => rfl
            · exact List.pairwise_cons.2 ⟨fun a ha => by show a.hi ≤ (layAll q.mask d.pend d.s.H).n; rw [layAll_n]; exact (ih.lo a ha).2.2, ih.num⟩
            · intro x hx
              rcases List.mem_cons.1 hx with rfl | hx
              · simp only [TStep.lo, TStep.hi, layAll_n]; exact ⟨ih.n0, Nat.le_add_right _ _, Nat.le_refl _⟩
              · have := ih.lo x hx; exact ⟨this.1, this.2.1, Nat.le_trans this.2.2 (Nat.le_add_right _ _)⟩
            · intro x hx hxe
              rcases List.mem_cons.1 hx with rfl | hx
              · simp only [TStep.lo, TStep.hi, layAll_n, lenN_eq]
              · exact ih.pobj x hx hxe
            · intro e he
              rcases List.mem_cons.1 he with rfl | he
              · exact hle'
              · exact ih.bound e he
            · intro H v' hv
              simp only [] at hv
              split at hv
              · rename_i hf'; simp only [Option.some.injEq] at hv; subst hv; rw [← ih.T]; exact hf'
              · cases hv
      · cases hp
    · rename_i hw
      simp only [Option.some.injEq, Prod.mk.injEq] at hp
      obtain ⟨rfl, rfl⟩ := hp
      refine ⟨⟨by simp [frS, ih.T], ih.D, ih.rd, ?_, by rw [show baseS (fun _ => true) d0.s.H (⟨q, _, d⟩ :: tr) = baseS (fun _ => true) d0.s.H tr from by simp [baseS]]; exact ih.H, ih.n0, by simpa [baseS] using ih.bn, ?_, ?_, ?_, ih.bound, ih.le⟩, hall, rfl, rfl, .inr (.inr ⟨rfl, by rw [← ih.T]; exact hw, rfl, rfl, rfl⟩)⟩
      · simp [pendS, addP, ih.pend]
      · exact List.pairwise_cons.2 ⟨fun a ha => (ih.lo a ha).2.2, ih.num⟩
      · intro x hx
        rcases List.mem_cons.1 hx with rfl | hx
        · simp only [TStep.lo, TStep.hi]; exact ⟨ih.n0, Nat.le_refl _, Nat.le_refl _⟩
        · exact ih.lo x hx
      · intro x hx hxe
        rcases List.mem_cons.1 hx with rfl | hx
        · rfl
        · exact ih.pobj x hx hxe
    · cases hp
  | @eff tr d d' q r h hp ih =>
    obtain ⟨ih, hall⟩ := ih
    have hpre : (layAll q.mask d.pend d.s.H).get = PS q.mask d0.s.H tr := by
      rw [layAll_get _ _ _ ih.bound]
      unfold PS
      rw [ih.pend, ih.H]
    unfold effD at hp
    simp only [] at hp
    split at hp
    · rename_i hw
      split at hp
      · rename_i v H' hf
        cases hchk : (Nat.ble (layAll q.mask d.pend d.s.H).n H'.n && Nat.ble H'.n 1152921504606846976 && deadP H' (keepPend q.mask d.pend)) with
        | false => simp [hchk] at hp
        | true =>
          simp only [hchk, cond_true, Option.some.injEq, Prod.mk.injEq] at hp
          obtain ⟨rfl, rfl⟩ := hp
          rw [Bool.and_eq_true, Bool.and_eq_true] at hchk
          obtain ⟨⟨hle, hbd⟩, hdd⟩ := hchk
          have hle' := Nat.le_of_ble_eq_true hle
          rw [layAll_n] at hle'
          refine ⟨⟨by simp [frS, ih.T], ih.D, ih.rd, ?_, by simp [baseS], Nat.le_trans ih.n0 hle', by simp [baseS], ?_, ?_, ?_, ?_, fun _ => Nat.le_of_ble_eq_true hbd⟩, hall, rfl, rfl, .inl ⟨rfl, by rw [← ih.T]; exact hw, by rw [← ih.T]; exact hf, hpre, Nat.le_of_ble_eq_true hbd, fun e he hm o hc => deadP_spec hdd e (mem_keepPend.2 ⟨by rw [ih.pend]; exact he, hm⟩) o hc⟩⟩
          · simp [pendS, ih.pend]
          · exact List.pairwise_cons.2 ⟨fun a ha => by show a.hi ≤ (layAll q.mask d.pend d.s.H).n; rw [layAll_n]; exact (ih.lo a ha).2.2, ih.num⟩
          · intro x hx
            rcases List.mem_cons.1 hx with rfl | hx
            · simp only [TStep.lo, TStep.hi, layAll_n]; exact ⟨ih.n0, hle', Nat.le_refl _⟩
            · have := ih.lo x hx; exact ⟨this.1, this.2.1, Nat.le_trans this.2.2 hle'⟩
          · intro x hx hxe
            rcases List.mem_cons.1 hx with rfl | hx
            · cases hxe
            · exact ih.pobj x hx hxe
          · intro e he
            exact ih.bound e (mem_keepPend.1 he).1
      · cases hp
    · cases hp
end
end Go.Gm
