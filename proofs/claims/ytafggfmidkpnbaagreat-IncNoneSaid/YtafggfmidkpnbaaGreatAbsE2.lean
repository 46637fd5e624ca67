/- append to an object, copy, clear, maps. -/
import Derived.Test.YtafggfmidkpnbaaGreatAbsE
namespace Go.Gm
section
variable {P : Program} {w w0 w' : World} {O : Nat → Prop} {F : Fo} {X : Nat → Prop} {β : Nat → Option Loc} {G : Nat → AObj} {b : Nat} {rl : Option Nat} {H : Heap}

theorem ERes.same {v : AV} {u : Value} (h : SRH w O F β H) (hr : Rel w (bar O F) β v u) : ERes w O F β v H u w := ⟨O, β, Step.refl _ _ _, h, hr⟩

/-- new objects behind the others -/
theorem SRH.hole (h : SRH w O F β H) (k : Nat) : Hole H.get β H.n k := ⟨fun p hp _ => (h.2.1 p hp).1, fun p hp _ => (h.2.1 p hp).2⟩
theorem Heap.push_le {H H' : Heap} {objs : List AObj} (h : H.push objs = some H') (hn : H.n ≤ 1152921504606846976) : H'.n ≤ 1152921504606846976 := by
  unfold Heap.push at h
  cases objs with
  | nil => simp only [Option.some.injEq] at h; subst h; exact hn
  | cons x l =>
    simp only [Bool.cond_eq_ite] at h
    split at h
    · rename_i hb
      have hb := Nat.le_of_ble_eq_true hb
      cases h; exact hb
    · cases h
theorem Heap.push_get {H H' : Heap} {objs : List AObj} (h : H.push objs = some H') : H'.get = addO H.get H.n objs := funext fun p => by
  rw [(Heap.push_some h).2 p, addO_get]
theorem SRH.push {w' : World} {O' : Nat → Prop} {β' : Nat → Option Loc} {objs : List AObj} {H' : Heap} (h : SRH w O F β H) (hp : H.push objs = some H') (hsr : SR w' O' F β' (addO H.get H.n objs))
    (ho : ∀ p, (p < H.n ∨ H.n + objs.length ≤ p) → β' p = β p) : SRH w' O' F β' H' := by
  obtain ⟨h1, h2⟩ := Heap.push_some hp
  refine ⟨by rw [Heap.push_get hp]; exact hsr, fun p hpn => ?_, Heap.push_le hp h.2.2.1, fun p hp' => ⟨by have := (h.2.2.2 p hp').1; omega, by rw [ho p (.inl (h.2.2.2 p hp').1)]; exact (h.2.2.2 p hp').2⟩⟩
  rw [h1] at hpn
  rw [h2 p, if_neg (by omega), ho p (.inr hpn)]
  exact h.2.1 p (by omega)
theorem NRes.eres {v : AV} {objs : List AObj} {u : Value} {H' : Heap} (h : SRH w O F β H) (hp : H.push objs = some H') (hn : NRes w O F β H.get H.n v objs u w') : ERes w O F β v H' u w' := by
  obtain ⟨O', β', h1, h2, h3, h4⟩ := hn
  exact ⟨O', β', h1, h.push hp h2 h4, h3⟩

theorem Heap.set_upd {H : Heap} {o : Nat} (ho : o < 2 ^ 63) (x : AObj) : (H.set o x).get = Go.Gm.upd H.get o x := funext fun p => by
  rw [Heap.get_set ho]
  unfold Go.Gm.upd
  by_cases hp : p = o
  · rw [if_pos hp, if_pos hp.symm]
  · rw [if_neg hp, if_neg (fun c => hp c.symm)]

/-- an object goes on under another number, at another place of its block -/
theorem SR.rename (h : SR w O F β G) {o p : Nat} {l l' : Loc} {x : AObj} (ha : (G o).alive = true) (hl : β o = some l) (hG : G p = .dead) (hβ : β p = none) (hlb : l'.b = l.b)
    (ho : ∀ b', b' ≠ l.b → w'.heap[b']? = w.heap[b']?) (hs : w'.heap.size = w.heap.size) (hm : Same w w')
    (hx : ∀ β', Step w O β w' O β' → ObjR w' (bar O F) β' l' x) : SR w' O F (upd β p (some l')) (upd (upd G o .dead) p x) ∧ Step w O β w' O (upd β p (some l')) := by
  have hop : o ≠ p := fun e => by subst e; rw [hβ] at hl; cases hl
  have hext : Ext β (upd β p (some l')) := fun q lq hq => by
    unfold upd
    by_cases hqp : q = p
    · subst hqp; rw [hβ] at hq; cases hq
    · rw [if_neg hqp]; exact hq
  have hst : Step w O β w' O (upd β p (some l')) := ⟨fun b' _ hn => ho b' (fun e => hn (e ▸ h.own o l ha hl)), Nat.le_of_eq hs.symm, fun _ h => .inl h, hext, hm⟩
  have bet : ∀ q, q ≠ p → upd β p (some l') q = β q := fun q hq => by unfold upd; rw [if_neg hq]
  have at_p : upd β p (some l') p = some l' := by unfold upd; rw [if_pos rfl]
  have get : ∀ q, q ≠ p → (upd (upd G o .dead) p x q).alive = true → q ≠ o ∧ (G q).alive = true ∧ upd (upd G o .dead) p x q = G q := fun q hq hqa => by
    unfold upd at hqa ⊢
    rw [if_neg hq] at hqa ⊢
    by_cases hqo : q = o
    · rw [if_pos hqo] at hqa; simp [AObj.alive] at hqa
    · rw [if_neg hqo] at hqa ⊢; exact ⟨hqo, hqa, rfl⟩
  have getp : upd (upd G o .dead) p x p = x := by unfold upd; rw [if_pos rfl]
  refine ⟨⟨fun q lq hq => ?_, fun q hq => ?_, fun q lq hq hb => ?_, fun q q' lq lq' hq hq' hb hb' hne => ?_, fun b hb => by rw [hs]; exact h.lt b hb, fun b hb => by rw [hs]; exact h.flt b hb, h.dis⟩, hst⟩
  · by_cases hqp : q = p
    · subst hqp; rw [at_p] at hq; cases hq; rw [getp]; exact hx _ hst
    · rw [bet q hqp] at hq
      by_cases hal : (upd (upd G o .dead) p x q).alive = true
      · obtain ⟨h1, h2, h3⟩ := get q hqp hal
        rw [h3]
        exact (h.obj q lq hq).mono (hst.still F) hext (ho _ (h.inj q o lq l h2 ha hq hl h1))
      · cases hGq : upd (upd G o .dead) p x q <;> simp [hGq, AObj.alive] at hal; trivial
  · by_cases hqp : q = p
    · subst hqp; exact ⟨l', at_p⟩
    · obtain ⟨h1, h2, h3⟩ := get q hqp hq
      rw [bet q hqp]; exact h.has q h2
  · by_cases hqp : q = p
    · subst hqp; rw [at_p] at hb; cases hb; rw [hlb]; exact h.own o l ha hl
    · obtain ⟨h1, h2, h3⟩ := get q hqp hq
      rw [bet q hqp] at hb; exact h.own q lq h2 hb
  · by_cases hqp : q = p
    · have hqp' : q' ≠ p := fun e => hne (hqp.trans e.symm)
      subst hqp
      rw [at_p] at hb; cases hb
      obtain ⟨h1, h2, h3⟩ := get q' hqp' hq'
      rw [bet q' hqp'] at hb'
      rw [hlb]; exact h.inj o q' l lq' ha h2 hl hb' (fun e => h1 e.symm)
    · obtain ⟨h1, h2, h3⟩ := get q hqp hq
      rw [bet q hqp] at hb
      by_cases hqp' : q' = p
      · subst hqp'
        rw [at_p] at hb'; cases hb'
        rw [hlb]; exact h.inj q o lq l h2 ha hb hl h1
      · obtain ⟨h1', h2', h3'⟩ := get q' hqp' hq'
        rw [bet q' hqp'] at hb'
        exact h.inj q q' lq lq' h2 h2' hb hb' hne

theorem appendE_sound {t xt e ty : TypeId} {esz bytes : Nat} {ts : Array TypeId} {s x v : AV} {H' : Heap} {xs : List (List AV)} {us ux : Value} (hai : appInfo P t = some (e, esz, bytes))
    (h0 : ts[0]? = some t) (h1 : ts[1]? = some xt) (hsrc : appSrc P e xt x H = some xs) (h : appendE esz bytes s xs H = some (v, H'))
    (hx : Rel w (bar O F) β x ux) (hs : Rel w (bar O F) β s us) (hsr : SRH w O F β H) :
    ∃ u w', (Builtin.append_ ts ty #[us, ux]).run P w = .ok u w' ∧ ERes w O F β v H' u w' := by
  obtain ⟨i, z, hu, hi, rfl, rfl, hi0, hz, hzs⟩ := appInfo_some hai
  unfold appendE at h
  split at h
  · rename_i o off len
    cases hg : H.get o with
    | arr sz rows closed =>
      simp only [hg] at h
      cases hc : (Nat.beq sz i.size && okRows i.size xs) with
      | false => simp [hc] at h
      | true =>
        simp only [hc, cond_true] at h
        rw [Bool.and_eq_true, beq_iff] at hc
        obtain ⟨rfl, hok⟩ := hc
        obtain ⟨cap, l, rfl, hl, hlen, hcap, happ⟩ : ∃ cap l, us = .slice (some ⟨l.b, l.c + off * l.sz, none⟩) len cap ∧ β o = some l ∧ len ≤ cap ∧ off + cap ≤ l.room ∧ l.n ≤ off + cap := by
          cases hs with
          | osl o off len cap app l hl hlen hcap happ => exact ⟨cap, l, rfl, hl, hlen, hcap, happ rfl⟩
        have ho := hsr.1.obj o l hl
        rw [hg] at ho
        have ho' := ho
        obtain ⟨g1, g2, g3, g4, g5, g6, cs, elem, hh, hsz, hrr⟩ := ho
        have ha : (H.get o).alive = true := by rw [hg]; rfl
        have hn : o < H.n := by
          rcases Nat.lt_or_ge o H.n with hlt | hge
          · exact hlt
          · have := (hsr.2.1 o hge).1; rw [hg] at this; cases this
        split at h
        · simp only [Option.some.injEq, Prod.mk.injEq] at h
          obtain ⟨rfl, rfl⟩ := h
          obtain ⟨news, hnews, hns, _⟩ := appSrc_sound hsrc hi hok hsr.1 (fun _ _ => rfl) hx
          have hn0 : news = #[] := by
            simp at hns; exact hns
          subst hn0
          have := append_room (ty := ty) (sLen := len) (sCap := cap) (base := some ⟨l.b, l.c + off * l.sz, none⟩) hu hi h0 h1 rfl hnews (by simpa using hlen) (w' := w) (by simp [storeCells])
          refine ⟨_, _, this, ?_⟩
          exact ERes.same hsr hs
        · rename_i hne
          have hxs : 0 < xs.length := by
            cases xs with
            | nil => exact absurd rfl hne
            | cons _ _ => simp
          obtain ⟨news, hnews, hns, hrn⟩ := appSrc_sound hsrc hi hok hsr.1 (fun _ _ => rfl) hx
          have haddr : (⟨l.b, l.c + off * l.sz, none⟩ : Addr).add (len * i.size) = ⟨l.b, l.c + (off + len) * i.size, none⟩ := by
            rw [Addr.add_none, g1, Nat.add_mul]; congr 1; omega
          simp only [lenN_eq] at h
          cases hin : Nat.ble (off + len + xs.length) rows.length with
          | true =>
            simp only [hin, cond_true, Option.some.injEq, Prod.mk.injEq] at h
            obtain ⟨rfl, rfl⟩ := h
            rw [Nat.ble_eq] at hin
            obtain ⟨w', hrun, h2, h3⟩ := hsr.1.rows (P := P) hl hg hrn hns hin
            have := append_room (ty := ty) (sLen := len) (sCap := cap) (base := some ⟨l.b, l.c + off * l.sz, none⟩) hu hi h0 h1 rfl hnews (by omega) (w' := w') (by simp only []; rw [haddr]; exact hrun)
            exact ⟨_, _, this, O, β, h3, hsr.upd hn h2, .osl o off (len + xs.length) cap true l hl (by omega) hcap (fun _ => happ)⟩
          | false =>
            have hin' : ¬ (off + len + xs.length ≤ rows.length) := fun c => by rw [← Nat.ble_eq, hin] at c; cases c
            simp only [hin, cond_false] at h
            cases hcut : cut rows off len with
            | none => simp [hcut] at h
            | some old =>
              simp only [hcut, appN_eq, List.length_append] at h
              obtain ⟨hol, hog⟩ := cut_some hcut
              rw [hol] at h
              cases hfit : fits i.bytes (len + xs.length) with
              | false => simp [hfit] at h
              | true =>
                simp only [hfit, cond_true] at h
                cases hpu : (bif closed then H else H.set o .dead).push [.arr i.size (old ++ xs) false] with
                | none => simp [hpu] at h
                | some H2 =>
                  simp only [hpu, Option.some.injEq, Prod.mk.injEq] at h
                  obtain ⟨rfl, rfl⟩ := h
                  have hold : ∀ (j : Nat) (row : List AV), old[j]? = some row → rows[off + j]? = some row := fun j row hj => by
                    have hjl : j < len := by rw [← hol]; exact (List.getElem?_eq_some_iff.1 hj).1
                    rw [← hog j hjl]; exact hj
                  by_cases hroom : len + xs.length ≤ cap
                  · -- in its place
                    have hcl : closed = false := by
                      cases closed with
                      | false => rfl
                      | true => have := g4 rfl; omega
                    subst hcl
                    simp only [cond_false] at hpu
                    have hfits : (off + len) * i.size + news.toList.length ≤ l.room * i.size := by
                      simp only [Array.length_toList, hns]
                      rw [← Nat.add_mul]
                      exact Nat.mul_le_mul_right _ (by omega)
                    obtain ⟨w', hrun, hw⟩ := hsr.1.store (P := P) hl hg hfits (hrn.oneCell hns)
                    have := append_room (ty := ty) (sLen := len) (sCap := cap) (base := some ⟨l.b, l.c + off * l.sz, none⟩) hu hi h0 h1 rfl hnews hroom (w' := w') (by simp only []; rw [haddr]; exact hrun)
                    refine ⟨_, _, this, ?_⟩
                    have hren := hsr.1.rename (l' := ⟨l.b, l.c + off * i.size, i.size, (old ++ xs).length, l.room - off, false⟩) (x := .arr i.size (old ++ xs) false) ha hl (hsr.2.1 H.n (Nat.le_refl _)).1 (hsr.2.1 H.n (Nat.le_refl _)).2 rfl hw.other hw.size hw.out
                      (fun β' hst => by
                        obtain ⟨cs', hcs, hcsz, hcg⟩ := hw.cells cs elem (0, 0) hh
                        refine ⟨rfl, rfl, rfl, (fun c => by cases c), ?_, g6, cs', elem, hcs, ?_, fun k row hk => ?_⟩
                        · simp only [List.length_append, hol]; omega
                        · simp only [hcsz]
                          have hle : off ≤ l.room := by omega
                          rw [Nat.sub_mul]
                          have := Nat.mul_le_mul_right i.size hle
                          omega
                        · rw [nth_eq] at hk
                          rw [List.getElem?_append] at hk
                          have hklt : k < len + xs.length := by
                            split at hk
                            · omega
                            · have := (List.getElem?_eq_some_iff.1 hk).1; omega
                          have hb2 := Nat.mul_le_mul_right i.size (show off + k + 1 ≤ l.room by omega)
                          have e2 : (off + k + 1) * i.size = off * i.size + k * i.size + i.size := by rw [Nat.add_mul, Nat.add_mul, Nat.one_mul]
                          have e3 : (off + len) * i.size = off * i.size + len * i.size := Nat.add_mul _ _ _
                          split at hk
                          · rename_i hko
                            have hro := hold k row hk
                            obtain ⟨q1, q2⟩ := hrr (off + k) row (by rw [nth_eq]; exact hro)
                            refine ⟨q1, fun j y hy => ?_⟩
                            obtain ⟨r1, v, r2, r3⟩ := q2 j y hy
                            have hj : j < i.size := by rw [← q1]; exact nth_lt hy
                            refine ⟨r1, v, ?_, r3.mono (hst.still F) hst.ext⟩
                            have hb3 := Nat.mul_le_mul_right i.size (show k + 1 ≤ len by omega)
                            rw [Nat.add_mul, Nat.one_mul] at hb3
                            show cs'[l.c + off * i.size + (k * i.size + j)]? = some v
                            rw [hcg _ (by omega), if_neg (by omega)]
                            rw [show l.c + off * i.size + (k * i.size + j) = l.c + ((off + k) * i.size + j) from by rw [Nat.add_mul]; omega]
                            exact r2
                          · rename_i hko
                            have hq1 := hrn.len _ _ hk
                            refine ⟨hq1, fun j y hy => ?_⟩
                            rw [nth_eq] at hy
                            obtain ⟨r1, v, r2, r3⟩ := hrn.rel _ row j y hk hy
                            have hj : j < i.size := by rw [← hq1]; exact (List.getElem?_eq_some_iff.1 hy).1
                            refine ⟨r1, v, ?_, r3.mono (hst.still F) hst.ext⟩
                            have hb3 := Nat.mul_le_mul_right i.size (show len ≤ k by omega)
                            have hb4 := Nat.mul_le_mul_right i.size (show k + 1 ≤ len + xs.length by omega)
                            rw [Nat.add_mul, Nat.one_mul, Nat.add_mul] at hb4
                            show cs'[l.c + off * i.size + (k * i.size + j)]? = some v
                            rw [hcg _ (by omega), if_pos (by simp only [Array.length_toList, hns]; omega)]
                            rw [Array.getElem?_toList, show l.c + off * i.size + (k * i.size + j) - (l.c + (off + len) * i.size) = (k - len) * i.size + j from by rw [Nat.sub_mul]; omega]
                            rw [← hol]; exact r2)
                    have hset := Heap.set_upd (o := o) (H := H) (by have := hsr.2.2; omega) .dead
                    have hget : H2.get = Go.Gm.upd (Go.Gm.upd H.get o .dead) H.n (.arr i.size (old ++ xs) false) := by
                      rw [Heap.push_get hpu, hset, Heap.set_n]; rfl
                    refine ⟨O, _, hren.2, ⟨by rw [hget]; exact hren.1, fun p hp => ?_, Heap.push_le hpu hsr.2.2.1, fun p hp => ?_⟩, ?_⟩
                    · have hp' : H.n + 1 ≤ p := by rw [(Heap.push_some hpu).1, Heap.set_n] at hp; exact hp
                      rw [hget]
                      unfold Go.Gm.upd
                      rw [if_neg (by omega), if_neg (by omega), if_neg (by omega)]
                      exact hsr.2.1 p (by omega)
                    · obtain ⟨q1, q2⟩ := hsr.2.2.2 p hp
                      refine ⟨by rw [(Heap.push_some hpu).1, Heap.set_n]; omega, ?_⟩
                      unfold Go.Gm.upd
                      rw [if_neg (by omega)]; exact q2
                    · have := Rel.osl (w := w') (X := bar O F) (β := Go.Gm.upd β H.n (some ⟨l.b, l.c + off * i.size, i.size, (old ++ xs).length, l.room - off, false⟩)) H.n 0 (len + xs.length) cap true _ (by unfold Go.Gm.upd; rw [if_pos rfl]) hroom (by simp only []; omega)
                        (fun _ => by simp only [List.length_append, hol]; omega)
                      simp only [Nat.zero_mul, Nat.add_zero] at this
                      rw [g1]; exact this
                  · -- elsewhere
                    have hsr2 : SRH w O F β (bif closed then H else H.set o .dead) ∧ (bif closed then H else H.set o .dead).n = H.n := by
                      cases closed with
                      | true => exact ⟨hsr, rfl⟩
                      | false => exact ⟨hsr.upd hn (hsr.1.forget o), Heap.set_n _ _ _⟩
                    obtain ⟨a', cap', he, hcells⟩ := rowsOf_sound (x := .osl o off len true) (xs := old) (by simp only [rowsOf, hg]; exact hcut) (okRows_iff.2 (fun r hr => by
                      obtain ⟨j, hj⟩ := List.mem_iff_getElem?.1 hr
                      exact (hrr (off + j) r (by rw [nth_eq]; exact hold j r hj)).1)) hsr.1 (fun _ _ => rfl) hs
                    obtain ⟨olds, q1, q2, q3⟩ := hcells len (by rw [hol]; exact Nat.le_refl _)
                    rw [List.take_of_length_le (by rw [hol]; exact Nat.le_refl _)] at q3
                    obtain ⟨u, w', r1, r2⟩ := append_new (ty := ty) (b := H.n) hu hi hz h0 h1 rfl hnews (by omega) hfit q1 hrn q3 hol q2 hns hi0 hzs hsr2.1.1 (by rw [← hsr2.2]; exact hsr2.1.hole 1)
                    refine ⟨u, w', r1, ?_⟩
                    have := NRes.eres hsr2.1 hpu (by rw [hsr2.2]; exact r2)
                    exact this
    | _ => simp [hg] at h
  · cases h
end
end Go.Gm
