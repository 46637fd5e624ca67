/- append to a frozen slice; the rest of the operations without effect. -/
import Derived.Test.YtafggfmidkpnbaaGreatAbsApp2
namespace Go.Gm
section
variable {P : Program} {w w0 : World} {O F : Nat → Prop} {X : Nat → Prop} {β : Nat → Option Loc} {G : Nat → AObj} {b : Nat}

theorem appInfo_some {t e : TypeId} {esz bytes : Nat} (h : appInfo P t = some (e, esz, bytes)) : ∃ (i : TypeInfo) (z : Value), P.underlying t = some (.slice e) ∧ P.info? e = some i ∧ i.size = esz ∧ i.bytes = bytes ∧ 0 < esz ∧
    i.zero = some z ∧ z.cells.size = i.size := by
  unfold appInfo at h
  cases hu : P.underlying t with
  | none => simp [hu] at h
  | some d =>
    simp only [hu] at h
    cases d <;> simp only [reduceCtorEq] at h
    rename_i e'
    cases hi : P.info? e' with
    | none => simp [hi] at h
    | some i =>
      cases hz : zeroCells P e' with
      | none => simp [hi, hz] at h
      | some ez =>
        simp only [hi, hz, Option.some.injEq, Prod.mk.injEq] at h
        obtain ⟨rfl, rfl, rfl⟩ := h
        obtain ⟨hs, hl, h0, i', z, hi', hzv, hc⟩ := zeroCells_sound (esz := ez.1) (z := ez.2) hz
        rw [hi] at hi'; cases hi'
        have hes : i.size = ez.1 := by unfold tsz at hs; rw [hi] at hs; simpa using hs
        exact ⟨i, z, rfl, hi, rfl, rfl, by rw [hes]; exact h0, hzv, by rw [← (hc default (fun _ => False) (fun _ => none)).len, hl, hes]⟩

theorem okRows_iff {esz : Nat} {rows : List (List AV)} : okRows esz rows = true ↔ ∀ row ∈ rows, row.length = esz := by
  unfold okRows
  rw [allN_eq, List.all_eq_true]
  exact ⟨fun h r hr => by have := h r hr; rwa [beq_iff, lenN_eq] at this, fun h r hr => by rw [beq_iff, lenN_eq]; exact h r hr⟩

theorem appendN_sound {t xt e ty : TypeId} {esz bytes : Nat} {ts : Array TypeId} {s x v : AV} {H : Heap} {xs : List (List AV)} {objs : List AObj} {us ux : Value} (hai : appInfo P t = some (e, esz, bytes))
    (h0 : ts[0]? = some t) (h1 : ts[1]? = some xt) (hsrc : appSrc P e xt x H = some xs) (h : appendN esz bytes s xs b = some (v, objs))
    (hx : Rel w (bar O F) β x ux) (hs : Rel w (bar O F) β s us) (hsr : SR w O F β G) (hG : ∀ o, o ∈ refOf x → G o = H.get o) (hole : Hole G β b objs.length) :
    ∃ u w', (Builtin.append_ ts ty #[us, ux]).run P w = .ok u w' ∧ NRes w O F β G b v objs u w' := by
  obtain ⟨i, z, hu, hi, rfl, rfl, hi0, hz, hzs⟩ := appInfo_some hai
  unfold appendN at h
  split at h
  · rename_i rows
    have hs' := hs.fv_inv
    obtain ⟨a, cap, husl, hcap⟩ : ∃ a cap, us = .slice a rows.length cap ∧ cap = rows.length := by
      cases hs' with
      | sl rows tight a cap sz cv hcap ht ha hsz h1 hc hh => exact ⟨a, cap, rfl, ht rfl⟩
    subst hcap
    split at h
    · -- nothing is appended
      simp only [Option.some.injEq, Prod.mk.injEq] at h
      obtain ⟨rfl, rfl⟩ := h
      obtain ⟨news, hnews, hns, _⟩ := appSrc_sound hsrc hi (okRows_iff.2 (fun r hr => by cases hr)) hsr hG hx
      have hn0 : news = #[] := by
        simp at hns; exact hns
      subst hn0
      have := append_room (ty := ty) hu hi h0 h1 husl hnews (by simp) (w' := w) (by cases a <;> simp [storeCells])
      refine ⟨_, _, this, ?_⟩
      rw [List.length_nil, Nat.add_zero, ← husl]
      exact NRes.same hsr hs
    · rename_i hne
      cases hc : (okRows i.size (appN (fvRows rows) xs) && fits i.bytes (lenN (appN (fvRows rows) xs))) with
      | false => simp [hc] at h
      | true =>
        simp only [hc, cond_true, Option.some.injEq, Prod.mk.injEq] at h
        obtain ⟨rfl, rfl⟩ := h
        rw [Bool.and_eq_true, lenN_eq, appN_eq] at hc
        obtain ⟨hok, hfit⟩ := hc
        have hfl : (fvRows rows).length = rows.length := by unfold fvRows; rw [mapN_eq]; simp
        rw [List.length_append, hfl] at hfit
        have hok := okRows_iff.1 hok
        obtain ⟨news, hnews, hns, hrn⟩ := appSrc_sound hsrc hi (okRows_iff.2 (fun r hr => hok r (by simp [hr]))) hsr hG hx
        have hro : rowsOf (.fv (.sl rows true)) noHeap = some (fvRows rows) := rfl
        obtain ⟨a', cap', he, hold⟩ := rowsOf_sound hro (okRows_iff.2 (fun r hr => hok r (by simp [hr]))) hsr (fun o ho => by simp [refOf] at ho) hs
        obtain ⟨olds, g1, g2, g3⟩ := hold rows.length (by rw [hfl]; exact Nat.le_refl _)
        rw [List.take_of_length_le (by rw [hfl]; exact Nat.le_refl _)] at g3
        have hxs : 0 < xs.length := by
          cases xs with
          | nil => exact absurd rfl hne
          | cons _ _ => simp
        have := append_new (ty := ty) (b := b) hu hi hz h0 h1 husl hnews (by omega) hfit g1 hrn g3 hfl g2 hns hi0 hzs hsr hole
        rw [lenN_eq, appN_eq, List.length_append, hfl]
        exact this
  · cases h

theorem extract_sound {x z : AV} {k : Nat} {u : Value} (h : (match x with | .tup vs => nth vs k | .fv (.tup vs) => (match nth vs k with | some v => some (AV.fv v) | none => none) | _ => none) = some z) (hx : Rel w X β x u) :
    ∃ r, (∀ w0, (Instr.extract u k).run P w0 = .ok r w0) ∧ Rel w X β z r := by
  split at h
  · cases hx with
    | tup cs vs hlen hh =>
      have hlt : k < vs.size := by rw [← hlen]; exact nth_lt h
      exact ⟨vs[k], fun w0 => by simp [Instr.extract, hlt], hh k z _ h (by simp [hlt])⟩
  · rename_i cs
    cases hn : nth cs k with
    | none => simp [hn] at h
    | some y =>
      simp only [hn, Option.some.injEq] at h; subst h
      have hx := hx.fv_inv
      cases hx with
      | tup cs vs hlen hh =>
        have hlt : k < vs.size := by rw [← hlen]; exact nth_lt hn
        exact ⟨vs[k], fun w0 => by simp [Instr.extract, hlt], .fv _ _ (hh k y _ hn (by simp [hlt]))⟩
  · cases h
end
end Go.Gm
