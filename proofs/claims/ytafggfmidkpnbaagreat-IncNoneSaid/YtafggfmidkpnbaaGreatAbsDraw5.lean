/- One operation more. -/
import Derived.Test.YtafggfmidkpnbaaGreatAbsDraw4
namespace Go.Gm
section
variable {n0 : Nat} {S : Nat → Bool} {H0 : Heap} {tr post pre : List TStep} {y : TStep}

/-- one more -/
def withI (S : Nat → Bool) (i : Nat) : Nat → Bool := fun j => bif Nat.beq j i then true else S j
theorem withI_self (i : Nat) : withI S i i = true := by unfold withI; rw [bif_beq, if_pos rfl]
theorem withI_ne {i j : Nat} (h : j ≠ i) : withI S i j = S j := by unfold withI; rw [bif_beq, if_neg h]
theorem withI_mono {i j : Nat} (h : S j = true) : withI S i j = true := by
  by_cases e : j = i
  · subst e; exact withI_self _
  · rw [withI_ne e]; exact h

theorem GS_hit (hg : Good n0 tr) {r : TStep} (hr : r ∈ tr) (he : r.r.eff = false) (hS : S r.r.i = true) (hU : Un S tr r) {o : Nat} (hc : r.cov o) : GS S H0 tr o = (r.r.objs[o - r.lo]?).getD .dead :=
  lay_hit hg hr he hS hU rfl hc
theorem GS_miss (hg : Good n0 tr) {o : Nat} (h : ∀ r ∈ tr, r.r.eff = false → S r.r.i = true → Un S tr r → ¬ r.cov o) : GS S H0 tr o = (baseS S H0 tr).get o :=
  lay_miss hg fun r h1 h2 h3 h4 _ => h r h1 h2 h3 h4
theorem PS_hit {m : Nat} (hg : Good n0 pre) {r : TStep} (hr : r ∈ pre) (he : r.r.eff = false) (hU : Un (fun _ => true) pre r) (hm : m.testBit r.r.i = true) {o : Nat} (hc : r.cov o) : PS m H0 pre o = (r.r.objs[o - r.lo]?).getD .dead :=
  lay_hit hg hr he rfl hU hm hc
theorem PS_miss {m : Nat} (hg : Good n0 pre) {o : Nat} (h : ∀ r ∈ pre, r.r.eff = false → Un (fun _ => true) pre r → m.testBit r.r.i = true → ¬ r.cov o) : PS m H0 pre o = (baseS (fun _ => true) H0 pre).get o :=
  lay_miss hg fun r h1 h2 _ h4 h5 => h r h1 h2 h4 h5
/-- seen, or not -/
theorem GS_cases (hg : Good n0 tr) (o : Nat) : (∃ r ∈ tr, r.r.eff = false ∧ S r.r.i = true ∧ Un S tr r ∧ r.cov o ∧ GS S H0 tr o = (r.r.objs[o - r.lo]?).getD .dead) ∨
    ((∀ r ∈ tr, r.r.eff = false → S r.r.i = true → Un S tr r → ¬ r.cov o) ∧ GS S H0 tr o = (baseS S H0 tr).get o) := by
  by_cases h : ∃ r ∈ tr, r.r.eff = false ∧ S r.r.i = true ∧ Un S tr r ∧ r.cov o
  · obtain ⟨r, h1, h2, h3, h4, h5⟩ := h
    exact .inl ⟨r, h1, h2, h3, h4, h5, GS_hit hg h1 h2 h3 h4 h5⟩
  · have h' : ∀ r ∈ tr, r.r.eff = false → S r.r.i = true → Un S tr r → ¬ r.cov o := fun r h1 h2 h3 h4 h5 => h ⟨r, h1, h2, h3, h4, h5⟩
    exact .inr ⟨h', GS_miss hg h'⟩
theorem PS_cases {m : Nat} (hg : Good n0 pre) (o : Nat) : (∃ r ∈ pre, r.r.eff = false ∧ Un (fun _ => true) pre r ∧ m.testBit r.r.i = true ∧ r.cov o ∧ PS m H0 pre o = (r.r.objs[o - r.lo]?).getD .dead) ∨
    ((∀ r ∈ pre, r.r.eff = false → Un (fun _ => true) pre r → m.testBit r.r.i = true → ¬ r.cov o) ∧ PS m H0 pre o = (baseS (fun _ => true) H0 pre).get o) := by
  by_cases h : ∃ r ∈ pre, r.r.eff = false ∧ Un (fun _ => true) pre r ∧ m.testBit r.r.i = true ∧ r.cov o
  · obtain ⟨r, h1, h2, h3, h4, h5⟩ := h
    exact .inl ⟨r, h1, h2, h3, h4, h5, PS_hit hg h1 h2 h3 h4 h5⟩
  · have h' : ∀ r ∈ pre, r.r.eff = false → Un (fun _ => true) pre r → m.testBit r.r.i = true → ¬ r.cov o := fun r h1 h2 h3 h4 h5 => h ⟨r, h1, h2, h3, h4, h5⟩
    exact .inr ⟨h', PS_miss hg h'⟩

/-- a pure one -/
theorem GS_pure (hg : Good n0 tr) (hy : y ∈ tr) (he : y.r.eff = false) (hS : S y.r.i = false) (hU : Un S tr y) : GS (withI S y.r.i) H0 tr = addO (GS S H0 tr) y.lo y.r.objs := by
  have hun : ∀ r, Un (withI S y.r.i) tr r ↔ Un S tr r := fun r => by
    constructor
    · exact fun h x hx hxe hxs => h x hx hxe (withI_mono hxs)
    · intro h x hx hxe hxs
      by_cases e : x.r.i = y.r.i
      · have := hg.same hx hy e; subst this; rw [he] at hxe; cases hxe
      · rw [withI_ne e] at hxs; exact h x hx hxe hxs
  have hb : baseS (withI S y.r.i) H0 tr = baseS S H0 tr := baseS_congr fun x hx hxe => by
    refine withI_ne fun e => ?_
    have := hg.same hx hy e; subst this; rw [he] at hxe; cases hxe
  funext o
  rw [addO_get]
  have hp := hg.pobj y hy he
  by_cases hc : y.lo ≤ o ∧ o < y.lo + y.r.objs.length
  · rw [if_pos hc]
    exact GS_hit hg hy he (withI_self _) ((hun y).2 hU) ⟨hc.1, by rw [hp]; exact hc.2⟩
  · rw [if_neg hc]
    rcases GS_cases (S := S) (H0 := H0) hg o with ⟨r, h1, h2, h3, h4, h5, h6⟩ | ⟨h1, h2⟩
    · rw [h6]; exact GS_hit hg h1 h2 (withI_mono h3) ((hun r).2 h4) h5
    · rw [h2, ← hb]
      refine GS_miss hg fun r g1 g2 g3 g4 g5 => ?_
      by_cases e : r.r.i = y.r.i
      · have := hg.same g1 hy e; subst this
        exact hc ⟨g5.1, by rw [← hp]; exact g5.2⟩
      · rw [withI_ne e] at g3
        exact h1 r g1 g2 g3 ((hun r).1 g4) g5

/-- what is set aside while an effect runs -/
def Aside (S : Nat → Bool) (tr : List TStep) (m : Nat) (o : Nat) : Prop := ∃ r ∈ tr, r.r.eff = false ∧ S r.r.i = true ∧ Un S tr r ∧ m.testBit r.r.i = false ∧ r.cov o

/-- an effect: all effects ahead of it have run, none behind it -/
theorem PS_eff (hg : Good n0 (post ++ y :: pre)) (hpost : ∀ x ∈ post, x.r.eff = true → S x.r.i = false) (hy : S y.r.i = false)
    (hpre : ∀ x ∈ pre, x.r.eff = true → S x.r.i = true) {m : Nat} (hm : ∀ j, m.testBit j = true → S j = true) (hmp : ∀ x ∈ post, m.testBit x.r.i = false)
    (hdead : ∀ r ∈ post ++ y :: pre, r.r.eff = false → S r.r.i = true → Un S (post ++ y :: pre) r → ∀ o, r.cov o → (baseS S H0 (post ++ y :: pre)).get o = .dead) (o : Nat) :
    (Aside S (post ++ y :: pre) m o → PS m H0 pre o = .dead) ∧ (¬ Aside S (post ++ y :: pre) m o → PS m H0 pre o = GS S H0 (post ++ y :: pre) o) := by
  have hgp : Good n0 pre := (Good.drop hg).tail
  have hb1 : baseS S H0 (post ++ y :: pre) = baseS S H0 pre := by
    rw [baseS_append hpost]
    simp [baseS, hy]
  have hb2 : baseS S H0 pre = baseS (fun _ => true) H0 pre := baseS_congr fun x hx he => hpre x hx he
  have hsub : ∀ x, x ∈ pre → x ∈ post ++ y :: pre := fun x hx => List.mem_append_right _ (List.mem_cons_of_mem _ hx)
  have hun1 : ∀ r, Un S (post ++ y :: pre) r → Un (fun _ => true) pre r := fun r h x hx he _ => h x (hsub x hx) he (hpre x hx he)
  have hun2 : ∀ r, Un (fun _ => true) pre r → Un S (post ++ y :: pre) r := fun r h x hx he hs => by
    rcases List.mem_append.1 hx with hx | hx
    · rw [hpost x hx he] at hs; cases hs
    · rcases List.mem_cons.1 hx with rfl | hx
      · rw [hy] at hs; cases hs
      · exact h x hx he rfl
  constructor
  · rintro ⟨r, h1, h2, h3, h4, h5, h6⟩
    rw [PS_miss hgp, ← hb2, ← hb1]
    · exact hdead r h1 h2 h3 h4 o h6
    · intro r' g1 g2 g3 g4 g5
      have := hg.one (hsub r' g1) h1 g5 h6
      subst this
      rw [h5] at g4; cases g4
  · intro hA
    rcases GS_cases (S := S) (H0 := H0) hg o with ⟨r, h1, h2, h3, h4, h5, h6⟩ | ⟨h1, h2⟩
    · have hmr : m.testBit r.r.i = true := by
        cases hb : m.testBit r.r.i with
        | true => rfl
        | false => exact absurd ⟨r, h1, h2, h3, h4, hb, h5⟩ hA
      have hrp : r ∈ pre := by
        rcases List.mem_append.1 h1 with hx | hx
        · rw [hmp r hx] at hmr; cases hmr
        · rcases List.mem_cons.1 hx with rfl | hx
          · rw [hy] at h3; cases h3
          · exact hx
      rw [h6]; exact PS_hit hgp hrp h2 (hun1 r h4) hmr h5
    · rw [h2, hb1, hb2]
      exact PS_miss hgp fun r g1 g2 g3 g4 g5 => h1 r (hsub r g1) g2 (hm _ g4) (hun2 r g3) g5

/-- behind the effect -/
theorem GS_eff (hg : Good n0 (post ++ y :: pre)) (he : y.r.eff = true) (hpost : ∀ x ∈ post, x.r.eff = true → S x.r.i = false) (hy : S y.r.i = false) (o : Nat) :
    (Aside S (post ++ y :: pre) y.r.mask o → GS (withI S y.r.i) H0 (post ++ y :: pre) o = GS S H0 (post ++ y :: pre) o) ∧
    (¬ Aside S (post ++ y :: pre) y.r.mask o → GS (withI S y.r.i) H0 (post ++ y :: pre) o = y.r.post.get o) := by
  have hym : y ∈ post ++ y :: pre := List.mem_append_right _ (List.mem_cons_self ..)
  have hne : ∀ x ∈ post ++ y :: pre, x.r.eff = false → x.r.i ≠ y.r.i := fun x hx hxe e => by
    have := hg.same hx hym e; subst this; rw [he] at hxe; cases hxe
  have hnp : ∀ x ∈ post, x.r.i ≠ y.r.i := fun x hx e => by
    have hp := List.pairwise_append.1 hg.idx
    exact hp.2.2 x hx y (List.mem_cons_self ..) e
  have hun : ∀ r, Un (withI S y.r.i) (post ++ y :: pre) r ↔ Un S (post ++ y :: pre) r ∧ y.r.mask.testBit r.r.i = false := fun r => by
    constructor
    · exact fun h => ⟨fun x hx hxe hxs => h x hx hxe (withI_mono hxs), h y hym he (withI_self _)⟩
    · rintro ⟨h, hm⟩ x hx hxe hxs
      by_cases e : x.r.i = y.r.i
      · have := hg.same hx hym e; subst this; exact hm
      · rw [withI_ne e] at hxs; exact h x hx hxe hxs
  have hb : baseS (withI S y.r.i) H0 (post ++ y :: pre) = y.r.post := by
    rw [baseS_append fun x hx hxe => by rw [withI_ne (hnp x hx)]; exact hpost x hx hxe]
    simp [baseS, he, withI_self]
  constructor
  · rintro ⟨r, h1, h2, h3, h4, h5, h6⟩
    rw [GS_hit hg h1 h2 h3 h4 h6]
    exact GS_hit hg h1 h2 (withI_mono h3) ((hun r).2 ⟨h4, h5⟩) h6
  · intro hA
    rw [← hb]
    refine GS_miss hg fun r g1 g2 g3 g4 g5 => hA ?_
    rw [withI_ne (hne r g1 g2)] at g3
    exact ⟨r, g1, g2, g3, ((hun r).1 g4).1, ((hun r).1 g4).2, g5⟩

/-- what a pure one reads, with just the same effects behind it -/
theorem read_same (hg : Good n0 (post ++ y :: pre)) (hpost : ∀ x ∈ post, x.r.eff = true → S x.r.i = false) (hy : S y.r.i = false)
    (hpre : ∀ x ∈ pre, x.r.eff = true → S x.r.i = true) {m : Nat} (hm : ∀ j, m.testBit j = true → S j = true) (hmp : ∀ x ∈ post, m.testBit x.r.i = false) {o : Nat}
    (hmade : o < n0 ∨ ∃ r ∈ post ++ y :: pre, m.testBit r.r.i = true ∧ r.cov o) : GS S H0 (post ++ y :: pre) o = PS m H0 pre o := by
  have hgp : Good n0 pre := (Good.drop hg).tail
  have hb1 : baseS S H0 (post ++ y :: pre) = baseS S H0 pre := by
    rw [baseS_append hpost]
    simp [baseS, hy]
  have hb2 : baseS S H0 pre = baseS (fun _ => true) H0 pre := baseS_congr fun x hx he => hpre x hx he
  have hsub : ∀ x, x ∈ pre → x ∈ post ++ y :: pre := fun x hx => List.mem_append_right _ (List.mem_cons_of_mem _ hx)
  have hun1 : ∀ r, Un S (post ++ y :: pre) r → Un (fun _ => true) pre r := fun r h x hx he _ => h x (hsub x hx) he (hpre x hx he)
  have hun2 : ∀ r, Un (fun _ => true) pre r → Un S (post ++ y :: pre) r := fun r h x hx he hs => by
    rcases List.mem_append.1 hx with hx | hx
    · rw [hpost x hx he] at hs; cases hs
    · rcases List.mem_cons.1 hx with rfl | hx
      · rw [hy] at hs; cases hs
      · exact h x hx he rfl
  rcases GS_cases (S := S) (H0 := H0) hg o with ⟨r, h1, h2, h3, h4, h5, h6⟩ | ⟨h1, h2⟩
  · have hmr : m.testBit r.r.i = true := by
      rcases hmade with hlt | ⟨r', g1, g2, g3⟩
      · have := (hg.lo r h1).1; have := h5.1; omega
      · have := hg.one g1 h1 g3 h5; subst this; exact g2
    have hrp : r ∈ pre := by
      rcases List.mem_append.1 h1 with hx | hx
      · rw [hmp r hx] at hmr; cases hmr
      · rcases List.mem_cons.1 hx with rfl | hx
        · rw [hy] at h3; cases h3
        · exact hx
    rw [h6, PS_hit hgp hrp h2 (hun1 r h4) hmr h5]
  · rw [h2, hb1, hb2, PS_miss hgp]
    intro r g1 g2 g3 g4 g5
    exact h1 r (hsub r g1) g2 (hm _ g4) (hun2 r g3) g5

/-- over the heap behind the last effect -/
theorem read_post (hg : Good n0 tr) {H : Heap} (hb : baseS S H0 tr = H)
    (hdead : ∀ r ∈ tr, r.r.eff = false → S r.r.i = true → Un S tr r → ∀ o, r.cov o → (baseS S H0 tr).get o = .dead) {o : Nat} (hl : H.get o ≠ .dead) : GS S H0 tr o = H.get o := by
  rcases GS_cases (S := S) (H0 := H0) hg o with ⟨r, h1, h2, h3, h4, h5, h6⟩ | ⟨h1, h2⟩
  · have := hdead r h1 h2 h3 h4 o h5
    rw [hb] at this
    exact absurd this hl
  · rw [h2, hb]
/-- over the heap that the first effect that is not in S sees -/
theorem read_pre (hg : Good n0 (post ++ y :: pre)) (hpost : ∀ x ∈ post, x.r.eff = true → S x.r.i = false) (hy : S y.r.i = false)
    (hpre : ∀ x ∈ pre, x.r.eff = true → S x.r.i = true) {m : Nat}
    (hdead : ∀ r ∈ post ++ y :: pre, r.r.eff = false → S r.r.i = true → Un S (post ++ y :: pre) r → ∀ o, r.cov o → (baseS S H0 (post ++ y :: pre)).get o = .dead) {o : Nat}
    (hmade : o < n0 ∨ ∃ r ∈ post ++ y :: pre, S r.r.i = true ∧ r.cov o) (hl : PS m H0 pre o ≠ .dead) : GS S H0 (post ++ y :: pre) o = PS m H0 pre o := by
  have hgp : Good n0 pre := (Good.drop hg).tail
  have hb1 : baseS S H0 (post ++ y :: pre) = baseS S H0 pre := by
    rw [baseS_append hpost]
    simp [baseS, hy]
  have hb2 : baseS S H0 pre = baseS (fun _ => true) H0 pre := baseS_congr fun x hx he => hpre x hx he
  have hsub : ∀ x, x ∈ pre → x ∈ post ++ y :: pre := fun x hx => List.mem_append_right _ (List.mem_cons_of_mem _ hx)
  have hun2 : ∀ r, Un (fun _ => true) pre r → Un S (post ++ y :: pre) r := fun r h x hx he hs => by
    rcases List.mem_append.1 hx with hx | hx
    · rw [hpost x hx he] at hs; cases hs
    · rcases List.mem_cons.1 hx with rfl | hx
      · rw [hy] at hs; cases hs
      · exact h x hx he rfl
  rcases GS_cases (S := S) (H0 := H0) hg o with ⟨r, h1, h2, h3, h4, h5, h6⟩ | ⟨h1, h2⟩
  · rcases PS_cases (H0 := H0) (m := m) hgp o with ⟨r', g1, g2, g3, g4, g5, g6⟩ | ⟨g1, g2⟩
    · have := hg.one (hsub r' g1) h1 g5 h5; subst this
      rw [h6, g6]
    · rw [g2, ← hb2, ← hb1, hdead r h1 h2 h3 h4 o h5] at hl
      exact absurd rfl hl
  · rw [h2, hb1, hb2, PS_miss hgp]
    intro r' g1 g2 g3 g4 g5
    rcases hmade with hlt | ⟨r, k1, k2, k3⟩
    · have := (hg.lo r' (hsub r' g1)).1; have := g5.1; omega
    · have := hg.one k1 (hsub r' g1) k3 g5; subst this
      exact h1 r k1 g2 k2 (hun2 r g3) g5
end
end Go.Gm
