/- A region's run: who made what. -/
import Derived.Test.YtafggfmidkpnbaaGreatAbsDraw3
namespace Go.Gm

def TStep.lo (x : TStep) : Nat := x.r.pre.n
def TStep.hi (x : TStep) : Nat := x.r.post.n

/-- the frame where the operations of S have run -/
noncomputable def frS (S : Nat → Bool) (T0 : Fr) : List TStep → Fr
  | [] => T0
  | x :: tr => bif S x.r.i then x.q.put (frS S T0 tr) x.r.val else frS S T0 tr
/-- the heap behind the last effect -/
noncomputable def baseS (S : Nat → Bool) (H0 : Heap) : List TStep → Heap
  | [] => H0
  | x :: tr => bif S x.r.i && x.r.eff then x.r.post else baseS S H0 tr
def addP (i b : Nat) (objs : List AObj) (l : List (Nat × Nat × List AObj)) : List (Nat × Nat × List AObj) :=
  match objs with
  | [] => l
  | x :: xs => (i, b, x :: xs) :: l
/-- what is not laid -/
def pendS (S : Nat → Bool) : List TStep → List (Nat × Nat × List AObj)
  | [] => []
  | x :: tr => bif S x.r.i then (bif x.r.eff then keepPend x.r.mask (pendS S tr) else addP x.r.i x.lo x.r.objs (pendS S tr)) else pendS S tr
def layP (f : Nat → Bool) : List (Nat × Nat × List AObj) → (Nat → AObj) → Nat → AObj
  | [], G => G
  | (i, b, objs) :: l, G => bif f i then addO (layP f l G) b objs else layP f l G

abbrev Ent := Nat × Nat × List AObj
def Ent.cov (e : Ent) (o : Nat) : Prop := e.2.1 ≤ o ∧ o < e.2.1 + e.2.2.length

theorem layP_hit {f : Nat → Bool} {G : Nat → AObj} {e : Ent} {o : Nat} (hf : f e.1 = true) (hc : e.cov o) : ∀ {l : List Ent}, e ∈ l → (∀ e' ∈ l, f e'.1 = true → e'.cov o → e' = e) → layP f l G o = (e.2.2[o - e.2.1]?).getD .dead
  | [], h, _ => by cases h
  | (i, b, objs) :: l, h, hu => by
    unfold layP
    cases hfi : f i with
    | false =>
      simp only [cond_false]
      refine layP_hit hf hc ?_ (fun e' he' => hu e' (List.mem_cons_of_mem _ he'))
      rcases List.mem_cons.1 h with rfl | h
      · rw [hfi] at hf; cases hf
      · exact h
    | true =>
      simp only [cond_true]
      rw [addO_get]
      by_cases hco : b ≤ o ∧ o < b + objs.length
      · rw [if_pos hco]
        have := hu (i, b, objs) (List.mem_cons_self ..) hfi hco
        subst this; rfl
      · rw [if_neg hco]
        refine layP_hit hf hc ?_ (fun e' he' => hu e' (List.mem_cons_of_mem _ he'))
        rcases List.mem_cons.1 h with rfl | h
        · exact absurd hc hco
        · exact h
theorem layP_miss {f : Nat → Bool} {G : Nat → AObj} {o : Nat} : ∀ {l : List Ent}, (∀ e ∈ l, f e.1 = true → ¬ Ent.cov e o) → layP f l G o = G o
  | [], _ => rfl
  | (i, b, objs) :: l, h => by
    unfold layP
    have ih := layP_miss (f := f) (G := G) (o := o) (l := l) (fun e he => h e (List.mem_cons_of_mem _ he))
    cases hfi : f i with
    | false => simpa only [cond_false] using ih
    | true =>
      simp only [cond_true]
      rw [addO_get, if_neg (show ¬ (b ≤ o ∧ o < b + objs.length) from h (i, b, objs) (List.mem_cons_self ..) hfi)]
      exact ih

/-- the facts that stand on numbers alone -/
structure Good (n0 : Nat) (tr : List TStep) : Prop where
  idx : tr.Pairwise (fun b a => b.r.i ≠ a.r.i)
  num : tr.Pairwise (fun b a => a.hi ≤ b.lo)
  msk : tr.Pairwise (fun b a => a.r.mask.testBit b.r.i = false)
  lo : ∀ x ∈ tr, n0 ≤ x.lo ∧ x.lo ≤ x.hi
  pobj : ∀ x ∈ tr, x.r.eff = false → x.hi = x.lo + x.r.objs.length

theorem Good.tail {n0 : Nat} {x : TStep} {tr : List TStep} (h : Good n0 (x :: tr)) : Good n0 tr :=
  ⟨(List.pairwise_cons.1 h.idx).2, (List.pairwise_cons.1 h.num).2, (List.pairwise_cons.1 h.msk).2, fun y hy => h.lo y (List.mem_cons_of_mem _ hy), fun y hy => h.pobj y (List.mem_cons_of_mem _ hy)⟩
theorem Good.drop {n0 : Nat} : ∀ {post tr : List TStep}, Good n0 (post ++ tr) → Good n0 tr
  | [], _, h => h
  | _ :: _, _, h => Good.drop (Good.tail h)

/-- x made o -/
def TStep.cov (x : TStep) (o : Nat) : Prop := x.lo ≤ o ∧ o < x.hi
theorem Good.one {n0 : Nat} {tr : List TStep} (h : Good n0 tr) {x y : TStep} (hx : x ∈ tr) (hy : y ∈ tr) {o : Nat} (cx : x.cov o) (cy : y.cov o) : x = y := by
  induction tr with
  | nil => cases hx
  | cons z tr ih =>
    have hn := (List.pairwise_cons.1 h.num).1
    rcases List.mem_cons.1 hx with rfl | hx'
    · rcases List.mem_cons.1 hy with rfl | hy'
      · rfl
      · have := hn y hy'; have c1 := cx.1; have c2 := cy.2; omega
    · rcases List.mem_cons.1 hy with rfl | hy'
      · have := hn x hx'; have c1 := cy.1; have c2 := cx.2; omega
      · exact ih h.tail hx' hy'
theorem Good.same {n0 : Nat} {tr : List TStep} (h : Good n0 tr) {x y : TStep} (hx : x ∈ tr) (hy : y ∈ tr) (e : x.r.i = y.r.i) : x = y := by
  induction tr with
  | nil => cases hx
  | cons z tr ih =>
    have hn := (List.pairwise_cons.1 h.idx).1
    rcases List.mem_cons.1 hx with rfl | hx'
    · rcases List.mem_cons.1 hy with rfl | hy'
      · rfl
      · exact absurd e (hn y hy')
    · rcases List.mem_cons.1 hy with rfl | hy'
      · exact absurd e.symm (hn x hx')
      · exact ih h.tail hx' hy'

/-- no effect of S laid it -/
def Un (S : Nat → Bool) (tr : List TStep) (y : TStep) : Prop := ∀ x ∈ tr, x.r.eff = true → S x.r.i = true → x.r.mask.testBit y.r.i = false

theorem mem_keepPend {m : Nat} {e : Ent} : ∀ {l : List Ent}, e ∈ keepPend m l ↔ e ∈ l ∧ m.testBit e.1 = false
  | [] => by simp [keepPend]
  | (i, b, objs) :: l => by
    unfold keepPend
    cases hb : m.testBit i with
    | true =>
      simp only [cond_true, mem_keepPend (l := l), List.mem_cons]
      constructor
      · rintro ⟨h1, h2⟩; exact ⟨.inr h1, h2⟩
      · rintro ⟨rfl | h1, h2⟩
        · rw [hb] at h2; cases h2
        · exact ⟨h1, h2⟩
    | false =>
      simp only [cond_false, mem_keepPend (l := l), List.mem_cons]
      constructor
      · rintro (rfl | ⟨h1, h2⟩)
        · exact ⟨.inl rfl, hb⟩
        · exact ⟨.inr h1, h2⟩
      · rintro ⟨rfl | h1, h2⟩
        · exact .inl rfl
        · exact .inr ⟨h1, h2⟩
theorem mem_addP {i b : Nat} {objs : List AObj} {l : List Ent} {e : Ent} : e ∈ addP i b objs l ↔ (objs ≠ [] ∧ e = (i, b, objs)) ∨ e ∈ l := by
  cases objs with
  | nil => simp [addP]
  | cons x xs => simp [addP]

theorem mem_pendS {n0 : Nat} {S : Nat → Bool} {e : Ent} : ∀ {tr : List TStep}, Good n0 tr → (e ∈ pendS S tr ↔ ∃ y ∈ tr, y.r.eff = false ∧ S y.r.i = true ∧ y.r.objs ≠ [] ∧ Un S tr y ∧ e = (y.r.i, y.lo, y.r.objs))
  | [], _ => by simp [pendS]
  | x :: tr, hg => by
    have ih := mem_pendS (S := S) (e := e) hg.tail
    have hm := (List.pairwise_cons.1 hg.msk).1
    have hmx : ∀ y ∈ tr, y.r.mask.testBit x.r.i = false := hm
    unfold pendS
    cases hS : S x.r.i with
    | false =>
      simp only [cond_false, ih]
      constructor
      · rintro ⟨y, h1, h2, h3, h4, h5, h6⟩
        refine ⟨y, List.mem_cons_of_mem _ h1, h2, h3, h4, fun z hz he hs => ?_, h6⟩
        rcases List.mem_cons.1 hz with rfl | hz
        · rw [hS] at hs; cases hs
        · exact h5 z hz he hs
      · rintro ⟨y, h1, h2, h3, h4, h5, h6⟩
        rcases List.mem_cons.1 h1 with rfl | h1
        · rw [hS] at h3; cases h3
        · exact ⟨y, h1, h2, h3, h4, fun z hz => h5 z (List.mem_cons_of_mem _ hz), h6⟩
    | true =>
      simp only [cond_true]
      cases hE : x.r.eff with
      | true =>
        simp only [cond_true, mem_keepPend, ih]
        constructor
        · rintro ⟨⟨y, h1, h2, h3, h4, h5, h6⟩, h7⟩
          refine ⟨y, List.mem_cons_of_mem _ h1, h2, h3, h4, fun z hz he hs => ?_, h6⟩
          rcases List.mem_cons.1 hz with rfl | hz
          · rw [h6] at h7; exact h7
          · exact h5 z hz he hs
        · rintro ⟨y, h1, h2, h3, h4, h5, h6⟩
          rcases List.mem_cons.1 h1 with rfl | h1
          · rw [hE] at h2; cases h2
          · exact ⟨⟨y, h1, h2, h3, h4, fun z hz => h5 z (List.mem_cons_of_mem _ hz), h6⟩, by rw [h6]; exact h5 x (List.mem_cons_self ..) hE hS⟩
      | false =>
        simp only [cond_false, mem_addP, ih]
        constructor
        · rintro (⟨h1, h2⟩ | ⟨y, h1, h2, h3, h4, h5, h6⟩)
          · refine ⟨x, List.mem_cons_self .., hE, hS, h1, fun z hz he hs => ?_, h2⟩
            rcases List.mem_cons.1 hz with rfl | hz
            · rw [hE] at he; cases he
            · exact hmx z hz
          · refine ⟨y, List.mem_cons_of_mem _ h1, h2, h3, h4, fun z hz he hs => ?_, h6⟩
            rcases List.mem_cons.1 hz with rfl | hz
            · rw [hE] at he; cases he
            · exact h5 z hz he hs
        · rintro ⟨y, h1, h2, h3, h4, h5, h6⟩
          rcases List.mem_cons.1 h1 with rfl | h1
          · exact .inl ⟨h4, h6⟩
          · exact .inr ⟨y, h1, h2, h3, h4, fun z hz => h5 z (List.mem_cons_of_mem _ hz), h6⟩

/-- the objects, whoever has run -/
noncomputable def GS (S : Nat → Bool) (H0 : Heap) (tr : List TStep) : Nat → AObj := layP (fun _ => true) (pendS S tr) (baseS S H0 tr).get
/-- the objects that an operation behind tr sees -/
noncomputable def PS (m : Nat) (H0 : Heap) (tr : List TStep) : Nat → AObj := layP (fun i => m.testBit i) (pendS (fun _ => true) tr) (baseS (fun _ => true) H0 tr).get

theorem lay_hit {n0 : Nat} {S f : Nat → Bool} {tr : List TStep} {G : Nat → AObj} (hg : Good n0 tr) {r : TStep} (hr : r ∈ tr) (he : r.r.eff = false) (hS : S r.r.i = true) (hU : Un S tr r) (hf : f r.r.i = true) {o : Nat} (hc : r.cov o) :
    layP f (pendS S tr) G o = (r.r.objs[o - r.lo]?).getD .dead := by
  have hp := hg.pobj r hr he
  have hne : r.r.objs ≠ [] := fun c => by have c1 := hc.1; have c2 := hc.2; rw [c] at hp; simp at hp; omega
  refine layP_hit (e := (r.r.i, r.lo, r.r.objs)) hf ⟨hc.1, by show o < r.lo + r.r.objs.length; rw [← hp]; exact hc.2⟩ ((mem_pendS hg).2 ⟨r, hr, he, hS, hne, hU, rfl⟩) fun e' he' _ hc' => ?_
  obtain ⟨y, h1, h2, h3, h4, h5, rfl⟩ := (mem_pendS hg).1 he'
  have : y = r := hg.one h1 hr (o := o) ⟨hc'.1, by rw [hg.pobj y h1 h2]; exact hc'.2⟩ hc
  subst this; rfl
theorem lay_miss {n0 : Nat} {S f : Nat → Bool} {tr : List TStep} {G : Nat → AObj} (hg : Good n0 tr) {o : Nat} (h : ∀ r ∈ tr, r.r.eff = false → S r.r.i = true → Un S tr r → f r.r.i = true → ¬ r.cov o) :
    layP f (pendS S tr) G o = G o := by
  refine layP_miss fun e he hf hc => ?_
  obtain ⟨y, h1, h2, h3, h4, h5, rfl⟩ := (mem_pendS hg).1 he
  exact h y h1 h2 h3 h5 hf ⟨hc.1, by rw [hg.pobj y h1 h2]; exact hc.2⟩

theorem baseS_append {S : Nat → Bool} {H0 : Heap} : ∀ {post l : List TStep}, (∀ x ∈ post, x.r.eff = true → S x.r.i = false) → baseS S H0 (post ++ l) = baseS S H0 l
  | [], l, _ => rfl
  | x :: post, l, h => by
    simp only [List.cons_append, baseS]
    have : (S x.r.i && x.r.eff) = false := by
      cases he : x.r.eff with
      | false => simp
      | true => simp [h x (List.mem_cons_self ..) he]
    rw [this]
    exact baseS_append fun y hy => h y (List.mem_cons_of_mem _ hy)
theorem baseS_congr {S S' : Nat → Bool} {H0 : Heap} : ∀ {l : List TStep}, (∀ x ∈ l, x.r.eff = true → S x.r.i = S' x.r.i) → baseS S H0 l = baseS S' H0 l
  | [], _ => rfl
  | x :: l, h => by
    simp only [baseS]
    have : (S x.r.i && x.r.eff) = (S' x.r.i && x.r.eff) := by
      cases he : x.r.eff with
      | false => simp
      | true => rw [h x (List.mem_cons_self ..) he]
    rw [this, baseS_congr fun y hy => h y (List.mem_cons_of_mem _ hy)]
/-- the last effect of S -/
theorem baseS_cases {S : Nat → Bool} {H0 : Heap} : ∀ (l : List TStep), (∀ x ∈ l, x.r.eff = true → S x.r.i = false) ∨
    ∃ post e pre, l = post ++ e :: pre ∧ e.r.eff = true ∧ S e.r.i = true ∧ (∀ x ∈ post, x.r.eff = true → S x.r.i = false) ∧ baseS S H0 l = e.r.post
  | [] => .inl fun x h => by cases h
  | x :: l => by
    by_cases hx : (S x.r.i && x.r.eff) = true
    · simp only [Bool.and_eq_true] at hx
      exact .inr ⟨[], x, l, rfl, hx.2, hx.1, fun y hy => (by cases hy), by simp [baseS, hx.1, hx.2]⟩
    · have hx' : x.r.eff = true → S x.r.i = false := fun he => by
        cases hs : S x.r.i with
        | false => rfl
        | true => simp [he, hs] at hx
      rcases baseS_cases (S := S) (H0 := H0) l with h | ⟨post, e, pre, h1, h2, h3, h4, h5⟩
      · refine .inl fun y hy he => ?_
        rcases List.mem_cons.1 hy with rfl | hy
        · exact hx' he
        · exact h y hy he
      · refine .inr ⟨x :: post, e, pre, by rw [h1]; rfl, h2, h3, fun y hy he => ?_, ?_⟩
        · rcases List.mem_cons.1 hy with rfl | hy
          · exact hx' he
          · exact h4 y hy he
        · simp only [baseS]
          rw [Bool.not_eq_true] at hx
          rw [hx]; exact h5
/-- the first effect that is not in S -/
theorem first_out {S : Nat → Bool} : ∀ (l : List TStep), (∀ x ∈ l, x.r.eff = true → S x.r.i = true) ∨
    ∃ mid e pre, l = mid ++ e :: pre ∧ e.r.eff = true ∧ S e.r.i = false ∧ (∀ x ∈ pre, x.r.eff = true → S x.r.i = true)
  | [] => .inl fun x h => by cases h
  | x :: l => by
    rcases first_out (S := S) l with h | ⟨mid, e, pre, h1, h2, h3, h4⟩
    · by_cases hx : x.r.eff = true ∧ S x.r.i = false
      · exact .inr ⟨[], x, l, rfl, hx.1, hx.2, h⟩
      · refine .inl fun y hy he => ?_
        rcases List.mem_cons.1 hy with rfl | hy
        · cases hs : S y.r.i with
          | true => rfl
          | false => exact absurd ⟨he, hs⟩ hx
        · exact h y hy he
    · exact .inr ⟨x :: mid, e, pre, by rw [h1]; rfl, h2, h3, h4⟩
end Go.Gm
