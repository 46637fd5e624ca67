/- A region, whoever runs first: one operation. -/
import Derived.Test.YtafggfmidkpnbaaGreatAbsDraw8
namespace Go.Gm

/-- what stands of a region's run -/
structure Reg (P : Program) (opt : Opts) (K : Fns) (n : Nat) (ops : Array Oper) (masks : List Nat) (s0 : St) (tr : List TStep) : Prop where
  mks : masksOf ops.toList [] = some masks
  tmps : tmpsOk ops.toList masks 0 ops.toList = true
  nodef : ∀ (i : Nat) o, ops[i]? = some o → (∀ c, o.op ≠ .defer c) ∧ (∀ cs b, o.op ≠ .select cs b)
  full : Full P opt K n ops.toList masks tr
  good : Good s0.H.n tr
  fair : Fair s0.H.n tr
  run : AllF s0.H s0.T tr
  idx : ∀ x ∈ tr, x.r.i = x.q.i
  top : ∀ o, s0.H.n ≤ o → s0.H.get o = .dead
  bound : s0.H.n ≤ 1152921504606846976

/-- the state where the operations of S have run -/
structure Inv (rl : Option Nat) (n : Nat) (s0 : St) (tr : List TStep) (F : Fo) (S : Nat → Bool) (w : World) (O : Nat → Prop) (β : Nat → Option Loc) (a : Act) : Prop where
  sr : SR w O F.blk β (GS S s0.H tr)
  fr : FrR w (bar O F) β n (frS S s0.T tr) a.tmps
  dfs : All2 (DfR w (bar O F) β) s0.D a.defers
  rd : RdR β s0.rd rl
  has : ∀ o, β o ≠ none → o < (baseS S s0.H tr).n ∨ ∃ y ∈ tr, y.r.eff = false ∧ S y.r.i = true ∧ y.cov o
  free : ∀ y ∈ tr, y.r.eff = false → S y.r.i = false → ∀ o, y.cov o → β o = none
  num : ∀ o, F.num o → o < s0.H.n ∧ β o = none
  top : ∀ o, (baseS S s0.H tr).n ≤ o → (baseS S s0.H tr).get o = .dead
  dead : ∀ r ∈ tr, r.r.eff = false → S r.r.i = true → Un S tr r → ∀ o, r.cov o → (baseS S s0.H tr).get o = .dead

theorem not_alive {x : AObj} (h : ¬ x.alive = true) : x = .dead := by cases x <;> simp [AObj.alive] at h ⊢

theorem FrR.puts {w : World} {X : Nat → Prop} {β : Nat → Option Loc} {n : Nat} {T : Fr} {a : Act} (h : FrR w X β n T a.tmps) {x : AV} {v : Value} (hv : Rel w X β x v) (d : Option Tmp) : FrR w X β n (putT n d T x) (a.put d v).tmps := by
  rw [(put_tmps a d v).1]; exact h.put hv d

section
variable {P : Program} {opt : Opts} {K : Fns} {n : Nat} {ops : Array Oper} {masks : List Nat} {s0 : St} {tr post pre : List TStep} {y : TStep} {rl : Option Nat} {F : Fo} {S : Nat → Bool} {w : World} {O : Nat → Prop} {β : Nat → Option Loc} {a : Act}

theorem pw_at {α : Type} {R : α → α → Prop} {A B : List α} {b c : α} (h : (A ++ b :: B).Pairwise R) (hc : c ∈ B) : R b c :=
  (List.pairwise_cons.1 (List.pairwise_append.1 h).2.1).1 c hc
theorem pw_before {α : Type} {R : α → α → Prop} {A B : List α} {b c : α} (h : (A ++ b :: B).Pairwise R) (hc : c ∈ A) : R c b :=
  (List.pairwise_append.1 h).2.2 c hc b (List.mem_cons_self ..)

/-- ready: what must be ahead of it has run -/
structure Ready (ops : Array Oper) (S : Nat → Bool) (y : TStep) (o : Oper) : Prop where
  closed : Closed ops (fun i => S i = true)
  op : ops[y.r.i]? = some o
  out : S y.r.i = false
  after : ∀ e ∈ o.after.toList, Region.binds .any e = true → S e.on = true

theorem Reg.mkOf (h : Reg P opt K n ops masks s0 tr) {x : TStep} (hx : x ∈ tr) : ∃ o m, ops[x.r.i]? = some o ∧ masks[x.r.i]? = some m ∧ x.q = mkOne P opt K n ops.toList o m x.r.i ∧ x.r.mask = m := by
  obtain ⟨o, m, h1, h2, h3⟩ := h.full.op x hx
  rw [← h.idx x hx] at h1 h2 h3
  obtain ⟨A, B, rfl⟩ := List.append_of_mem hx
  have := (AllF.at h.run).mask
  exact ⟨o, m, by rw [← Array.getElem?_toList]; exact h1, h2, h3, by rw [this, h3]; rfl⟩
theorem Reg.puts (h : Reg P opt K n ops masks s0 tr) {x : TStep} (hx : x ∈ tr) : ∃ d, Puts n x d := by
  obtain ⟨o, m, _, _, h3, _⟩ := h.mkOf hx
  exact ⟨o.dst, by unfold Puts; rw [h3]; rfl⟩
theorem Reg.inS (h : Reg P opt K n ops masks s0 tr) (hc : Closed ops (fun i => S i = true)) {x : TStep} (hx : x ∈ tr) (hS : S x.r.i = true) {j : Nat} (hj : x.r.mask.testBit j = true) : S j = true := by
  obtain ⟨o, m, h1, h2, _, h4⟩ := h.mkOf hx
  rw [h4] at hj
  exact mask_in h.mks hc x.r.i m o h2 h1 (fun e he hb => hc _ o h1 hS e he hb) j hj
theorem Reg.ready (h : Reg P opt K n ops masks s0 tr) {o : Oper} (hr : Ready ops S y o) (hy : y ∈ tr) {j : Nat} (hj : y.r.mask.testBit j = true) : S j = true := by
  obtain ⟨o', m, h1, h2, _, h4⟩ := h.mkOf hy
  rw [hr.op] at h1; cases h1
  rw [h4] at hj
  exact mask_in h.mks hr.closed y.r.i m o h2 hr.op hr.after j hj

/-- whoever shares a temporary with it -/
theorem Reg.shared (h : Reg P opt K n ops masks s0 tr) {x z : TStep} (hx : x ∈ tr) (hz : z ∈ tr) {ox oz : Oper} (ho : ops[x.r.i]? = some ox) (ho' : ops[z.r.i]? = some oz) (hne : x.r.i ≠ z.r.i) {t : Nat} (ht : oz.dst = some t) (hl : t ∈ looks ops.toList ox) :
    x.r.mask.testBit z.r.i = true ∨ z.r.mask.testBit x.r.i = true := by
  obtain ⟨o1, m1, a1, a2, _, a4⟩ := h.mkOf hx
  obtain ⟨o2, m2, b1, b2, _, b4⟩ := h.mkOf hz
  rw [ho] at a1; cases a1
  rw [ho'] at b1; cases b1
  rw [a4, b4]
  rcases Nat.lt_or_ge z.r.i x.r.i with hlt | hge
  · obtain ⟨m, c1, c2⟩ := tmps_spec h.tmps x.r.i ox (by rw [Array.getElem?_toList]; exact ho)
    rw [Nat.zero_add, a2] at c1; cases c1
    rcases c2 z.r.i oz (by omega) (by rw [Array.getElem?_toList]; exact ho') with c | c
    · exact .inl c
    · exact absurd hl (c.1 t ht)
  · obtain ⟨m, c1, c2⟩ := tmps_spec h.tmps z.r.i oz (by rw [Array.getElem?_toList]; exact ho')
    rw [Nat.zero_add, b2] at c1; cases c1
    rcases c2 x.r.i ox (by omega) (by rw [Array.getElem?_toList]; exact ho) with c | c
    · exact .inr c
    · exact absurd hl (c.2 t ht)

theorem Puts.dst {x : TStep} (h : Reg P opt K n ops masks s0 tr) (hx : x ∈ tr) {t : Tmp} (hp : Puts n x (some t)) (ht : t < n) : ∃ o, ops[x.r.i]? = some o ∧ o.dst = some t := by
  obtain ⟨o, m, h1, _, h3, _⟩ := h.mkOf hx
  refine ⟨o, h1, ?_⟩
  unfold Puts at hp
  rw [h3] at hp
  have e : putT n o.dst = putT n (some t) := hp
  have e1 := congrFun (congrFun (congrFun e (fun _ => .fv .undef)) (.fv .nilp)) t
  rw [putT_same ht] at e1
  cases hd : o.dst with
  | none => rw [hd] at e1; simp [putT] at e1
  | some d =>
    rw [hd, putT_eq] at e1
    by_cases c : t = d ∧ d < n
    · rw [c.1]
    · rw [if_neg c] at e1; simp at e1

/-- a temporary that a ready operation looks at -/
theorem Reg.agree (h : Reg P opt K n ops masks s0 (post ++ y :: pre)) {o : Oper} (hr : Ready ops S y o) {t : Tmp} (hl : t ∈ looks ops.toList o) (ht : t < n) : frS S s0.T (post ++ y :: pre) t = frS (fun _ => true) s0.T pre t := by
  have hy : y ∈ post ++ y :: pre := List.mem_append_right _ (List.mem_cons_self ..)
  have hsub : ∀ x, x ∈ pre → x ∈ post ++ y :: pre := fun x hx => List.mem_append_right _ (List.mem_cons_of_mem _ hx)
  have hid := h.good.idx
  rw [frS_post (fun x hx => h.puts (List.mem_append_left _ hx))]
  · have e : frS S s0.T (y :: pre) = frS S s0.T pre := by
      rw [show frS S s0.T (y :: pre) = (bif S y.r.i then y.q.put (frS S s0.T pre) y.r.val else frS S s0.T pre) from rfl, hr.out]; rfl
    rw [e]
    refine frS_at (fun x hx => h.puts (hsub x hx)) (fun x hx hp => ?_) ht
    obtain ⟨ox, h1, h2⟩ := Puts.dst h (hsub x hx) hp ht
    rcases h.shared hy (hsub x hx) hr.op h1 (show y.r.i ≠ x.r.i from pw_at (R := fun b a : TStep => b.r.i ≠ a.r.i) hid hx) h2 hl with c | c
    · rw [h.ready hr hy c]
    · have : x.r.mask.testBit y.r.i = false := pw_at (R := fun b a : TStep => a.r.mask.testBit b.r.i = false) h.fair.msk hx
      rw [this] at c; cases c
  · intro x hx hs hp
    obtain ⟨ox, h1, h2⟩ := Puts.dst h (List.mem_append_left _ hx) hp ht
    rcases h.shared hy (List.mem_append_left _ hx) hr.op h1 (fun e => pw_before (R := fun b a : TStep => b.r.i ≠ a.r.i) hid hx e.symm) h2 hl with c | c
    · have : y.r.mask.testBit x.r.i = false := pw_before (R := fun b a : TStep => a.r.mask.testBit b.r.i = false) h.fair.msk hx
      rw [this] at c; cases c
    · have := h.inS hr.closed (List.mem_append_left _ hx) hs c
      rw [hr.out] at this; cases this
theorem looks_op {o : Oper} {t : Nat} (h : t ∈ tmpsOf o.op) : t ∈ looks ops.toList o := List.mem_append_left _ (List.mem_append_left _ h)
theorem looks_dst {o : Oper} {t : Nat} (h : o.dst = some t) : t ∈ looks ops.toList o := List.mem_append_left _ (List.mem_append_right _ (by rw [h]; simp))
theorem looks_guard {o : Oper} {g : Nat} {b : Bool} {o' : Oper} {d : Nat} (h : o.guard = some (g, b)) (h1 : ops.toList[g]? = some o') (h2 : o'.dst = some d) : d ∈ looks ops.toList o :=
  List.mem_append_right _ (by simp only [h, h1, Option.bind_some, h2]; simp)

/-- out of the frame's bounds: nothing is there -/
theorem frS_out {l : List TStep} (hp : ∀ x ∈ l, ∃ d, Puts n x d) {t : Tmp} (ht : ¬ t < n) : frS S s0.T l t = s0.T t := by
  induction l with
  | nil => rfl
  | cons x l ih =>
    have ih := ih fun z hz => hp z (List.mem_cons_of_mem _ hz)
    rw [show frS S s0.T (x :: l) = (bif S x.r.i then x.q.put (frS S s0.T l) x.r.val else frS S s0.T l) from rfl]
    cases S x.r.i with
    | false => exact ih
    | true =>
      simp only [cond_true]
      obtain ⟨d, hd⟩ := hp x (List.mem_cons_self ..)
      rw [hd]
      cases d with
      | none => exact ih
      | some d =>
        rw [putT_eq, if_neg (fun (c : t = d ∧ d < n) => ht (by rw [c.1]; exact c.2))]; exact ih
theorem Reg.agree' (h : Reg P opt K n ops masks s0 (post ++ y :: pre)) {o : Oper} (hr : Ready ops S y o) {t : Tmp} (hl : t ∈ looks ops.toList o) : frS S s0.T (post ++ y :: pre) t = frS (fun _ => true) s0.T pre t := by
  by_cases ht : t < n
  · exact h.agree hr hl ht
  · rw [frS_out (fun x hx => h.puts hx) ht, frS_out (fun x hx => h.puts (List.mem_append_right _ (List.mem_cons_of_mem _ hx))) ht]
theorem Reg.restrEq (h : Reg P opt K n ops masks s0 (post ++ y :: pre)) {o : Oper} (hr : Ready ops S y o) : restr (tmpsOf o.op) (frS (fun _ => true) s0.T pre) = restr (tmpsOf o.op) (frS S s0.T (post ++ y :: pre)) := by
  funext t
  unfold restr
  cases hm : memN t (tmpsOf o.op) with
  | false => rfl
  | true => simp only [cond_true]; exact (h.agree' hr (looks_op (memN_iff'.1 hm))).symm
theorem Reg.wantEq (h : Reg P opt K n ops masks s0 (post ++ y :: pre)) {o : Oper} (hr : Ready ops S y o) : wantedA n ops.toList o (frS (fun _ => true) s0.T pre) = wantedA n ops.toList o (frS S s0.T (post ++ y :: pre)) :=
  wantedA_congr fun _ _ _ _ h1 h2 h3 => (h.agree' hr (looks_guard h1 h2 h3)).symm
theorem Reg.frWith (h : Reg P opt K n ops masks s0 (post ++ y :: pre)) {o : Oper} (hr : Ready ops S y o) : frS (withI S y.r.i) s0.T (post ++ y :: pre) = putT n o.dst (frS S s0.T (post ++ y :: pre)) y.r.val := by
  have hy : y ∈ post ++ y :: pre := List.mem_append_right _ (List.mem_cons_self ..)
  have hd : Puts n y o.dst := by
    obtain ⟨o', m, h1, _, h3, _⟩ := h.mkOf hy
    rw [hr.op] at h1; cases h1
    unfold Puts; rw [h3]; rfl
  refine frS_with h.good.idx (fun x hx => h.puts hx) hr.out hd fun t ht hlt x hx hs hp => ?_
  obtain ⟨ox, h1, h2⟩ := Puts.dst h (List.mem_append_left _ hx) hp hlt
  rcases h.shared hy (List.mem_append_left _ hx) hr.op h1 (fun e => pw_before (R := fun b a : TStep => b.r.i ≠ a.r.i) h.good.idx hx e.symm) h2 (looks_dst ht) with c | c
  · have : y.r.mask.testBit x.r.i = false := pw_before (R := fun b a : TStep => a.r.mask.testBit b.r.i = false) h.fair.msk hx
    rw [this] at c; cases c
  · have := h.inS hr.closed (List.mem_append_left _ hx) hs c
    rw [hr.out] at this; cases this
end
end Go.Gm
