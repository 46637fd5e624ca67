/- What the checks of a region tell. -/
import Derived.Test.YtafggfmidkpnbaaGreatAbsDraw6
namespace Go.Gm
section
variable {P : Program} {opt : Opts} {K : Fns} {n n0 : Nat} {ops : List Oper} {masks : List Nat} {tr : List TStep}

theorem mem_mkD {q : DOp} : ∀ {l : List (Oper × Nat)} {k : Nat}, q ∈ mkD P opt K n ops l k ↔ ∃ j o m, l[j]? = some (o, m) ∧ q = mkOne P opt K n ops o m (k + j)
  | [], k => by simp [mkD]
  | (o, m) :: l, k => by
    unfold mkD
    rw [List.mem_cons, mem_mkD (l := l) (k := k + 1)]
    constructor
    · rintro (h | ⟨j, o', m', h1, h2⟩)
      · exact ⟨0, o, m, by simp, by simpa using h⟩
      · exact ⟨j + 1, o', m', by simpa using h1, by rw [h2]; congr 1; omega⟩
    · rintro ⟨j, o', m', h1, h2⟩
      cases j with
      | zero => simp only [List.getElem?_cons_zero, Option.some.injEq, Prod.mk.injEq] at h1; obtain ⟨rfl, rfl⟩ := h1; exact .inl (by simpa using h2)
      | succ j => exact .inr ⟨j, o', m', by simpa using h1, by rw [h2]; congr 1; omega⟩
theorem mkD_idx : ∀ {l : List (Oper × Nat)} {k : Nat}, (mkD P opt K n ops l k).Pairwise (fun a b => a.i ≠ b.i) ∧ ∀ q ∈ mkD P opt K n ops l k, k ≤ q.i
  | [], k => ⟨.nil, nofun⟩
  | (o, m) :: l, k => by
    obtain ⟨h1, h2⟩ := mkD_idx (l := l) (k := k + 1)
    unfold mkD
    refine ⟨List.pairwise_cons.2 ⟨fun b hb e => ?_, h1⟩, fun q hq => ?_⟩
    · have := h2 b hb; simp only [mkOne] at e; omega
    · rcases List.mem_cons.1 hq with rfl | hq
      · simp [mkOne]
      · have := h2 q hq; omega

/-- all that ran -/
structure Full (P : Program) (opt : Opts) (K : Fns) (n : Nat) (ops : List Oper) (masks : List Nat) (tr : List TStep) : Prop where
  op : ∀ x ∈ tr, ∃ o m, ops[x.q.i]? = some o ∧ masks[x.q.i]? = some m ∧ x.q = mkOne P opt K n ops o m x.q.i
  all : ∀ i o, ops[i]? = some o → ∃ x ∈ tr, x.q.i = i
  idx : tr.Pairwise (fun b a => b.q.i ≠ a.q.i)

theorem full_of (hl : masks.length = ops.length) (h : (tr.map TStep.q).Perm (mkD P opt K n ops (ops.zip masks) 0)) : Full P opt K n ops masks tr := by
  refine ⟨fun x hx => ?_, fun i o ho => ?_, ?_⟩
  · have := h.mem_iff.1 (List.mem_map_of_mem (f := TStep.q) hx)
    obtain ⟨j, o, m, h1, h2⟩ := mem_mkD.1 this
    rw [Nat.zero_add] at h2
    have hi : x.q.i = j := by rw [h2]; rfl
    rw [List.getElem?_zip_eq_some] at h1
    rw [hi]
    exact ⟨o, m, h1.1, h1.2, h2⟩
  · have hlt : i < masks.length := by rw [hl]; exact (List.getElem?_eq_some_iff.1 ho).1
    have : mkOne P opt K n ops o masks[i] i ∈ tr.map TStep.q := h.mem_iff.2 (mem_mkD.2 ⟨i, o, masks[i], by rw [List.getElem?_zip_eq_some]; exact ⟨ho, List.getElem?_eq_getElem hlt⟩, by rw [Nat.zero_add]⟩)
    obtain ⟨x, hx, e⟩ := List.mem_map.1 this
    exact ⟨x, hx, by rw [e]; rfl⟩
  · have h1 := (mkD_idx (P := P) (opt := opt) (K := K) (n := n) (ops := ops) (l := ops.zip masks) (k := 0)).1
    have h2 := (h.pairwise_iff (R := fun a b => a.i ≠ b.i) (fun {a b} h => Ne.symm h)).2 h1
    exact (List.pairwise_map (f := TStep.q) (R := fun a b => a.i ≠ b.i)).1 h2

theorem bitsOf_bit : ∀ {rs : List DRec} {j : Nat}, (bitsOf rs).testBit j = true ↔ ∃ r ∈ rs, r.i = j
  | [], j => by simp [bitsOf]
  | r :: rs, j => by
    unfold bitsOf
    rw [Nat.testBit_or, Bool.or_eq_true, bitsOf_bit, Nat.testBit_two_pow]
    simp
theorem madeOk_spec {m o : Nat} : ∀ {rs : List DRec}, madeOk n0 m o rs = true → o < n0 ∨ ∃ r ∈ rs, m.testBit r.i = true ∧ r.pre.n ≤ o ∧ o < r.post.n
  | [], h => .inl (by simpa [madeOk] using h)
  | r :: rs, h => by
    unfold madeOk at h
    simp only [Bool.or_eq_true, Bool.and_eq_true] at h
    rcases h with ⟨⟨h1, h2⟩, h3⟩ | h
    · exact .inr ⟨r, List.mem_cons_self .., h1, by simpa using h2, by simpa using h3⟩
    · rcases madeOk_spec h with h | ⟨r', h1, h2⟩
      · exact .inl h
      · exact .inr ⟨r', List.mem_cons_of_mem _ h1, h2⟩
theorem madesOk_spec {b : DRec} {rs : List DRec} : ∀ {l : List Nat}, madesOk n0 b rs l = true → ∀ o ∈ l, madeOk n0 b.mask o rs = true
  | [], _, o, ho => by cases ho
  | x :: l, h, o, ho => by
    unfold madesOk at h
    simp only [Bool.and_eq_true] at h
    rcases List.mem_cons.1 ho with rfl | ho
    · exact h.1
    · exact madesOk_spec h.2 o ho
theorem pairsOk_spec {b : DRec} : ∀ {rs : List DRec}, pairsOk b rs = true → ∀ a ∈ rs, b.mask.testBit a.i = true ∨ pairOk a b = true
  | [], _, a, ha => by cases ha
  | r :: rs, h, a, ha => by
    unfold pairsOk at h
    simp only [Bool.and_eq_true, Bool.or_eq_true] at h
    rcases List.mem_cons.1 ha with rfl | ha
    · exact h.1
    · exact pairsOk_spec h.2 a ha

/-- what the pairs allow -/
structure Fair (n0 : Nat) (tr : List TStep) : Prop where
  bits : ∀ b ∈ tr, ∀ j, b.r.mask.testBit j = true → ∃ x ∈ tr, x.r.i = j
  msk : tr.Pairwise (fun b a => a.r.mask.testBit b.r.i = false)
  pair : tr.Pairwise (fun b a => b.r.mask.testBit a.r.i = true ∨ pairOk a.r b.r = true)
  made : ∀ b ∈ tr, ∀ o ∈ b.r.reads, o < n0 ∨ ∃ r ∈ tr, b.r.mask.testBit r.r.i = true ∧ r.cov o

theorem recs_spec : ∀ {tr : List TStep}, recsOk n0 (tr.map (·.r)) = true → tr.Pairwise (fun b a => b.r.i ≠ a.r.i) → Fair n0 tr
  | [], _, _ => ⟨nofun, .nil, .nil, nofun⟩
  | b :: rs, h, hi => by
    simp only [List.map_cons, recsOk, Bool.and_eq_true] at h
    obtain ⟨⟨⟨h1, h2⟩, h3⟩, h4⟩ := h
    rw [beq_iff] at h1
    obtain ⟨hi1, hi2⟩ := List.pairwise_cons.1 hi
    have ih := recs_spec h4 hi2
    have hb : ∀ j, b.r.mask.testBit j = true → ∃ x ∈ rs, x.r.i = j := fun j hj => by
      rw [← h1, Nat.testBit_and, Bool.and_eq_true, bitsOf_bit] at hj
      obtain ⟨r, hr, e⟩ := hj.2
      obtain ⟨x, hx, rfl⟩ := List.mem_map.1 hr
      exact ⟨x, hx, e⟩
    refine ⟨fun x hx j hj => ?_, List.pairwise_cons.2 ⟨fun a ha => ?_, ih.msk⟩, List.pairwise_cons.2 ⟨fun a ha => ?_, ih.pair⟩, fun x hx o ho => ?_⟩
    · rcases List.mem_cons.1 hx with rfl | hx
      · obtain ⟨y, h1, h2⟩ := hb j hj; exact ⟨y, List.mem_cons_of_mem _ h1, h2⟩
      · obtain ⟨y, h1, h2⟩ := ih.bits x hx j hj; exact ⟨y, List.mem_cons_of_mem _ h1, h2⟩
    · cases hm : a.r.mask.testBit b.r.i with
      | false => rfl
      | true =>
        obtain ⟨y, h1, h2⟩ := ih.bits a ha _ hm
        exact absurd h2.symm (hi1 y h1)
    · exact pairsOk_spec h2 a.r (List.mem_map_of_mem (f := TStep.r) ha)
    · rcases List.mem_cons.1 hx with rfl | hx
      · rcases madeOk_spec (madesOk_spec h3 o ho) with h | ⟨r, g1, g2, g3⟩
        · exact .inl h
        · obtain ⟨y, hy, rfl⟩ := List.mem_map.1 g1
          exact .inr ⟨y, List.mem_cons_of_mem _ hy, g2, g3⟩
      · rcases ih.made x hx o ho with h | ⟨r, g1, g2⟩
        · exact .inl h
        · exact .inr ⟨r, List.mem_cons_of_mem _ g1, g2⟩

/-- temporaries -/
def Apart (ops : List Oper) (o o' : Oper) : Prop := (∀ d, o'.dst = some d → d ∉ looks ops o) ∧ (∀ d, o.dst = some d → d ∉ looks ops o')
theorem memN_iff' {x : Nat} : ∀ {l : List Nat}, memN x l = true ↔ x ∈ l
  | [] => by simp [memN]
  | y :: l => by simp [memN, memN_iff' (l := l)]
theorem before_spec {o : Oper} {m : Nat} : ∀ {l : List Oper} {i k : Nat}, tmpsOk.before ops o m (looks ops o) i k l = true → ∀ j o', j < k → l[j]? = some o' → m.testBit (i + j) = true ∨ Apart ops o o'
  | _, _, 0, _, j, o', hj, _ => by omega
  | [], i, k + 1, _, j, o', _, ho => by simp at ho
  | x :: l, i, k + 1, h, j, o', hj, ho => by
    unfold tmpsOk.before at h
    simp only [Bool.and_eq_true, Bool.or_eq_true, Bool.not_eq_true', Bool.or_eq_false_iff] at h
    cases j with
    | zero =>
      simp only [List.getElem?_cons_zero, Option.some.injEq] at ho
      subst ho
      rcases h.1 with h1 | ⟨h1, h2⟩
      · exact .inl h1
      · refine .inr ⟨fun d hd hm => ?_, fun d hd hm => ?_⟩
        · rw [hd] at h1
          rw [← memN_iff'] at hm
          simp only [hm] at h1; cases h1
        · rw [hd] at h2
          rw [← memN_iff'] at hm
          simp only [hm] at h2; cases h2
    | succ j =>
      have := before_spec h.2 j o' (by omega) (by simpa using ho)
      rw [show i + (j + 1) = i + 1 + j from by omega]; exact this
theorem tmps_spec : ∀ {l : List Oper} {k : Nat}, tmpsOk ops masks k l = true → ∀ j o, l[j]? = some o → ∃ m, masks[k + j]? = some m ∧ ∀ i o', i < k + j → ops[i]? = some o' → m.testBit i = true ∨ Apart ops o o'
  | [], k, _, j, o, ho => by simp at ho
  | x :: l, k, h, j, o, ho => by
    unfold tmpsOk at h
    rw [Bool.and_eq_true] at h
    cases j with
    | zero =>
      simp only [List.getElem?_cons_zero, Option.some.injEq] at ho
      subst ho
      have h1 := h.1
      split at h1
      · rename_i m hm
        rw [nth_eq] at hm
        refine ⟨m, by simpa using hm, fun i o' hi ho' => ?_⟩
        have := before_spec h1 i o' (by simpa using hi) ho'
        rwa [Nat.zero_add] at this
      · cases h1
    | succ j =>
      obtain ⟨m, g1, g2⟩ := tmps_spec h.2 j o (by simpa using ho)
      exact ⟨m, by rw [show k + (j + 1) = k + 1 + j from by omega]; exact g1, fun i o' hi => g2 i o' (by omega)⟩
end
end Go.Gm
