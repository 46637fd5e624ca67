/- Who is ahead of whom. -/
import Derived.Test.YtafggfmidkpnbaaGreatAbsDraw
namespace Go.Gm

theorem maskOf_bit {masks : List Nat} : ∀ {es : List Edge} {m j : Nat}, maskOf masks es = some m → m.testBit j = true →
    ∃ e ∈ es, Region.binds .any e = true ∧ ∃ x, masks[e.on]? = some x ∧ (j = e.on ∨ x.testBit j = true)
  | [], m, j, h, hb => by simp only [maskOf, Option.some.injEq] at h; subst h; simp at hb
  | e :: es, m, j, h, hb => by
    unfold maskOf at h
    cases hm : maskOf masks es with
    | none => simp [hm] at h
    | some m0 =>
      simp only [hm] at h
      cases hbi : Region.binds .any e with
      | false =>
        simp only [hbi, Option.some.injEq] at h; subst h
        obtain ⟨e', h1, h2⟩ := maskOf_bit hm hb
        exact ⟨e', by simp [h1], h2⟩
      | true =>
        simp only [hbi] at h
        cases hn : nth masks e.on with
        | none => simp [hn] at h
        | some x =>
          simp only [hn, Option.some.injEq] at h; subst h
          rw [nth_eq] at hn
          rw [Nat.testBit_or, Nat.testBit_or, Bool.or_eq_true, Bool.or_eq_true] at hb
          rcases hb with (hb | hb) | hb
          · obtain ⟨e', h1, h2⟩ := maskOf_bit hm hb
            exact ⟨e', by simp [h1], h2⟩
          · exact ⟨e, by simp, hbi, x, hn, .inr hb⟩
          · rw [Nat.testBit_two_pow] at hb
            exact ⟨e, by simp, hbi, x, hn, .inl (by simpa using hb : e.on = j).symm⟩

theorem masksOf_spec : ∀ {ops : List Oper} {acc M : List Nat}, masksOf ops acc = some M → M.length = acc.length + ops.length ∧ (∀ (i x : Nat), acc[i]? = some x → M[i]? = some x) ∧
    ∀ (k : Nat) (o : Oper), ops[k]? = some o → ∃ m, M[acc.length + k]? = some m ∧ maskOf (M.take (acc.length + k)) o.after.toList = some m
  | [], acc, M, h => by
    simp only [masksOf, Option.some.injEq] at h; subst h
    exact ⟨by simp, fun i x h => h, fun k o h => by simp at h⟩
  | o :: ops, acc, M, h => by
    unfold masksOf at h
    cases hm : maskOf acc o.after.toList with
    | none => simp [hm] at h
    | some m =>
      simp only [hm, appN_eq] at h
      obtain ⟨h1, h2, h3⟩ := masksOf_spec h
      simp only [List.length_append, List.length_cons, List.length_nil] at h1 h3
      refine ⟨by rw [h1]; simp; omega, fun i x hi => h2 i x (by rw [List.getElem?_append_left (List.getElem?_eq_some_iff.1 hi).1]; exact hi), fun k o' hk => ?_⟩
      cases k with
      | zero =>
        simp at hk; subst hk
        refine ⟨m, h2 _ _ (by simp), ?_⟩
        have : M.take acc.length = acc := by
          apply List.ext_getElem?
          intro i
          rw [List.getElem?_take]
          split
          · rename_i hlt
            rw [h2 i acc[i] (by rw [List.getElem?_append_left hlt]; simp [hlt])]; simp [hlt]
          · rw [List.getElem?_eq_none (by omega)]
        rw [Nat.add_zero, this]; exact hm
      | succ k =>
        obtain ⟨m', q1, q2⟩ := h3 k o' (by simpa using hk)
        rw [show acc.length + (k + 1) = acc.length + (0 + 1) + k from by omega]
        exact ⟨m', q1, q2⟩

/-- a set of operations that have run -/
def Closed (ops : Array Oper) (S : Nat → Prop) : Prop := ∀ (i : Nat) (o : Oper), ops[i]? = some o → S i → ∀ e ∈ o.after.toList, Region.binds .any e = true → S e.on

theorem mask_lt {ops : List Oper} {M : List Nat} (h : masksOf ops [] = some M) : ∀ (i m j : Nat), M[i]? = some m → m.testBit j = true → j < i := by
  obtain ⟨h1, h2, h3⟩ := masksOf_spec h
  intro i
  induction i using Nat.strongRecOn with
  | _ i ih =>
    intro m j hm hb
    have hi : i < ops.length := by have := (List.getElem?_eq_some_iff.1 hm).1; simpa [h1] using this
    obtain ⟨m', q1, q2⟩ := h3 i ops[i] (by simp [hi])
    simp only [List.length_nil, Nat.zero_add] at q1 q2
    rw [hm] at q1; cases q1
    obtain ⟨e, _, _, x, hx, hj⟩ := maskOf_bit q2 hb
    rw [List.getElem?_take] at hx
    split at hx
    · rename_i hlt
      rcases hj with rfl | hj
      · exact hlt
      · exact Nat.lt_trans (ih e.on hlt x j hx hj) hlt
    · cases hx

theorem mask_in {ops : Array Oper} {M : List Nat} (h : masksOf ops.toList [] = some M) {S : Nat → Prop} (hS : Closed ops S) : ∀ (i m : Nat) (o : Oper), M[i]? = some m → ops[i]? = some o →
    (∀ e ∈ o.after.toList, Region.binds .any e = true → S e.on) → ∀ j, m.testBit j = true → S j := by
  obtain ⟨h1, h2, h3⟩ := masksOf_spec h
  intro i
  induction i using Nat.strongRecOn with
  | _ i ih =>
    intro m o hm ho he j hb
    obtain ⟨m', q1, q2⟩ := h3 i o (by rw [Array.getElem?_toList]; exact ho)
    simp only [List.length_nil, Nat.zero_add] at q1 q2
    rw [hm] at q1; cases q1
    obtain ⟨e, he1, he2, x, hx, hj⟩ := maskOf_bit q2 hb
    have hSe := he e he1 he2
    rcases hj with rfl | hj
    · exact hSe
    · rw [List.getElem?_take] at hx
      split at hx
      · rename_i hlt
        have hlt2 : e.on < ops.size := by have := (List.getElem?_eq_some_iff.1 hx).1; simpa [h1] using this
        have hoe : ops[e.on]? = some ops[e.on] := by simp [hlt2]
        exact ih e.on hlt x ops[e.on] hx hoe (fun e' h1' h2' => hS e.on _ hoe hSe e' h1' h2') j hj
      · cases hx
end Go.Gm
