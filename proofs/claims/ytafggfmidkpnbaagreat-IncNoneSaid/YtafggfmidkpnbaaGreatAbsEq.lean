/- Equality, numbers. -/
import Derived.ChangeKeysEq
import Derived.Test.YtafggfmidkpnbaaGreatAbsOps2
namespace Go.Gm

theorem kindEq_iff {a b : IntKind} (h : kindEq a b = true) : a = b := by
  cases a <;> cases b <;> first | rfl | (exact absurd h (by decide))
theorem wrapF_eq (k : IntKind) (n : Int) : wrapF k n = k.wrap n := by
  unfold wrapF
  cases n with
  | negSucc m => rfl
  | ofNat m =>
    simp only []
    cases hb : Nat.blt m 128 with
    | false => rfl
    | true =>
      have hm : m < 128 := by simpa using hb
      simp only [cond_true, IntKind.wrap]
      cases k <;> simp only [IntKind.bits, IntKind.signed] <;> simp <;> omega

section
variable {P : Program} {w w0 : World} {X : Nat → Prop}

theorem RelF.agg_inv {xs : List FV} {v : Value} (h : RelF w X (.agg xs) v) : ∃ vs, v = .agg vs ∧ xs.length = vs.size ∧ (∀ (j : Nat) (x : FV), xs[j]? = some x → x.one = true) ∧
    ∀ (j : Nat) (x : FV) (u : Value), xs[j]? = some x → vs[j]? = some u → RelF w X x u := by
  cases h with
  | agg cs vs hlen h1 h => exact ⟨vs, rfl, hlen, fun j x hx => h1 j x (by rw [nth_eq]; exact hx), fun j x u hx hu => h j x u (by rw [nth_eq]; exact hx) hu⟩
theorem RelF.agg' {xs : List FV} {vs : Array Value} (hlen : xs.length = vs.size) (h1 : ∀ (j : Nat) (x : FV), xs[j]? = some x → x.one = true)
    (h : ∀ (j : Nat) (x : FV) (u : Value), xs[j]? = some x → vs[j]? = some u → RelF w X x u) : RelF w X (.agg xs) (.agg vs) :=
  .agg xs vs hlen (fun j x hx => h1 j x (by rw [← nth_eq]; exact hx)) (fun j x u hx hu => h j x u (by rw [← nth_eq]; exact hx) hu)

theorem cutF {xs : List FV} {vs : Array Value} (hlen : xs.length = vs.size) (h1 : ∀ (j : Nat) (x : FV), xs[j]? = some x → x.one = true)
    (h : ∀ (j : Nat) (x : FV) (u : Value), xs[j]? = some x → vs[j]? = some u → RelF w X x u) (off n : Nat) : RelF w X (.agg ((xs.drop off).take n)) (.agg (vs.extract off (off + n))) := by
  refine RelF.agg' (by simp [hlen]; omega) (fun j x hx => ?_) (fun j x u hx hu => ?_)
  · rw [List.getElem?_take] at hx
    split at hx
    · rw [List.getElem?_drop] at hx; exact h1 _ _ hx
    · cases hx
  · rw [List.getElem?_take] at hx
    split at hx
    · rw [List.getElem?_drop] at hx
      rw [Array.getElem?_extract] at hu
      split at hu
      · exact h _ _ _ hx hu
      · cases hu
    · cases hx

theorem part_sound {t : TypeId} {n off : Nat} {ag : Bool} {xs : List FV} {vs : Array Value} {x : FV} (hs : tsz P t = some n) (ha : tagg P t = some ag)
    (hp : partOf ag xs off n = some x) (hr : RelF w X (.agg xs) (.agg vs)) : ∃ v, (∀ w0, (part t vs off).run P w0 = .ok v w0) ∧ RelF w X x v := by
  obtain ⟨vs', e, hlen, h1, h⟩ := hr.agg_inv
  cases e
  cases ag with
  | true =>
    simp only [partOf, Option.some.injEq] at hp
    subst hp
    refine ⟨.agg (vs.extract off (off + n)), fun w0 => ?_, ?_⟩
    · simp only [part, Sem.run_bind, run_agg ha, Result.andThen_ok, if_true, run_size hs]; rfl
    · rw [takeN_eq, dropN_eq]; exact cutF hlen h1 h off n
  | false =>
    simp only [partOf, nth_eq] at hp
    have hlt : off < vs.size := by rw [← hlen]; exact (List.getElem?_eq_some_iff.1 hp).1
    have hv : vs[off]? = some vs[off] := by simp [hlt]
    refine ⟨vs[off], fun w0 => ?_, h off x _ hp hv⟩
    simp only [part, Sem.run_bind, run_agg ha, Result.andThen_ok, Bool.false_eq_true, if_false, hv]; rfl

theorem fieldsOf_eq {t : TypeId} {fs : Array Field} (h : P.underlying t = some (.struct fs)) : P.fieldsOf t = fs := by simp [Program.fieldsOf, h]
theorem info_of_size {t : TypeId} {n : Nat} (h : tsz P t = some n) : ∃ i, P.info? t = some i ∧ i.size = n := by
  unfold tsz at h
  cases hi : P.info? t with
  | none => simp [hi] at h
  | some i => simp [hi] at h; exact ⟨i, rfl, h⟩
theorem cellsOf_eq {t : TypeId} {n : Nat} (h : tsz P t = some n) : P.cellsOf t = n := by
  obtain ⟨i, hi, hn⟩ := info_of_size h
  simp [Program.cellsOf, hi, hn]

def EqOk (P : Program) (w : World) (X : Nat → Prop) (f : FV → FV → Option Bool) (d : Nat) (t : TypeId) : Prop :=
  ∀ (x y : FV) (u v : Value) (r : Bool), f x y = some r → RelF w X x u → RelF w X y v → ∀ w0, (Op.equalIn d t u v).run P w0 = .ok r w0

theorem eqFields_sound {eq : TypeId → FV → FV → Option Bool} {d : Nat} (he : ∀ t, EqOk P w X (eq t) d t) {xs ys : List FV} {us vs : Array Value}
    (hx : RelF w X (.agg xs) (.agg us)) (hy : RelF w X (.agg ys) (.agg vs)) : ∀ (fs : List Field) (r : Bool), eqFields P eq fs xs ys = some r →
    ∀ w0, (Op.eqFields d us vs fs).run P w0 = .ok r w0
  | [], r, h, w0 => by simp only [eqFields, Option.some.injEq] at h; subst h; rfl
  | f :: fs, r, h, w0 => by
    unfold eqFields at h
    unfold Op.eqFields
    by_cases hn : f.name = "_"
    · simp only [hn, if_true, ne_eq, not_true_eq_false, if_false] at h ⊢
      exact eqFields_sound he hx hy fs r h w0
    · simp only [hn, if_false, ne_eq, not_false_eq_true, if_true] at h ⊢
      cases hs : tsz P f.type with
      | none => simp [hs] at h
      | some n =>
        cases ha : tagg P f.type with
        | none => simp [hs, ha] at h
        | some ag =>
          simp only [hs, ha] at h
          cases h1 : partOf ag xs f.offset n with
          | none => simp [h1] at h
          | some a =>
            cases h2 : partOf ag ys f.offset n with
            | none => simp [h1, h2] at h
            | some b =>
              simp only [h1, h2] at h
              obtain ⟨u, hu, hru⟩ := part_sound hs ha h1 hx
              obtain ⟨v, hv, hrv⟩ := part_sound hs ha h2 hy
              simp only [Sem.run_bind, hu, hv, Result.andThen_ok]
              cases hq : eq f.type a b with
              | none => simp [hq] at h
              | some q =>
                simp only [hq] at h
                rw [he f.type a b u v q hq hru hrv w0]
                cases q with
                | true =>
                  simp only [Result.andThen_ok, Bool.not_true, Bool.false_eq_true, if_false]
                  exact eqFields_sound he hx hy fs r h w0
                | false =>
                  simp only [Option.some.injEq] at h; subst h
                  simp [Result.andThen_ok]

theorem eqElems_sound {eq : FV → FV → Option Bool} {d : Nat} {e : TypeId} (he : EqOk P w X eq d e) {xs ys : List FV} {us vs : Array Value} {n : Nat} {ag : Bool}
    (hs : tsz P e = some n) (ha : tagg P e = some ag)
    (hx : RelF w X (.agg xs) (.agg us)) (hy : RelF w X (.agg ys) (.agg vs)) : ∀ (l i : Nat) (r : Bool), eqElems eq n ag l i xs ys = some r →
    ∀ w0, (Op.eqItems d e n us vs (List.range' i l)).run P w0 = .ok r w0
  | 0, i, r, h, w0 => by simp only [eqElems, Option.some.injEq] at h; subst h; rfl
  | l + 1, i, r, h, w0 => by
    unfold eqElems at h
    rw [List.range'_succ]
    unfold Op.eqItems
    cases h1 : partOf ag xs (i * n) n with
    | none => simp [h1] at h
    | some a =>
      cases h2 : partOf ag ys (i * n) n with
      | none => simp [h1, h2] at h
      | some b =>
        simp only [h1, h2] at h
        obtain ⟨u, hu, hru⟩ := part_sound hs ha h1 hx
        obtain ⟨v, hv, hrv⟩ := part_sound hs ha h2 hy
        simp only [Sem.run_bind, hu, hv, Result.andThen_ok]
        cases hq : eq a b with
        | none => simp [hq] at h
        | some q =>
          simp only [hq] at h
          rw [he a b u v q hq hru hrv w0]
          cases q with
          | true =>
            simp only [Result.andThen_ok, Bool.not_true, Bool.false_eq_true, if_false]
            exact eqElems_sound he hs ha hx hy l (i + 1) r h w0
          | false =>
            simp only [Option.some.injEq] at h; subst h
            simp [Result.andThen_ok]

theorem eqFV_sound : ∀ (d : Nat) (t : TypeId), EqOk P w X (eqFV P d t) d t
  | 0, t => fun x y u v r h => by simp [eqFV] at h
  | d + 1, t => fun x y u v r h hx hy w0 => by
    unfold eqFV at h
    cases hu : P.underlying t with
    | none => simp [hu] at h
    | some ds =>
      simp only [hu] at h
      cases ds <;> simp only [reduceCtorEq] at h
      case bool =>
        cases x <;> cases y <;> simp only [Option.some.injEq, reduceCtorEq] at h
        cases hx; cases hy; subst h
        exact run_equalIn_bool w0 d t _ _ hu
      case int k =>
        cases x <;> cases y <;> simp only [reduceCtorEq] at h
        rename_i k1 a k2 b
        cases hk : kindEq k1 k2 with
        | false => simp [hk] at h
        | true =>
          simp only [hk, cond_true, Option.some.injEq] at h
          have := kindEq_iff hk; subst this
          cases hx; cases hy; subst h
          exact run_equalIn_int w0 d t _ k a b hu
      case string =>
        cases x <;> cases y <;> simp only [Option.some.injEq, reduceCtorEq] at h
        cases hx; cases hy; subst h
        rw [run_equalIn_string w0 d t _ _ hu, ByteArray.toList_eq, ByteArray.toList_eq]
      case struct fs =>
        cases hst : P.stoodInHeld t with
        | true => simp [hst] at h
        | false =>
          simp only [hst] at h
          cases x <;> cases y <;> simp only [reduceCtorEq] at h
          obtain ⟨us, rfl, _⟩ := hx.agg_inv
          obtain ⟨vs, rfl, _⟩ := hy.agg_inv
          rw [run_equalIn_struct w0 d t us vs (by rw [fieldsOf_eq hu]; exact hu) hst, fieldsOf_eq hu]
          exact eqFields_sound (eqFV_sound d) hx hy fs.toList r h w0
      case array n e =>
        cases hs : tsz P e with
        | none => simp [hs] at h
        | some sz =>
          cases ha : tagg P e with
          | none => simp [hs, ha] at h
          | some ag =>
            simp only [hs, ha] at h
            cases x <;> cases y <;> simp only [reduceCtorEq] at h
            obtain ⟨us, rfl, _⟩ := hx.agg_inv
            obtain ⟨vs, rfl, _⟩ := hy.agg_inv
            obtain ⟨i, hi, _⟩ := info_of_size hs
            rw [run_equalIn_array w0 d us vs hu hi, cellsOf_eq hs, List.range_eq_range']
            exact eqElems_sound (eqFV_sound d e) hs ha hx hy n 0 r h w0

theorem eqIn_ptr (d : Nat) {t e : TypeId} (ht : P.underlying t = some (.pointer e)) (a b : Option Addr) (h : a = none ∨ b = none) : (Op.equalIn (d + 1) t (.pointer a) (.pointer b)).run P w0 = .ok (a.isNone && b.isNone) w0 := by
  cases a <;> cases b <;> simp [Op.equalIn, run_underlying ht] at h ⊢
theorem eqIn_map (d : Nat) {t k e : TypeId} (ht : P.underlying t = some (.map k e)) (a b : Option Nat) (h : a = none ∨ b = none) : (Op.equalIn (d + 1) t (.map a) (.map b)).run P w0 = .ok (a.isNone && b.isNone) w0 := by
  cases a <;> cases b <;> simp [Op.equalIn, run_underlying ht] at h ⊢
theorem eqFV_agg {d : Nat} {t : TypeId} {p q : FV} {r : Bool} (h : eqFV P (d + 1) t p q = some r) (ht : (∃ fs, P.underlying t = some (.struct fs)) ∨ ∃ n e, P.underlying t = some (.array n e)) :
    ∃ xs ys, p = .agg xs ∧ q = .agg ys := by
  unfold eqFV at h
  rcases ht with ⟨fs, hu⟩ | ⟨n, e, hu⟩
  · simp only [hu] at h
    cases hst : P.stoodInHeld t with
    | true => simp [hst] at h
    | false =>
      simp only [hst] at h
      cases p <;> cases q <;> simp only [reduceCtorEq] at h
      exact ⟨_, _, rfl, rfl⟩
  · simp only [hu] at h
    cases hs : tsz P e with
    | none => simp [hs] at h
    | some sz =>
      cases ha : tagg P e with
      | none => simp [hs, ha] at h
      | some ag =>
        simp only [hs, ha] at h
        cases p <;> cases q <;> simp only [reduceCtorEq] at h
        exact ⟨_, _, rfl, rfl⟩
theorem Rel.fv_inv {β : Nat → Option Loc} {x : FV} {v : Value} (h : Rel w X β (.fv x) v) : RelF w X x v := by cases h; assumption
theorem isNilP_sound {β : Nat → Option Loc} {x : AV} {u : Value} {b : Bool} (h : isNilP x = some b) (hx : Rel w X β x u) : ∃ a, u = .pointer a ∧ a.isNone = b := by
  unfold isNilP at h
  split at h
  · cases h; have := hx.fv_inv; cases this; exact ⟨_, rfl, rfl⟩
  · cases h; have := hx.fv_inv; cases this; exact ⟨_, rfl, rfl⟩
  · cases h; cases hx; exact ⟨_, rfl, rfl⟩
  · cases h
theorem isNilM_sound {β : Nat → Option Loc} {x : AV} {u : Value} {b : Bool} (h : isNilM x = some b) (hx : Rel w X β x u) : ∃ a, u = .map a ∧ a.isNone = b := by
  unfold isNilM at h
  split at h
  · cases h; have := hx.fv_inv; cases this; exact ⟨_, rfl, rfl⟩
  · cases h; cases hx; exact ⟨_, rfl, rfl⟩
  · cases h
theorem nilBoth_some {f : AV → Option Bool} {x y : AV} {r : Bool} (h : nilBoth f x y = some r) : ∃ a b, f x = some a ∧ f y = some b ∧ (a = true ∨ b = true) ∧ r = (a && b) := by
  unfold nilBoth at h
  cases hx : f x with
  | none => simp [hx] at h
  | some a =>
    cases hy : f y with
    | none => simp [hx, hy] at h
    | some b => cases a <;> cases b <;> simp [hx, hy] at h <;> exact ⟨_, _, rfl, rfl, by simp, by simp [h]⟩
theorem nilEqP_sound {β : Nat → Option Loc} {x y : AV} {u v : Value} {r : Bool} (h : nilBoth isNilP x y = some r) (hx : Rel w X β x u) (hy : Rel w X β y v) :
    ∃ a b, u = .pointer a ∧ v = .pointer b ∧ (a = none ∨ b = none) ∧ r = (a.isNone && b.isNone) := by
  obtain ⟨a, b, h1, h2, h3, rfl⟩ := nilBoth_some h
  obtain ⟨p, rfl, rfl⟩ := isNilP_sound h1 hx
  obtain ⟨q, rfl, rfl⟩ := isNilP_sound h2 hy
  exact ⟨p, q, rfl, rfl, by simpa using h3, rfl⟩
theorem nilEqM_sound {β : Nat → Option Loc} {x y : AV} {u v : Value} {r : Bool} (h : nilBoth isNilM x y = some r) (hx : Rel w X β x u) (hy : Rel w X β y v) :
    ∃ a b, u = .map a ∧ v = .map b ∧ (a = none ∨ b = none) ∧ r = (a.isNone && b.isNone) := by
  obtain ⟨a, b, h1, h2, h3, rfl⟩ := nilBoth_some h
  obtain ⟨p, rfl, rfl⟩ := isNilM_sound h1 hx
  obtain ⟨q, rfl, rfl⟩ := isNilM_sound h2 hy
  exact ⟨p, q, rfl, rfl, by simpa using h3, rfl⟩

/-- two values: the guard ahead of a comparison, the comparison -/
theorem eqAV_sound {β : Nat → Option Loc} {t : TypeId} {x y : AV} {u v : Value} {r : Bool} (h : eqAV P t x y = some r) (hx : Rel w X β x u) (hy : Rel w X β y v) (a b : Operand) :
    (∀ op, (eqGuard op t a b u v).run P w0 = .ok () w0) ∧ (binOp .eql t u v).run P w0 = .ok (.bool r) w0 ∧ (binOp .neq t u v).run P w0 = .ok (.bool (!r)) w0 := by
  unfold eqAV at h
  have agg : ∀ (hg : P.eqGuardType P.depth t = false) (p q : FV) (us vs : Array Value), eqFV P eqDepth t p q = some r → RelF w X p (.agg us) → RelF w X q (.agg vs) →
      (∀ op, (eqGuard op t a b (.agg us) (.agg vs)).run P w0 = .ok () w0) ∧ (binOp .eql t (.agg us) (.agg vs)).run P w0 = .ok (.bool r) w0 ∧ (binOp .neq t (.agg us) (.agg vs)).run P w0 = .ok (.bool (!r)) w0 := by
    intro hg p q us vs he hp hq
    have := eqFV_sound eqDepth t p q _ _ r he hp hq w0
    refine ⟨fun op => run_eqGuard_agg w0 op t a b us vs hg, ?_, ?_⟩
    · rw [run_eql_struct]; rw [show (10000 : Nat) = eqDepth from rfl, this]; rfl
    · rw [run_neq_struct]; rw [show (10000 : Nat) = eqDepth from rfl, this]; rfl
  cases hu : P.underlying t with
  | none => simp [hu] at h
  | some ds =>
    simp only [hu] at h
    cases ds <;> simp only [reduceCtorEq] at h
    case struct fs =>
      cases hg : P.eqGuardType P.depth t with
      | true => simp [hg] at h
      | false =>
        simp only [hg] at h
        split at h
        · rename_i p q
          cases hx; rename_i hx; cases hy; rename_i hy
          obtain ⟨xs, ys, rfl, rfl⟩ := eqFV_agg (d := 9999) h (.inl ⟨_, hu⟩)
          obtain ⟨us, rfl, _⟩ := hx.agg_inv
          obtain ⟨vs, rfl, _⟩ := hy.agg_inv
          exact agg hg _ _ us vs h hx hy
        · cases h
    case array n e =>
      cases hg : P.eqGuardType P.depth t with
      | true => simp [hg] at h
      | false =>
        simp only [hg] at h
        split at h
        · rename_i p q
          cases hx; rename_i hx; cases hy; rename_i hy
          obtain ⟨xs, ys, rfl, rfl⟩ := eqFV_agg (d := 9999) h (.inr ⟨_, _, hu⟩)
          obtain ⟨us, rfl, _⟩ := hx.agg_inv
          obtain ⟨vs, rfl, _⟩ := hy.agg_inv
          exact agg hg _ _ us vs h hx hy
        · cases h
    case bool =>
      split at h
      · rename_i p q
        cases hx.bool_inv; cases hy.bool_inv; cases h
        refine ⟨fun op => by rw [eqGuard_at_bool]; rfl, run_eql_bool w0 t _ _ hu, run_neq_bool w0 t _ _ hu⟩
      · cases h
    case pointer e =>
      obtain ⟨p, q, rfl, rfl, hn, rfl⟩ := nilEqP_sound h hx hy
      have he : (Op.equal t (.pointer p) (.pointer q)).run P w0 = _ := eqIn_ptr 9999 hu p q hn
      refine ⟨fun op => by rw [eqGuard_at_pointer]; rfl, ?_, ?_⟩ <;> simp [binOp, he]
    case map k e =>
      obtain ⟨p, q, rfl, rfl, hn, rfl⟩ := nilEqM_sound h hx hy
      have he : (Op.equal t (.map p) (.map q)).run P w0 = _ := eqIn_map 9999 hu p q hn
      refine ⟨fun op => by rw [eqGuard_at_map]; rfl, ?_, ?_⟩ <;> simp [binOp, he]
end
end Go.Gm
