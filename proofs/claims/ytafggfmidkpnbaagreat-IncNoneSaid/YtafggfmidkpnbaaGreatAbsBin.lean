/- Binary and unary operators, conversions. -/
import Derived.Test.YtafggfmidkpnbaaGreatAbsEq
namespace Go.Gm
section
variable {P : Program} {w w0 : World} {X : Nat → Prop} {β : Nat → Option Loc}

/-- the guard and the operator -/
def binSem (op : BinOp) (t : TypeId) (a b : Operand) (u v : Value) : Sem Value := do eqGuard op t a b u v; binOp op t u v

theorem binI_some {f : IntKind → Int → Int → Option FV} {x y : AV} {z : FV} (h : binI f x y = some z) : ∃ k a b, x = .fv (.int k a) ∧ y = .fv (.int k b) ∧ f k a b = some z := by
  unfold binI at h
  split at h
  · rename_i k a k' b
    cases hk : kindEq k k' with
    | false => simp [hk] at h
    | true => have := kindEq_iff hk; subst this; simp [hk] at h; exact ⟨k, a, b, rfl, rfl, h⟩
  · cases h
theorem binSh_some {f : IntKind → Int → Nat → FV} {x y : AV} {z : FV} (h : binSh f x y = some z) : ∃ k a k' b, x = .fv (.int k a) ∧ y = .fv (.int k' (.ofNat b)) ∧ f k a b = z := by
  unfold binSh at h
  split at h
  · cases h; exact ⟨_, _, _, _, rfl, rfl, rfl⟩
  · cases h

theorem binSem_int {op : BinOp} {t : TypeId} {a b : Operand} {k k' : IntKind} {m n : Int} {z : Value} (h : (binOp op t (.int k m) (.int k' n)).run P w0 = .ok z w0) :
    (binSem op t a b (.int k m) (.int k' n)).run P w0 = .ok z w0 := by
  unfold binSem; rw [eqGuard_at_int]; simpa using h

theorem binS_sound {op : BinOp} {t : TypeId} {x y : AV} {z : FV} {u v : Value} (h : binS P op t x y = some z) (hx : Rel w X β x u) (hy : Rel w X β y v) (a b : Operand) :
    ∃ r, (∀ w0, (binSem op t a b u v).run P w0 = .ok r w0) ∧ RelF w X z r := by
  have ii : ∀ (f : IntKind → Int → Int → Option FV), binI f x y = some z → (∀ k m n z, f k m n = some z → ∃ r, (∀ w0, (binOp op t (.int k m) (.int k n)).run P w0 = .ok r w0) ∧ RelF w X z r) →
      ∃ r, (∀ w0, (binSem op t a b u v).run P w0 = .ok r w0) ∧ RelF w X z r := by
    intro f hf hk
    obtain ⟨k, m, n, rfl, rfl, hz⟩ := binI_some hf
    cases hx.int_inv; cases hy.int_inv
    obtain ⟨r, hr, hrel⟩ := hk k m n z hz
    exact ⟨r, fun w0 => binSem_int (hr w0), hrel⟩
  have sh : ∀ (f : IntKind → Int → Nat → FV), binSh f x y = some z → (∀ k m k' n, ∃ r, (∀ w0, (binOp op t (.int k m) (.int k' (.ofNat n))).run P w0 = .ok r w0) ∧ RelF w X (f k m n) r) →
      ∃ r, (∀ w0, (binSem op t a b u v).run P w0 = .ok r w0) ∧ RelF w X z r := by
    intro f hf hk
    obtain ⟨k, m, k', n, rfl, rfl, rfl⟩ := binSh_some hf
    cases hx.int_inv; cases hy.int_inv
    obtain ⟨r, hr, hrel⟩ := hk k m k' n
    exact ⟨r, fun w0 => binSem_int (hr w0), hrel⟩
  have ee : ∀ (neg : Bool), (op = if neg then .neq else .eql) → binE P t neg x y = some z → ∃ r, (∀ w0, (binSem op t a b u v).run P w0 = .ok r w0) ∧ RelF w X z r := by
    intro neg hop he
    unfold binE at he
    split at he
    · rename_i k m
      split at he
      · rename_i k' n
        cases hk : kindEq k k' with
        | false => simp [hk] at he
        | true =>
          have := kindEq_iff hk; subst this
          simp only [hk, cond_true, Option.some.injEq] at he; subst he
          cases hx.int_inv; cases hy.int_inv
          refine ⟨.bool (xor neg (m == n)), fun w0 => binSem_int ?_, .bool _⟩
          cases neg
          · simp only [hop, Bool.false_eq_true, if_false, binOp_eql, Sem.run_pure, Bool.false_bne]
          · simp only [hop, if_true, binOp_neq, Sem.run_pure, Bool.true_bne]; rfl
      · cases he
    · rename_i s
      split at he
      · rename_i s'
        simp only [Option.some.injEq] at he; subst he
        have h1 : u = .string s := by have := hx.fv_inv; cases this; rfl
        have h2 : v = .string s' := by have := hy.fv_inv; cases this; rfl
        subst h1; subst h2
        refine ⟨.bool (xor neg (s.data.toList == s'.data.toList)), fun w0 => ?_, .bool _⟩
        unfold binSem
        rw [eqGuard_at_string]
        cases neg
        · simp only [hop, Bool.false_eq_true, if_false]
          rw [binOp_string_eql, ByteArray.toList_eq, ByteArray.toList_eq]; simp
        · simp only [hop, if_true]
          rw [binOp_string_neq, ByteArray.toList_eq, ByteArray.toList_eq]; simp
      · cases he
    · cases heq : eqAV P t x y with
      | none => simp [heq] at he
      | some r =>
        simp only [heq, Option.some.injEq] at he; subst he
        refine ⟨.bool (xor neg r), fun w0 => ?_, .bool _⟩
        obtain ⟨hg, h1, h2⟩ := eqAV_sound (w0 := w0) heq hx hy a b
        unfold binSem
        rw [Sem.run_bind, hg op, Result.andThen_ok]
        cases neg
        · simp only [hop, Bool.false_eq_true, if_false]; rw [h1]; simp
        · simp only [hop, if_true]; rw [h2]; simp
  cases op <;> simp only [binS, reduceCtorEq] at h
  case add =>
    refine ii _ h fun k m n z hz => ?_
    simp only [Option.some.injEq] at hz; subst hz
    exact ⟨_, fun w0 => by rw [binOp_add]; rfl, by rw [wrapF_eq]; exact .int _ _⟩
  case sub =>
    refine ii _ h fun k m n z hz => ?_
    simp only [Option.some.injEq] at hz; subst hz
    exact ⟨_, fun w0 => by rw [binOp_sub]; rfl, by rw [wrapF_eq]; exact .int _ _⟩
  case mul =>
    refine ii _ h fun k m n z hz => ?_
    simp only [Option.some.injEq] at hz; subst hz
    exact ⟨_, fun w0 => by rw [binOp_mul]; rfl, by rw [wrapF_eq]; exact .int _ _⟩
  case quo =>
    refine ii _ h fun k m n z hz => ?_
    have hn : n ≠ 0 := by rintro rfl; simp at hz
    have hz' : z = .int k (k.wrap (m.tdiv n)) := by
      split at hz
      · cases hz
      · simp only [Option.some.injEq] at hz; rw [← hz, wrapF_eq]
    subst hz'
    exact ⟨_, fun w0 => by rw [binOp_quo]; simp [Op.intDiv, hn], .int _ _⟩
  case rem =>
    refine ii _ h fun k m n z hz => ?_
    have hn : n ≠ 0 := by rintro rfl; simp at hz
    have hz' : z = .int k (m.tmod n) := by
      split at hz
      · cases hz
      · simp only [Option.some.injEq] at hz; rw [← hz]
    subst hz'
    exact ⟨_, fun w0 => by rw [binOp_rem]; simp [Op.intDiv, hn], .int _ _⟩
  case and =>
    refine ii _ h fun k m n z hz => ?_
    simp only [Option.some.injEq] at hz; subst hz
    exact ⟨_, fun w0 => by rw [binOp_and]; rfl, .int _ _⟩
  case or =>
    refine ii _ h fun k m n z hz => ?_
    simp only [Option.some.injEq] at hz; subst hz
    exact ⟨_, fun w0 => by rw [binOp_or]; rfl, .int _ _⟩
  case xor =>
    refine ii _ h fun k m n z hz => ?_
    simp only [Option.some.injEq] at hz; subst hz
    exact ⟨_, fun w0 => by rw [binOp_xor]; rfl, .int _ _⟩
  case shl => exact sh _ h fun k m k' n => ⟨_, fun w0 => by rw [binOp_shl]; simp [Op.shift]; intro hh; exact absurd hh (by omega), .int _ _⟩
  case shr => exact sh _ h fun k m k' n => ⟨_, fun w0 => by rw [binOp_shr]; simp [Op.shift]; intro hh; exact absurd hh (by omega), .int _ _⟩
  case eql => exact ee false rfl h
  case neq => exact ee true rfl h
  case lss =>
    refine ii _ h fun k m n z hz => ?_
    simp only [Option.some.injEq] at hz; subst hz
    exact ⟨_, fun w0 => by rw [binOp_lss]; rfl, .bool _⟩
  case leq =>
    refine ii _ h fun k m n z hz => ?_
    simp only [Option.some.injEq] at hz; subst hz
    exact ⟨_, fun w0 => by rw [binOp_leq]; rfl, .bool _⟩
  case gtr =>
    refine ii _ h fun k m n z hz => ?_
    simp only [Option.some.injEq] at hz; subst hz
    exact ⟨_, fun w0 => by rw [binOp_gtr]; rfl, .bool _⟩
  case geq =>
    refine ii _ h fun k m n z hz => ?_
    simp only [Option.some.injEq] at hz; subst hz
    exact ⟨_, fun w0 => by rw [binOp_geq]; rfl, .bool _⟩

theorem unS_sound {op : UnOp} {x : AV} {z : FV} {u : Value} (h : unS op x = some z) (hx : Rel w X β x u) : ∃ r, (∀ w0, (Op.unary op u).run P w0 = .ok r w0) ∧ RelF w X z r := by
  cases op <;> simp only [unS, reduceCtorEq] at h
  case not =>
    split at h
    · cases h; cases hx.bool_inv; exact ⟨_, fun w0 => rfl, .bool _⟩
    · cases h
  case neg =>
    split at h
    · cases h; cases hx.int_inv; exact ⟨_, fun w0 => rfl, by rw [wrapF_eq]; exact .int _ _⟩
    · cases h

theorem convS_sound {s d : TypeId} {x z : AV} {u : Value} (h : convS P s d x = some z) (hx : Rel w X β x u) : ∃ r, (∀ w0, (convert s d u).run P w0 = .ok r w0) ∧ Rel w X β z r := by
  unfold convS at h
  cases h1 : P.underlying s with
  | none => simp [h1] at h
  | some ds =>
    cases h2 : P.underlying d with
    | none => simp [h1, h2] at h
    | some dd =>
      simp only [h1, h2] at h
      cases dd <;> simp only [reduceCtorEq] at h
      case int k =>
        split at h
        · rename_i k' n
          cases h
          cases hx.int_inv
          refine ⟨.int k (k.wrap n), fun w0 => ?_, .fv _ _ (by rw [wrapF_eq]; exact .int _ _)⟩
          simp only [convert, Sem.run_bind, run_under h1, run_under h2, Result.andThen_ok]
          rfl
        · cases h

theorem nilCheck_sound {x z : AV} {u : Value} (h : nilCheckA x = some z) (hx : Rel w X β x u) {ρ : Operand → Value} {a : Operand} {o : Oper} (ho : o.op = .nilCheck a) (hu : ρ a = u) :
    (∀ w0, (execOp ρ o).run P w0 = .ok (.value u) w0) ∧ Rel w X β z u := by
  have key : z = x := by
    unfold nilCheckA at h
    split at h <;> first | (cases h; rfl) | (cases h)
  subst key
  refine ⟨fun w0 => ?_, hx⟩
  unfold execOp
  simp only [ho, hu]
  unfold nilCheckA at h
  split at h
  · cases hx; rfl
  · have := hx.fv_inv; cases this; rfl
  · cases hx; rfl
  · have := hx.fv_inv; cases this; rfl
  · cases h
end
end Go.Gm
