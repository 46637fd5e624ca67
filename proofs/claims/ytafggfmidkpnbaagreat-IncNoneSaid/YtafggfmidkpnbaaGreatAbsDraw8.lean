/- The frames; being the same. -/
import Derived.Test.YtafggfmidkpnbaaGreatAbsDraw7
namespace Go.Gm

theorem kindEq_eq' {a b : IntKind} (h : kindEq a b = true) : a = b := by cases a <;> cases b <;> first | rfl | (simp [kindEq, kn] at h)
theorem beqI_eq {a b : Int} (h : beqI a b = true) : a = b := by
  cases a <;> cases b <;> simp [beqI] at h <;> subst h <;> rfl
theorem beqL_eq {α : Type} {f : α → α → Bool} (hf : ∀ a b, f a b = true → a = b) : ∀ {l m : List α}, beqL f l m = true → l = m
  | [], [], _ => rfl
  | [], _ :: _, h => by simp [beqL] at h
  | _ :: _, [], h => by simp [beqL] at h
  | a :: l, b :: m, h => by
    unfold beqL at h
    simp only [Bool.and_eq_true] at h
    rw [hf _ _ h.1, beqL_eq hf h.2]
theorem beqF_eq : ∀ (n : Nat) {x y : FV}, beqF n x y = true → x = y
  | 0, x, y, h => by simp [beqF] at h
  | n + 1, x, y, h => by
    have ih := fun a b => beqF_eq n (x := a) (y := b)
    cases x <;> cases y <;> simp only [beqF, Bool.false_eq_true, Bool.and_eq_true] at h <;> first | rfl | skip
    case bool.bool a b => simp at h; rw [h]
    case int.int k a k' b => rw [kindEq_eq' h.1, beqI_eq h.2]
    case str.str a b =>
      have h1 := beqL_eq (fun (x y : UInt8) hxy => by rw [beq_iff] at hxy; exact UInt8.toNat_inj.1 hxy) h
      have : a.data = b.data := Array.ext' h1
      cases a; cases b; simp at this; rw [this]
    case fn.fn f g => rw [beq_iff] at h; rw [h]
    case agg.agg a b => rw [beqL_eq ih h]
    case sl.sl a t b u =>
      rw [beqL_eq (fun _ _ h => beqL_eq ih h) h.2]
      have := h.1; simp at this; rw [this]
    case fp.fp a b => rw [beqL_eq ih h]
    case tup.tup a b => rw [beqL_eq ih h]
theorem beqA_eq : ∀ (n : Nat) {x y : AV}, beqA n x y = true → x = y
  | 0, x, y, h => by simp [beqA] at h
  | n + 1, x, y, h => by
    have ih := fun a b => beqA_eq n (x := a) (y := b)
    cases x <;> cases y <;> simp only [beqA, Bool.false_eq_true, Bool.and_eq_true] at h
    case fv.fv a b => rw [beqF_eq n h]
    case ptr.ptr a b c d e f => simp only [beq_iff] at h; rw [h.1.1, h.1.2, h.2]
    case osl.osl a b c d e f g i => simp only [beq_iff, beq_iff_eq] at h; rw [h.1.1.1, h.1.1.2, h.1.2, h.2]
    case map.map a b => rw [beq_iff] at h; rw [h]
    case yld.yld a b => rw [beq_iff] at h; rw [h]
    case clo.clo f a g b => rw [beq_iff] at h; rw [h.1, beqL_eq ih h.2]
    case agg.agg a b => rw [beqL_eq ih h]
    case tup.tup a b => rw [beqL_eq ih h]

section
variable {P : Program} {opt : Opts} {K : Fns} {n n0 : Nat} {T0 : Fr} {S : Nat → Bool} {tr post pre : List TStep} {y : TStep}

theorem putT_eq {d : Tmp} {T : Fr} {v : AV} {t : Tmp} : putT n (some d) T v t = if t = d ∧ d < n then v else T t := by
  unfold putT
  simp only []
  cases hb : Nat.blt d n with
  | false =>
    have : ¬ d < n := fun c => by rw [show Nat.blt d n = true from by simpa using c] at hb; cases hb
    simp [this]
  | true =>
    have : d < n := by simpa using hb
    simp only [cond_true]
    rw [bif_beq]
    by_cases e : t = d
    · rw [if_pos e, if_pos ⟨e, this⟩]
    · rw [if_neg e, if_neg (fun c => e c.1)]
theorem putT_same {d : Tmp} {T : Fr} {v : AV} (h : d < n) : putT n (some d) T v d = v := by rw [putT_eq, if_pos ⟨rfl, h⟩]
theorem putT_other {d : Option Tmp} {t : Tmp} {T : Fr} {v : AV} (h : d ≠ some t) : putT n d T v t = T t := by
  cases d with
  | none => rfl
  | some d => rw [putT_eq, if_neg (fun c => h (by rw [c.1]))]
theorem putT_out {d : Tmp} {T : Fr} {v : AV} (h : ¬ d < n) : putT n (some d) T v = T := funext fun t => by rw [putT_eq, if_neg (fun c => h c.2)]
theorem putT_at {d : Option Tmp} {T T' : Fr} {v : AV} {t : Tmp} (h : T t = T' t) : putT n d T v t = putT n d T' v t := by
  cases d with
  | none => exact h
  | some d => rw [putT_eq, putT_eq, h]

/-- where a step puts its value -/
def Puts (n : Nat) (x : TStep) (d : Option Tmp) : Prop := x.q.put = putT n d

theorem frS_at (hp : ∀ x ∈ pre, ∃ d, Puts n x d) {S' : Nat → Bool} {t : Tmp} (h : ∀ x ∈ pre, Puts n x (some t) → S x.r.i = S' x.r.i) (ht : t < n) : frS S T0 pre t = frS S' T0 pre t := by
  induction pre with
  | nil => rfl
  | cons x pre ih =>
    have ih := ih (fun z hz => hp z (List.mem_cons_of_mem _ hz)) (fun z hz => h z (List.mem_cons_of_mem _ hz))
    obtain ⟨d, hd⟩ := hp x (List.mem_cons_self ..)
    unfold frS
    by_cases e : d = some t
    · subst e
      rw [h x (List.mem_cons_self ..) hd, hd]
      cases S' x.r.i with
      | false => exact ih
      | true => simp only [cond_true]; rw [putT_same ht, putT_same ht]
    · rw [hd]
      have a1 : ∀ (S : Nat → Bool), (bif S x.r.i then putT n d (frS S T0 pre) x.r.val else frS S T0 pre) t = frS S T0 pre t := fun S => by
        cases S x.r.i with
        | false => rfl
        | true => simp only [cond_true]; exact putT_other e
      rw [a1 S, a1 S']; exact ih
theorem frS_post (hp : ∀ x ∈ post, ∃ d, Puts n x d) {t : Tmp} (h : ∀ x ∈ post, S x.r.i = true → ¬ Puts n x (some t)) : frS S T0 (post ++ pre) t = frS S T0 pre t := by
  induction post with
  | nil => rfl
  | cons x post ih =>
    have ih := ih (fun z hz => hp z (List.mem_cons_of_mem _ hz)) (fun z hz => h z (List.mem_cons_of_mem _ hz))
    obtain ⟨d, hd⟩ := hp x (List.mem_cons_self ..)
    simp only [List.cons_append]
    rw [show frS S T0 (x :: (post ++ pre)) = (bif S x.r.i then x.q.put (frS S T0 (post ++ pre)) x.r.val else frS S T0 (post ++ pre)) from rfl]
    cases hS : S x.r.i with
    | false => exact ih
    | true =>
      simp only [cond_true]
      rw [hd, putT_other (fun e => h x (List.mem_cons_self ..) hS (e ▸ hd))]
      exact ih
/-- one more -/
theorem frS_with (hg : (post ++ y :: pre).Pairwise (fun b a => b.r.i ≠ a.r.i)) (hp : ∀ x ∈ post ++ y :: pre, ∃ d, Puts n x d) (hS : S y.r.i = false) {d : Option Tmp} (hd : Puts n y d)
    (h : ∀ t, d = some t → t < n → ∀ x ∈ post, S x.r.i = true → ¬ Puts n x (some t)) : frS (withI S y.r.i) T0 (post ++ y :: pre) = putT n d (frS S T0 (post ++ y :: pre)) y.r.val := by
  have hw : ∀ x ∈ pre, withI S y.r.i x.r.i = S x.r.i := fun x hx => withI_ne fun e =>
    (List.pairwise_cons.1 (List.pairwise_append.1 hg).2.1).1 x hx e.symm
  have hwp : ∀ x ∈ post, withI S y.r.i x.r.i = S x.r.i := fun x hx => withI_ne fun e =>
    (List.pairwise_append.1 hg).2.2 x hx y (List.mem_cons_self ..) e
  have hfr : frS (withI S y.r.i) T0 pre = frS S T0 pre := by
    clear h hd hS hwp hg hp
    induction pre with
    | nil => rfl
    | cons x pre ih =>
      unfold frS
      rw [hw x (List.mem_cons_self ..), ih (fun z hz => hw z (List.mem_cons_of_mem _ hz))]
  funext t
  by_cases ht : d = some t ∧ t < n
  · obtain ⟨rfl, hlt⟩ := ht
    rw [putT_same hlt, frS_post (fun x hx => hp x (List.mem_append_left _ hx)) (fun x hx hs => by rw [hwp x hx] at hs; exact h t rfl hlt x hx hs)]
    unfold frS
    rw [withI_self]
    simp only [cond_true]
    rw [hd, putT_same hlt]
  · have hput : ∀ (T : Fr) v, putT n d T v t = T t := fun T v => by
      cases d with
      | none => rfl
      | some d' =>
        by_cases e : d' = t
        · subst e
          rw [putT_out (fun hlt => ht ⟨rfl, hlt⟩)]
        · exact putT_other (fun c => e (by simpa using c))
    rw [hput]
    clear h
    induction post with
    | nil =>
      simp only [List.nil_append]
      unfold frS
      rw [withI_self, hS]
      simp only [cond_true, cond_false]
      rw [hd, hput, hfr]
    | cons x post ih =>
      have ih := ih (List.pairwise_cons.1 hg).2 (fun z hz => hp z (List.mem_cons_of_mem _ hz)) (fun z hz => hwp z (List.mem_cons_of_mem _ hz))
      simp only [List.cons_append]
      unfold frS
      rw [hwp x (List.mem_cons_self ..)]
      cases S x.r.i with
      | false => exact ih
      | true =>
        simp only [cond_true]
        obtain ⟨dx, hdx⟩ := hp x (List.mem_cons_self ..)
        rw [hdx]
        exact putT_at ih
end

/-- a frame but for what is looked at -/
def actR (lk : List Nat) (a : Act) : Act := { a with tmps := a.tmps.mapIdx fun t v => if memN t lk then v else undef }
theorem FrR.restr {w : World} {X : Nat → Prop} {β : Nat → Option Loc} {n : Nat} {T : Fr} {a : Act} (h : FrR w X β n T a.tmps) (lk : List Nat) : FrR w X β n (restr lk T) (actR lk a).tmps := by
  refine ⟨by simp [actR, h.1], fun t v e => ?_⟩
  simp only [actR, Array.getElem?_mapIdx, Option.map_eq_some_iff] at e
  obtain ⟨u, hu, rfl⟩ := e
  unfold Go.Gm.restr
  cases memN t lk with
  | true => simpa using h.2 t u hu
  | false => exact (Rel.fv _ _ .undef : Rel w X β (.fv .undef) (.tuple #[]))
theorem actR_eval {a : Act} {lk : List Nat} {x : Operand} (h : ∀ t, x = .tmp t → t ∈ lk) : a.eval x = (actR lk a).eval x := by
  cases x with
  | tmp t =>
    have : memN t lk = true := memN_iff'.2 (h t rfl)
    simp only [Act.eval, actR]
    rw [Array.getD_eq_getD_getElem?, Array.getD_eq_getD_getElem?, Array.getElem?_mapIdx]
    cases a.tmps[t]? <;> simp [this]
  | const v => rfl
  | global g => rfl
  | func f => rfl
theorem mem_tmpsOf {op : Op} {t : Nat} : t ∈ tmpsOf op ↔ Operand.tmp t ∈ op.operands := by
  unfold tmpsOf
  rw [List.mem_filterMap]
  constructor
  · rintro ⟨x, hx, e⟩
    cases x <;> simp at e
    subst e; simpa using hx
  · intro h
    exact ⟨.tmp t, by simpa using h, rfl⟩
theorem wantedA_congr {n : Nat} {ops : List Oper} {o : Oper} {T T' : Fr} (h : ∀ g b o' d, o.guard = some (g, b) → ops[g]? = some o' → o'.dst = some d → T d = T' d) : wantedA n ops o T = wantedA n ops o T' := by
  unfold wantedA
  cases hg : o.guard with
  | none => rfl
  | some gb =>
    obtain ⟨g, b⟩ := gb
    simp only []
    cases hn : nth ops g with
    | none => rfl
    | some o' =>
      simp only []
      cases hd : o'.dst with
      | none => rfl
      | some d =>
        simp only []
        cases Nat.blt d n with
        | false => rfl
        | true =>
          simp only [cond_true]
          rw [nth_eq] at hn
          rw [h g b o' d hg hn hd]
end Go.Gm
