/- From a run of the interpreter to a row. -/
import Derived.ProofKit
import Derived.Test.YtafggfmidkpnbaaGreatAbsIn
namespace Go.Gm
open Go.ChangeShapes Go.WideShapes Go.ChangeAt Go.RowKit
section
variable {H : Type} {enc : TypeId × Value → H} {P : Program}

/-- an argument of a type -/
def argOf (P : Program) (t : TypeId) (xs : List FV) : AV :=
  match P.underlying t with
  | some (.struct _) => .fv (.agg xs)
  | some (.array _ _) => .fv (.agg xs)
  | _ => match xs with
    | [x] => .fv x
    | _ => .fv .undef
def argsOf (P : Program) : List TypeId → List (List FV) → List AV
  | t :: ts, xs :: l => argOf P t xs :: argsOf P ts l
  | _, _ => []
/-- what comes in -/
inductive FTs (P : Program) (n : Nat) : List TypeId → List (List FV) → Prop
  | nil : FTs P n [] []
  | cons {t : TypeId} {ts : List TypeId} {xs : List FV} {l : List (List FV)} (h : FT P n t xs) (h' : FTs P n ts l) : FTs P n (t :: ts) (xs :: l)

theorem argsOf_isFV : ∀ (ts : List TypeId) (l : List (List FV)), allN isFV (argsOf P ts l) = true
  | [], l => by cases l <;> rfl
  | t :: ts, [] => rfl
  | t :: ts, xs :: l => by
    have : isFV (argOf P t xs) = true := by
      unfold argOf
      split <;> try rfl
      split <;> rfl
    rw [allN_eq, argsOf, List.all_cons, this, Bool.true_and, ← allN_eq]
    exact argsOf_isFV ts l

theorem arg_rel {w : World} {X : Nat → Prop} {β : Nat → Option Loc} {n base : Nat} {t : TypeId} {v : Value} {xs : List FV} (hp : PT P n t = true) (hv : Value.okWide P w .any base t v) (hc : Cells w X xs v.cells.toList) (ht : FT P n t xs) : Rel w X β (argOf P t xs) v := by
  cases n with
  | zero => simp [PT] at hp
  | succ n =>
    have agg : ∀ cs : Array Value, v = .agg cs → Rel w X β (.fv (.agg xs)) v := fun cs hcs => by
      subst hcs
      simp only [Value.cells] at hc
      refine .fv _ _ (.agg xs cs (by simpa using hc.1) (fun j x hx => ?_) fun j x u hx hu => ?_)
      · rw [nth_eq] at hx
        have hj : j < cs.size := by have := (List.getElem?_eq_some_iff.1 hx).1; rw [hc.1] at this; simpa using this
        exact (hc.2 j x cs[j] hx (by simp [hj])).1
      · rw [nth_eq] at hx
        exact (hc.2 j x u hx (by rw [Array.getElem?_toList]; exact hu)).2
    have one : ∀ x, xs = [x] → v.cells = #[v] → Rel w X β (.fv x) v := fun x hx hvc => by
      subst hx
      rw [hvc] at hc
      exact .fv _ _ (hc.2 0 x v rfl rfl).2
    unfold Value.okWide at hv
    unfold argOf
    unfold PT at hp
    unfold FT at ht
    cases hu : P.underlying t with
    | none => simp [hu] at hp
    | some d =>
      simp only [hu] at hp hv ht ⊢
      cases d <;> simp only [Bool.false_eq_true] at hp <;> simp only [] at hv ht ⊢
      case struct fs =>
        obtain ⟨cs, h1, _⟩ := hv
        exact agg cs h1
      case array k e =>
        obtain ⟨cs, h1, _⟩ := hv
        exact agg cs h1
      case bool =>
        obtain ⟨b, rfl⟩ := ht
        have : v.cells = #[v] := by
          unfold Cell.okWide Cell.ok at hv
          cases v <;> simp [hu] at hv <;> rfl
        exact one _ rfl this
      case int k =>
        obtain ⟨m, rfl, _⟩ := ht
        have : v.cells = #[v] := by
          unfold Cell.okWide Cell.ok at hv
          cases v <;> simp [hu] at hv <;> rfl
        exact one _ rfl this
      case string =>
        obtain ⟨m, rfl, _⟩ := ht
        have : v.cells = #[v] := by
          unfold Cell.okWide Cell.ok at hv
          cases v <;> simp [hu] at hv <;> rfl
        exact one _ rfl this
      case slice e =>
        obtain ⟨m, rfl, _⟩ := ht
        have : v.cells = #[v] := by
          unfold Cell.okWide Cell.ok at hv
          cases v <;> simp [hu] at hv <;> rfl
        exact one _ rfl this

theorem args_rel {w : World} {X : Nat → Prop} {n : Nat} {base : Nat} (hX : ∀ b, b < w.heap.size → ¬ X b) : ∀ {ts : List TypeId} {vs : List Value} {ds : List (DataW H)} {ps : List MemPlace}, (∀ t ∈ ts, PT P n t = true) →
    (∀ (j : Nat) t v, ts[j]? = some t → vs[j]? = some v → Value.okWide P w .any base t v) → DataW.TrodAll enc P w 0 (fun _ => true) true ts vs ds ps →
    ∃ l, FTs P n ts l ∧ ∀ (β : Nat → Option Loc), All2 (fun x v => Rel w X β x v) (argsOf P ts l) vs
  | [], [], [], ps, _, _, _ => ⟨[], .nil, fun _ => .nil⟩
  | t :: ts, v :: vs, d :: ds, ps, hp, hv, h => by
    obtain ⟨p, q, ⟨fuel, h1⟩, h2, _⟩ := h
    obtain ⟨xs, c1, c2, _⟩ := trod_rel hX n fuel t _ d p (hp t (List.mem_cons_self ..)) h1
    obtain ⟨l, g1, g2⟩ := args_rel hX (fun t ht => hp t (List.mem_cons_of_mem _ ht)) (fun j t v a b => hv (j + 1) t v (by simpa using a) (by simpa using b)) h2
    exact ⟨xs :: l, .cons c2 g1, fun β => .cons (arg_rel (hp t (List.mem_cons_self ..)) (hv 0 t v rfl rfl) c1 c2) (g2 β)⟩
  | [], _ :: _, _, _, _, _, h => by simp [DataW.TrodAll] at h
  | [], [], _ :: _, _, _, _, h => by simp [DataW.TrodAll] at h
  | _ :: _, [], _, _, _, _, h => by simp [DataW.TrodAll] at h
  | _ :: _, _ :: _, [], _, _, _, h => by simp [DataW.TrodAll] at h

theorem trodAll_below (hl : laidOutB P = true) {W W' : World} (hb : Below W.heap.size W W') : ∀ {ts : List TypeId} {vs : List Value} {ds : List (DataW H)} {ps : List MemPlace}, (∀ t ∈ ts, P.readableRec t = true ∧ t < P.types.size) →
    DataW.TrodAll enc P W 0 (fun _ => true) true ts vs ds ps → (∀ x ∈ ps, x.block < W.heap.size) → DataW.TrodAll enc P W' 0 (fun b => decide (b < W.heap.size)) true ts vs ds ps
  | [], [], [], ps, _, h, _ => h
  | t :: ts, v :: vs, d :: ds, ps, hp, h, hlt => by
    obtain ⟨p, q, h1, h2, rfl⟩ := h
    exact ⟨p, q, Below.trod hl (hp t (List.mem_cons_self ..)).1 (hp t (List.mem_cons_self ..)).2 h1 hb (fun x hx => hlt x (List.mem_append_left _ hx)),
      trodAll_below hl hb (fun t ht => hp t (List.mem_cons_of_mem _ ht)) h2 (fun x hx => hlt x (List.mem_append_right _ hx)), rfl⟩
  | [], _ :: _, _, _, _, h, _ => by simp [DataW.TrodAll] at h
  | [], [], _ :: _, _, _, h, _ => by simp [DataW.TrodAll] at h
  | _ :: _, [], _, _, _, h, _ => by simp [DataW.TrodAll] at h
  | _ :: _, _ :: _, [], _, _, h, _ => by simp [DataW.TrodAll] at h

theorem trodAll_len {w : World} {base : Nat} {sp : Nat → Bool} {held : Bool} : ∀ {ts : List TypeId} {vs : List Value} {ds : List (DataW H)} {ps : List MemPlace}, DataW.TrodAll enc P w base sp held ts vs ds ps → ds.length = ts.length
  | [], [], [], _, _ => rfl
  | t :: ts, v :: vs, d :: ds, _, h => by
    obtain ⟨p, q, _, h2, _⟩ := h
    simp [trodAll_len h2]
  | [], _ :: _, _, _, h => by simp [DataW.TrodAll] at h
  | [], [], _ :: _, _, h => by simp [DataW.TrodAll] at h
  | _ :: _, [], _, _, h => by simp [DataW.TrodAll] at h
  | _ :: _, _ :: _, [], _, h => by simp [DataW.TrodAll] at h
theorem All2.length_eq {α β : Type} {R : α → β → Prop} : ∀ {l : List α} {m : List β}, All2 R l m → l.length = m.length
  | _, _, .nil => rfl
  | _, _, .cons _ t => by simp [All2.length_eq t]
theorem All2.at {α β : Type} {R : α → β → Prop} : ∀ {l : List α} {m : List β}, All2 R l m → ∀ (j : Nat) (x : α) (y : β), l[j]? = some x → m[j]? = some y → R x y
  | _, _, .nil, j, x, y, hx, _ => by simp at hx
  | _, _, .cons h t, j, x, y, hx, hy => by
    cases j with
    | zero => simp at hx hy; subst hx; subst hy; exact h
    | succ j => exact All2.at t j x y (by simpa using hx) (by simpa using hy)

/-- a law that the interpreter answers by true, whatever comes in -/
theorem law_lifted {C : Checked} {os : Os} {f : FuncId} {fn : Func} {s : ChangeSpec} {K : Fns} {n : Nat} {tb : TypeId} (own : ownKnob C.prog.godebug = none) (started : os.Started) (noInit : C.prog.inits.idxOf? f = none) (hfn : C.prog.funcs[f]? = some fn)
    (witness : ∃ (w : World) (tape : Tape) (i : Input), w.os = os ∧ (w.forCall tape i).Shaped C.prog ∧ i.vars = [] ∧ Input.okWide C.prog (w.forCall tape i) .any w.heap.size f i ∧
      s.pre6 enc C.prog fn [] false (w.forCall tape i).memory i.args ∧ ({} : Assume).holds C.prog (lone (Frame.enter C.prog f i.args .normal) [] (w.forCall tape i)))
    (hl : laidOutB C.prog = true) (hread : ∀ t ∈ fn.params.toList, C.prog.readableRec t = true ∧ t < C.prog.types.size) (hpt : ∀ t ∈ fn.params.toList, PT C.prog n t = true)
    (hvars : s.vars = []) (hspec : ∀ ds : List (DataW H), ds.length = fn.params.toList.length → s.fn H ds = { results := [.lit (.bool true)], args := ds }) (hrt : fn.resultTypes = #[tb]) (htb : C.prog.underlying tb = some .bool)
    (hK : KOk C.prog K) (hrun : ∀ l, FTs C.prog n fn.params.toList l → ∃ objs, K.pf f (argsOf C.prog fn.params.toList l) = some (.fv (.bool true), objs)) :
    ReturnsInHanded {} C os f .any (s.pre6 enc C.prog fn [] false) (s.post enc C.prog fn false true false false) := by
  refine returnsInHanded_of_change own started noInit hfn witness ?_
  intro W base args ds gs before hval hW _ _
  have hW' := hW
  obtain ⟨p, q, hA, hV, rfl, _, _⟩ := hW
  rw [hvars] at hV
  obtain ⟨rfl, rfl⟩ := trodVars_none hV
  have hX : ∀ b, b < W.heap.size → ¬ (fun _ : Nat => False) b := fun _ _ h => h
  obtain ⟨l, h1, h2⟩ := args_rel (P := C.prog) (X := fun _ => False) (n := n) (base := base) hX hpt (fun j t v a b => hval j t v (by rw [← Array.getElem?_toList]; exact a) (by rw [← Array.getElem?_toList]; exact b)) hA
  obtain ⟨objs, hpf⟩ := hrun l h1
  have hrels : Rels W (fun _ => False) (fun _ => none) (argsOf C.prog fn.params.toList l) args := by
    refine ⟨by have := (h2 (fun _ => none)).length_eq; simpa using this, fun j x v hx hv => ?_⟩
    rw [nth_eq] at hx
    exact (h2 (fun _ => none)).at j x v hx (by rw [Array.getElem?_toList]; exact hv)
  have hcall := (hK.pf f _ _ _ hpf).2 W (fun _ => False) args (fun _ h => h.elim) hrels (argsOf_isFV _ _)
  refine (callsIn_wide.1 hcall).mono ?_
  rintro e W' ⟨u, rfl, O', β', hst, _, hrel, _⟩
  have hu := hrel.bool_inv
  subst hu
  have hb : Below W.heap.size W W' := ⟨hst.out.os, hst.out.tape, hst.out.output, hst.size, fun k hk => hst.heap k hk (fun h => h)⟩
  have hlt : ∀ x ∈ p, x.block < W.heap.size := fun x hx => hW'.lt x (List.mem_append_left _ hx)
  have hdl : ds.length = fn.params.toList.length := by
    exact trodAll_len hA
  have hsp := hspec (ds ++ []) (by rw [List.append_nil]; exact hdl)
  refine ⟨_, rfl, ds, [], p ++ [], [], p, [], hW', ?_, ?_, ?_, hb.frame _, fun h => by cases h⟩
  · rw [hsp, hrt]
    refine ⟨[], [], ⟨1, ?_⟩, rfl, rfl⟩
    simp [DataW.trod, htb, Value.cells]
  · rw [hsp]
    simp only [List.append_nil]
    exact trodAll_below hl hb hread hA hlt
  · rw [hvars, hsp]; rfl
end
end Go.Gm
