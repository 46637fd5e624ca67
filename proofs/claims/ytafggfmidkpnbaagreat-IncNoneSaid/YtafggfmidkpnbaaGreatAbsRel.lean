/- What the abstract values say of the concrete ones. -/
import Derived.RangeFuncLeaves
import Derived.OrdersIn
import Derived.Test.YtafggfmidkpnbaaGreatAbsList
namespace Go.Gm

theorem nth_lt {α : Type} {l : List α} {i : Nat} {x : α} (h : nth l i = some x) : i < l.length := by
  rw [nth_eq] at h; exact (List.getElem?_eq_some_iff.1 h).1
theorem nth_some {α : Type} {l : List α} {i : Nat} (h : i < l.length) : ∃ x, nth l i = some x := by
  rw [nth_eq]; exact ⟨_, List.getElem?_eq_getElem h⟩

/-- where an object lies -/
structure Loc where
  b : Nat
  c : Nat
  sz : Nat
  n : Nat
  room : Nat
  closed : Bool
  deriving Inhabited

inductive RelF (w : World) (X : Nat → Prop) : FV → Value → Prop
  | undef : RelF w X .undef (.tuple #[])
  | bool (b : Bool) : RelF w X (.bool b) (.bool b)
  | int (k : IntKind) (n : Int) : RelF w X (.int k n) (.int k n)
  | str (s : ByteArray) : RelF w X (.str s) (.string s)
  | nilp : RelF w X .nilp (.pointer none)
  | nilm : RelF w X .nilm (.map none)
  | nilf : RelF w X .nilf .nilFunc
  | nili : RelF w X .nili .nilIface
  | fn (f : FuncId) : RelF w X (.fn f) (.func (.func f) #[] #[])
  | agg (cs : List FV) (vs : Array Value) (hlen : cs.length = vs.size)
      (h1 : ∀ j x, nth cs j = some x → x.one = true)
      (h : ∀ j x v, nth cs j = some x → vs[j]? = some v → RelF w X x v) : RelF w X (.agg cs) (.agg vs)
  | tup (cs : List FV) (vs : Array Value) (hlen : cs.length = vs.size)
      (h : ∀ j x v, nth cs j = some x → vs[j]? = some v → RelF w X x v) : RelF w X (.tup cs) (.tuple vs)
  | sl (rows : List (List FV)) (tight : Bool) (a : Option Addr) (cap sz : Nat) (cv : Nat → Nat → Value)
      (hcap : rows.length ≤ cap) (ht : tight = true → cap = rows.length)
      (ha : rows ≠ [] → ∃ ad, a = some ad ∧ ad.spot = none ∧ ¬ X ad.block ∧ ad.block < w.heap.size)
      (hsz : ∀ i row, nth rows i = some row → row.length = sz)
      (h1 : ∀ i row j x, nth rows i = some row → nth row j = some x → x.one = true)
      (hc : ∀ ad i row j x, a = some ad → nth rows i = some row → nth row j = some x → w.cell? ⟨ad.block, ad.off + (i * sz + j), none⟩ = some (cv i j))
      (h : ∀ i row j x, nth rows i = some row → nth row j = some x → RelF w X x (cv i j)) : RelF w X (.sl rows tight) (.slice a rows.length cap)
  | fp (cs : List FV) (ad : Addr) (cv : Nat → Value) (hs : ad.spot = none) (hx : ¬ X ad.block) (hb : ad.block < w.heap.size)
      (h1 : ∀ j x, nth cs j = some x → x.one = true)
      (hc : ∀ j x, nth cs j = some x → w.cell? ⟨ad.block, ad.off + j, none⟩ = some (cv j))
      (h : ∀ j x, nth cs j = some x → RelF w X x (cv j)) : RelF w X (.fp cs) (.pointer (some ad))

inductive Rel (w : World) (X : Nat → Prop) (β : Nat → Option Loc) : AV → Value → Prop
  | fv (x : FV) (v : Value) (h : RelF w X x v) : Rel w X β (.fv x) v
  | ptr (o i j : Nat) (l : Loc) (h : β o = some l) : Rel w X β (.ptr o i j) (.pointer (some ⟨l.b, l.c + (i * l.sz + j), none⟩))
  | osl (o off len cap : Nat) (app : Bool) (l : Loc) (h : β o = some l) (hlen : len ≤ cap) (hcap : off + cap ≤ l.room)
      (happ : app = true → l.n ≤ off + cap) : Rel w X β (.osl o off len app) (.slice (some ⟨l.b, l.c + off * l.sz, none⟩) len cap)
  | map (o : Nat) (l : Loc) (h : β o = some l) : Rel w X β (.map o) (.map (some l.b))
  | yld (o : Nat) (l : Loc) (h : β o = some l) : Rel w X β (.yld o) (.func (.yield l.b) #[] #[])
  | clo (f : FuncId) (cap : List AV) (vs : Array Value) (hlen : cap.length = vs.size)
      (h : ∀ j x v, nth cap j = some x → vs[j]? = some v → Rel w X β x v) : Rel w X β (.clo f cap) (.func (.func f) #[] vs)
  | agg (cs : List AV) (vs : Array Value) (hlen : cs.length = vs.size) (h1 : ∀ j x, nth cs j = some x → x.one = true)
      (h : ∀ j x v, nth cs j = some x → vs[j]? = some v → Rel w X β x v) : Rel w X β (.agg cs) (.agg vs)
  | tup (cs : List AV) (vs : Array Value) (hlen : cs.length = vs.size)
      (h : ∀ j x v, nth cs j = some x → vs[j]? = some v → Rel w X β x v) : Rel w X β (.tup cs) (.tuple vs)

theorem RelF.oneCell {w : World} {X : Nat → Prop} {x : FV} {v : Value} (h : RelF w X x v) (h1 : x.one = true) : v.oneCell' = true := by
  cases h <;> first | rfl | simp [FV.one] at h1
theorem Rel.oneCell {w : World} {X : Nat → Prop} {β : Nat → Option Loc} {x : AV} {v : Value} (h : Rel w X β x v) (h1 : x.one = true) : v.oneCell' = true := by
  cases h <;> first | rfl | (rename_i h; exact h.oneCell h1) | simp [AV.one] at h1

/-- what stands in blocks that are not forbidden stays -/
structure Still (w : World) (X : Nat → Prop) (w' : World) (X' : Nat → Prop) : Prop where
  heap : ∀ b, b < w.heap.size → ¬ X b → w'.heap[b]? = w.heap[b]?
  size : w.heap.size ≤ w'.heap.size
  bar : ∀ b, X' b → X b ∨ w.heap.size ≤ b

theorem Still.refl (w : World) (X : Nat → Prop) : Still w X w X := ⟨fun _ _ _ => rfl, Nat.le_refl _, fun _ h => .inl h⟩
theorem Still.trans {w w' w'' : World} {X X' X'' : Nat → Prop} (h : Still w X w' X') (h' : Still w' X' w'' X'') : Still w X w'' X'' := by
  refine ⟨fun b hb hx => ?_, Nat.le_trans h.size h'.size, fun b hb => ?_⟩
  · have hx' : ¬ X' b := fun c => by
      rcases h.bar b c with c | c
      · exact hx c
      · omega
    rw [h'.heap b (Nat.lt_of_lt_of_le hb h.size) hx', h.heap b hb hx]
  · rcases h'.bar b hb with c | c
    · exact h.bar b c
    · exact .inr (Nat.le_trans h.size c)

theorem cell_lt {w : World} {a : Addr} {v : Value} (h : w.cell? a = some v) : a.block < w.heap.size := by
  unfold World.cell? at h
  split at h
  · rename_i hb; exact (Array.getElem?_eq_some_iff.1 hb).1
  · cases h
theorem Still.cell {w w' : World} {X X' : Nat → Prop} (h : Still w X w' X') {a : Addr} {v : Value} (hx : ¬ X a.block) (hc : w.cell? a = some v) : w'.cell? a = some v := by
  have hb := cell_lt hc
  unfold World.cell? at *
  rw [h.heap _ hb hx]; exact hc
theorem Still.bar' {w w' : World} {X X' : Nat → Prop} (h : Still w X w' X') {b : Nat} (hb : b < w.heap.size) (hx : ¬ X b) : ¬ X' b := fun c => by
  rcases h.bar b c with c | c
  · exact hx c
  · omega

theorem nth_of_mem_ne {α : Type} {l : List α} (h : l ≠ []) : ∃ x, nth l 0 = some x := by
  cases l with
  | nil => exact absurd rfl h
  | cons a l => exact ⟨a, rfl⟩

theorem RelF.mono {w w' : World} {X X' : Nat → Prop} (hs : Still w X w' X') {x : FV} {v : Value} (h : RelF w X x v) : RelF w' X' x v := by
  induction h with
  | undef => exact .undef
  | bool b => exact .bool b
  | int k n => exact .int k n
  | str s => exact .str s
  | nilp => exact .nilp
  | nilm => exact .nilm
  | nilf => exact .nilf
  | nili => exact .nili
  | fn f => exact .fn f
  | agg cs vs hlen h1 _ ih => exact .agg cs vs hlen h1 ih
  | tup cs vs hlen _ ih => exact .tup cs vs hlen ih
  | sl rows tight a cap sz cv hcap ht ha hsz h1 hc _ ih =>
    refine .sl rows tight a cap sz cv hcap ht ?_ hsz h1 ?_ ih
    · intro hne
      obtain ⟨ad, ha', hsp, hX, hb⟩ := ha hne
      exact ⟨ad, ha', hsp, hs.bar' hb hX, Nat.lt_of_lt_of_le hb hs.size⟩
    · intro ad i row j x he hi hx
      have hne : rows ≠ [] := by intro e; subst e; simp [nth] at hi
      obtain ⟨ad', ha', hsp, hX, hb⟩ := ha hne
      rw [he] at ha'; cases ha'
      exact hs.cell hX (hc ad i row j x he hi hx)
  | fp cs ad cv hsp hX hb h1 hc _ ih =>
    exact .fp cs ad cv hsp (hs.bar' hb hX) (Nat.lt_of_lt_of_le hb hs.size) h1 (fun j x hj => hs.cell hX (hc j x hj)) ih

def Ext (β β' : Nat → Option Loc) : Prop := ∀ (o : Nat) (l : Loc), β o = some l → β' o = some l
theorem Ext.refl (β : Nat → Option Loc) : Ext β β := fun _ _ h => h
theorem Ext.trans {a b c : Nat → Option Loc} (h : Ext a b) (h' : Ext b c) : Ext a c := fun o l x => h' o l (h o l x)
theorem Rel.mono {w w' : World} {X X' : Nat → Prop} {β β' : Nat → Option Loc} (hs : Still w X w' X') (hb : Ext β β') {x : AV} {v : Value} (h : Rel w X β x v) : Rel w' X' β' x v := by
  induction h with
  | fv x v h => exact .fv x v (h.mono hs)
  | ptr o i j l h => exact .ptr o i j l (hb _ _ h)
  | osl o off len cap app l h hlen hcap happ => exact .osl o off len cap app l (hb _ _ h) hlen hcap happ
  | map o l h => exact .map o l (hb _ _ h)
  | yld o l h => exact .yld o l (hb _ _ h)
  | clo f cap vs hlen _ ih => exact .clo f cap vs hlen ih
  | agg cs vs hlen h1 _ ih => exact .agg cs vs hlen h1 ih
  | tup cs vs hlen _ ih => exact .tup cs vs hlen ih

/-! ### lists of values -/
def Rels (w : World) (X : Nat → Prop) (β : Nat → Option Loc) (xs : List AV) (vs : Array Value) : Prop :=
  xs.length = vs.size ∧ ∀ j x v, nth xs j = some x → vs[j]? = some v → Rel w X β x v
theorem Rels.mono {w w' : World} {X X' : Nat → Prop} {β β' : Nat → Option Loc} (hs : Still w X w' X') (hb : Ext β β') {xs : List AV} {vs : Array Value} (h : Rels w X β xs vs) : Rels w' X' β' xs vs :=
  ⟨h.1, fun j x v a b => (h.2 j x v a b).mono hs hb⟩

/-! ### frames -/
def FrR (w : World) (X : Nat → Prop) (β : Nat → Option Loc) (n : Nat) (T : Fr) (tmps : Array Value) : Prop :=
  tmps.size = n ∧ ∀ (t : Nat) (v : Value), tmps[t]? = some v → Rel w X β (T t) v
theorem FrR.mono {w w' : World} {X X' : Nat → Prop} {β β' : Nat → Option Loc} (hs : Still w X w' X') (hb : Ext β β') {n : Nat} {T : Fr} {tmps : Array Value} (h : FrR w X β n T tmps) : FrR w' X' β' n T tmps :=
  ⟨h.1, fun t v e => (h.2 t v e).mono hs hb⟩
theorem FrR.put {w : World} {X : Nat → Prop} {β : Nat → Option Loc} {n : Nat} {T : Fr} {tmps : Array Value} (h : FrR w X β n T tmps) {x : AV} {v : Value} (hv : Rel w X β x v) (d : Option Tmp) :
    FrR w X β n (putT n d T x) (match d with | some t => tmps.setIfInBounds t v | none => tmps) := by
  cases d with
  | none => exact h
  | some t =>
    refine ⟨by simp [h.1], fun u v' e => ?_⟩
    unfold putT
    by_cases hlt : t < n
    · have hb : Nat.blt t n = true := by simpa using hlt
      simp only [hb, cond_true]
      rw [bif_beq]
      by_cases hu : u = t
      · subst hu
        rw [if_pos rfl]
        simp only [] at e
        rw [Array.getElem?_setIfInBounds_self_of_lt (by rw [h.1]; exact hlt)] at e
        cases e; exact hv
      · rw [if_neg hu]
        simp only [] at e
        rw [Array.getElem?_setIfInBounds_ne (fun c => hu c.symm)] at e
        exact h.2 u v' e
    · have hb : Nat.blt t n = false := by
        cases hh : Nat.blt t n with
        | false => rfl
        | true => exact absurd (by simpa using hh) hlt
      simp only [hb, cond_false]
      simp only [] at e
      by_cases hu : u = t
      · subst hu
        rw [Array.getElem?_eq_none (by rw [Array.size_setIfInBounds, h.1]; exact Nat.le_of_not_lt hlt)] at e; cases e
      · rw [Array.getElem?_setIfInBounds_ne (fun c => hu c.symm)] at e
        exact h.2 u v' e

/-! ### objects -/
/-- when a map's entries came -/
def Born (es : Array MapEntry) (clock : Nat) : Prop := (∀ x ∈ es.toList, x.born < clock) ∧ (es.toList.map (·.born)).Nodup
theorem born_empty (clock : Nat) : Born #[] clock := ⟨by simp, by simp⟩
theorem born_push {es : Array MapEntry} {clock : Nat} (h : Born es clock) (key val : Value) : Born (es.push { key, val, born := clock }) (clock + 1) := by
  refine ⟨fun x hx => ?_, ?_⟩
  · rw [Array.toList_push, List.mem_append, List.mem_singleton] at hx
    rcases hx with hx | rfl
    · have := h.1 x hx; omega
    · exact Nat.lt_succ_self _
  · rw [Array.toList_push, List.map_append, List.nodup_append]
    refine ⟨h.2, by simp, fun a ha b hb => ?_⟩
    simp only [List.map_cons, List.map_nil, List.mem_singleton] at hb
    obtain ⟨x, hx, rfl⟩ := List.mem_map.1 ha
    have := h.1 x hx
    omega
theorem born_modify {es : Array MapEntry} {clock : Nat} (h : Born es clock) (i : Nat) (f : MapEntry → MapEntry) (hf : ∀ e, (f e).born = e.born) : Born (es.modify i f) clock := by
  have hm : (es.modify i f).toList.map (·.born) = es.toList.map (·.born) := by
    apply List.ext_getElem?
    intro j
    simp only [List.getElem?_map, Array.getElem?_toList, Array.getElem?_modify]
    split
    · cases es[j]? <;> simp [hf]
    · rfl
  refine ⟨fun x hx => ?_, by rw [hm]; exact h.2⟩
  have : x.born ∈ (es.modify i f).toList.map (·.born) := List.mem_map_of_mem hx
  rw [hm] at this
  obtain ⟨y, hy, e⟩ := List.mem_map.1 this
  rw [← e]; exact h.1 y hy
theorem born_erase {es : Array MapEntry} {clock : Nat} (h : Born es clock) (i : Nat) : Born (es.eraseIdxIfInBounds i) clock := by
  have hs : (es.eraseIdxIfInBounds i).toList.Sublist es.toList := by
    unfold Array.eraseIdxIfInBounds
    split
    · simp only [Array.toList_eraseIdx]; exact List.eraseIdx_sublist _ _
    · exact List.Sublist.refl _
  exact ⟨fun x hx => h.1 x (hs.subset hx), h.2.sublist (hs.map _)⟩

def ObjR (w : World) (X : Nat → Prop) (β : Nat → Option Loc) (l : Loc) : AObj → Prop
  | .dead => True
  | .arr sz rows closed => l.sz = sz ∧ l.n = rows.length ∧ l.closed = closed ∧ (closed = true → l.room = l.n ∧ l.c = 0) ∧ l.n ≤ l.room ∧ 0 < sz ∧
      ∃ cs elem, w.heap[l.b]? = some (.cells cs elem (0, 0)) ∧ l.c + l.room * sz ≤ cs.size ∧
        ∀ i row, nth rows i = some row → row.length = sz ∧
          ∀ j x, nth row j = some x → x.one = true ∧ ∃ v, cs[l.c + (i * sz + j)]? = some v ∧ Rel w X β x v
  | .map es => ∃ entries clock, w.heap[l.b]? = some (.map entries clock) ∧ Born entries clock ∧ entries.size = es.length ∧
      ∀ i kv, nth es i = some kv → ∃ e, entries[i]? = some e ∧ RelF w X kv.1 e.key ∧ Rel w X β kv.2 e.val
  | .loop st pending n T ps assign body db => ∃ fn tmps ld, w.heap[l.b]? = some (.loop { state := st, pending := pending, fn := fn, tmps := tmps, params := ps.toArray, assign := assign, body := body, defers := ld.b }) ∧
      FrR w X β n T tmps ∧ β db = some ld
  | .dblk => w.heap[l.b]? = some (.deferred (some []))

def AObj.alive : AObj → Bool
  | .dead => false
  | _ => true

theorem ObjR.lt {w : World} {X : Nat → Prop} {β : Nat → Option Loc} {l : Loc} {obj : AObj} (h : ObjR w X β l obj) (ha : obj.alive = true) : l.b < w.heap.size := by
  have key : ∀ (o : Obj), w.heap[l.b]? = some o → l.b < w.heap.size := fun o e => (Array.getElem?_eq_some_iff.1 e).1
  cases obj with
  | dead => simp [AObj.alive] at ha
  | arr sz rows closed => obtain ⟨_, _, _, _, _, _, cs, e, hh, _⟩ := h; exact key _ hh
  | map es => obtain ⟨a, b, hh, _⟩ := h; exact key _ hh
  | loop st p n T ps a b db => obtain ⟨_, _, _, hh, _⟩ := h; exact key _ hh
  | dblk => exact key _ h

theorem ObjR.mono {w w' : World} {X X' : Nat → Prop} {β β' : Nat → Option Loc} (hs : Still w X w' X') (hb : Ext β β') {l : Loc} {obj : AObj}
    (hw : w'.heap[l.b]? = w.heap[l.b]?) (h : ObjR w X β l obj) : ObjR w' X' β' l obj := by
  cases obj with
  | dead => trivial
  | arr sz rows closed =>
    obtain ⟨h1, h2, h3, h4, h5, h6, cs, e, hh, hsz, hr⟩ := h
    refine ⟨h1, h2, h3, h4, h5, h6, cs, e, hw.trans hh, hsz, fun i row hi => ⟨(hr i row hi).1, fun j x hx => ?_⟩⟩
    obtain ⟨ho, v, hv, hrel⟩ := (hr i row hi).2 j x hx
    exact ⟨ho, v, hv, hrel.mono hs hb⟩
  | map es =>
    obtain ⟨en, cl, hh, hbn, hsz, hr⟩ := h
    refine ⟨en, cl, hw.trans hh, hbn, hsz, fun i kv hi => ?_⟩
    obtain ⟨e, he, hk, hv⟩ := hr i kv hi
    exact ⟨e, he, hk.mono hs, hv.mono hs hb⟩
  | loop st p n T ps a b db =>
    obtain ⟨fn, tmps, ld, hh, hf, hd⟩ := h
    exact ⟨fn, tmps, ld, hw.trans hh, hf.mono hs hb, hb _ _ hd⟩
  | dblk => exact hw.trans h

/-- forbidden to frozen values: what is ours, and what is others' -/
def bar (O F : Nat → Prop) : Nat → Prop := fun b => O b ∨ F b

structure SR (w : World) (O F : Nat → Prop) (β : Nat → Option Loc) (G : Nat → AObj) : Prop where
  obj : ∀ o l, β o = some l → ObjR w (bar O F) β l (G o)
  has : ∀ o, (G o).alive = true → ∃ l, β o = some l
  own : ∀ o l, (G o).alive = true → β o = some l → O l.b
  inj : ∀ o o' l l', (G o).alive = true → (G o').alive = true → β o = some l → β o' = some l' → o ≠ o' → l.b ≠ l'.b
  lt : ∀ b, O b → b < w.heap.size
  flt : ∀ b, F b → b < w.heap.size
  dis : ∀ b, O b → ¬ F b

/-- what is others': their blocks; numbers that are kept free for others -/
structure Fo where
  blk : Nat → Prop
  num : Nat → Prop
instance : Coe Fo (Nat → Prop) := ⟨Fo.blk⟩
/-- the whole heap -/
def SRH (w : World) (O : Nat → Prop) (F : Fo) (β : Nat → Option Loc) (H : Heap) : Prop :=
  SR w O F.blk β H.get ∧ (∀ o, H.n ≤ o → H.get o = .dead ∧ β o = none) ∧ H.n ≤ 1152921504606846976 ∧ ∀ o, F.num o → o < H.n ∧ β o = none

/-- nothing was told to the outside -/
structure Same (w w' : World) : Prop where
  os : w'.os = w.os
  output : w'.output = w.output
  tape : w'.tape = w.tape
theorem Same.refl (w : World) : Same w w := ⟨rfl, rfl, rfl⟩
theorem Same.trans {w w' w'' : World} (h : Same w w') (h' : Same w' w'') : Same w w'' := ⟨h'.os.trans h.os, h'.output.trans h.output, h'.tape.trans h.tape⟩
/-- from one world to a later one, within one frame -/
structure Step (w : World) (O : Nat → Prop) (β : Nat → Option Loc) (w' : World) (O' : Nat → Prop) (β' : Nat → Option Loc) : Prop where
  heap : ∀ b, b < w.heap.size → ¬ O b → w'.heap[b]? = w.heap[b]?
  size : w.heap.size ≤ w'.heap.size
  own : ∀ b, O' b → O b ∨ w.heap.size ≤ b
  ext : Ext β β'
  out : Same w w'

theorem Step.refl (w : World) (O : Nat → Prop) (β : Nat → Option Loc) : Step w O β w O β := ⟨fun _ _ _ => rfl, Nat.le_refl _, fun _ h => .inl h, Ext.refl _, Same.refl _⟩
theorem Step.trans {w w' w'' : World} {O O' O'' : Nat → Prop} {β β' β'' : Nat → Option Loc} (h : Step w O β w' O' β') (h' : Step w' O' β' w'' O'' β'') : Step w O β w'' O'' β'' := by
  refine ⟨fun b hb hx => ?_, Nat.le_trans h.size h'.size, fun b hb => ?_, h.ext.trans h'.ext, h.out.trans h'.out⟩
  · have hx' : ¬ O' b := fun c => by
      rcases h.own b c with c | c
      · exact hx c
      · omega
    rw [h'.heap b (Nat.lt_of_lt_of_le hb h.size) hx', h.heap b hb hx]
  · rcases h'.own b hb with c | c
    · exact h.own b c
    · exact .inr (Nat.le_trans h.size c)
theorem Step.still {w w' : World} {O O' : Nat → Prop} {β β' : Nat → Option Loc} (h : Step w O β w' O' β') (F : Nat → Prop) : Still w (bar O F) w' (bar O' F) :=
  ⟨fun b hb hx => h.heap b hb fun c => hx (.inl c), h.size, fun b hb => by
    rcases hb with hb | hb
    · rcases h.own b hb with c | c
      · exact .inl (.inl c)
      · exact .inr c
    · exact .inl (.inr hb)⟩
end Go.Gm
