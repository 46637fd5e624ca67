/- Summaries: the keys of a map, sorted. -/
import Derived.RangeFuncGives
import Derived.Lib.SlKeysI
import Derived.Test.YtafggfmidkpnbaaGreatAbsAll
namespace Go.Gm
open Go.RowKit Go.Maps

/-- the library's sort of a map's keys -/
structure SortedOk (P : Program) (f : FuncId) (kt : TypeId) (keys : FuncId → Bool) : Prop where
  ku : P.underlying kt = some (.int .i64)
  enters : Enters P f
  sorted : ∀ (g : Nat) (lb : Array Value) (S : List Int → Prop) (N : Nat) (w : World), keys g = true → N ≤ 4294967296 → SeqGives Fence.wide 2 P g lb encZ S N w →
    CallsIn Fence.wide 5 P f #[.func (.func g) #[] lb] w fun e w' => ∃ (v : Value) (ss : List Int), e = .returned v ∧ S ss ∧
      w'.ownsRow w.heap.size kt 1 v ss.length ((ss.mergeSort (fun x y => decide (x ≤ y))).map encZ) ∧ (v = .slice none 0 0 ↔ ss = []) ∧ Below w.heap.size w w'
  haskeys : ∀ g, keys g = true → ∀ (Bm b nn : Nat) (D0 : DataW Unit) (R : Value → Option (DataW Unit × List MemPlace)) (w : World), Bm < w.heap.size → w.cell? ⟨Bm, 0, none⟩ = some (.map (some b)) → w.ownsMap P kt R b nn D0 →
    SeqGives Fence.wide 2 P g #[.pointer (some ⟨Bm, 0, none⟩)] encZ (fun ss => ss.Perm (intKeys D0)) (Maps.size D0) w
  nokeys : ∀ g, keys g = true → ∀ (Bm : Nat) (w : World), Bm < w.heap.size → w.cell? ⟨Bm, 0, none⟩ = some (.map none) →
    SeqGives Fence.wide 2 P g #[.pointer (some ⟨Bm, 0, none⟩)] encZ (fun ss => ss = []) 0 w

section
variable {P : Program} {w w' : World} {O F : Nat → Prop} {X : Nat → Prop} {β : Nat → Option Loc} {G : Nat → AObj} {b : Nat}

theorem below_same {w w' : World} {B : Nat} (h : Below B w w') : Same w w' := ⟨h.os, h.output, h.tape⟩

/-- a block that came to be meanwhile, a new object -/
theorem SR.add (h : SR w O F β G) (hb : Below w.heap.size w w') {p : Nat} {l : Loc} {x : AObj} (hG : G p = .dead) (hβ : β p = none) (hlb : w.heap.size ≤ l.b) (hlt : l.b < w'.heap.size)
    (hx : ∀ (O' : Nat → Prop) (β' : Nat → Option Loc), Step w O β w' O' β' → ObjR w' (bar O' F) β' l x) :
    SR w' (fun c => O c ∨ c = l.b) F (upd β p (some l)) (upd G p x) ∧ Step w O β w' (fun c => O c ∨ c = l.b) (upd β p (some l)) := by
  have hst : Step w O β w' (fun c => O c ∨ c = l.b) (upd β p (some l)) := by
    refine ⟨fun c hc _ => hb.block c hc, hb.size, fun c hc => ?_, fun o l' ho => ?_, below_same hb⟩
    · rcases hc with hc | hc
      · exact .inl hc
      · exact .inr (by rw [hc]; exact hlb)
    · unfold upd
      by_cases hop : o = p
      · subst hop; rw [hβ] at ho; cases ho
      · rw [if_neg hop]; exact ho
  have hbl : ∀ q lq, (G q).alive = true → β q = some lq → lq.b < w.heap.size := fun q lq ha hq => (h.obj q lq hq).lt ha
  have alive : ∀ q, q ≠ p → (upd G p x q).alive = (G q).alive := fun q hq => by unfold upd; rw [if_neg hq]
  have bet : ∀ q, q ≠ p → upd β p (some l) q = β q := fun q hq => by unfold upd; rw [if_neg hq]
  have at_p : upd β p (some l) p = some l := by unfold upd; rw [if_pos rfl]
  refine ⟨⟨fun q lq hq => ?_, fun q hq => ?_, fun q lq hq hb' => ?_, fun q q' lq lq' hq hq' hb1 hb2 hne => ?_, fun c hc => ?_, fun c hc => Nat.lt_of_lt_of_le (h.flt c hc) hb.size, fun c hc hf => ?_⟩, hst⟩
  · by_cases hqp : q = p
    · subst hqp
      rw [at_p] at hq; cases hq
      unfold upd; rw [if_pos rfl]
      exact hx _ _ hst
    · rw [bet q hqp] at hq
      unfold upd; rw [if_neg hqp]
      by_cases hal : (G q).alive = true
      · exact (h.obj q lq hq).mono (hst.still F) hst.ext (hb.block _ (hbl q lq hal hq))
      · cases hGq : G q <;> simp [hGq, AObj.alive] at hal; trivial
  · by_cases hqp : q = p
    · subst hqp; exact ⟨l, at_p⟩
    · rw [alive q hqp] at hq; rw [bet q hqp]; exact h.has q hq
  · by_cases hqp : q = p
    · subst hqp; rw [at_p] at hb'; cases hb'; exact .inr rfl
    · rw [alive q hqp] at hq; rw [bet q hqp] at hb'; exact .inl (h.own q lq hq hb')
  · by_cases hqp : q = p
    · subst hqp
      rw [at_p] at hb1; cases hb1
      have hq2 : q' ≠ q := fun e => hne e.symm
      rw [alive q' hq2] at hq'; rw [bet q' hq2] at hb2
      have := hbl q' lq' hq' hb2; omega
    · rw [alive q hqp] at hq; rw [bet q hqp] at hb1
      by_cases hqp' : q' = p
      · subst hqp'
        rw [at_p] at hb2; cases hb2
        have := hbl q lq hq hb1; omega
      · rw [alive q' hqp'] at hq'; rw [bet q' hqp'] at hb2
        exact h.inj q q' lq lq' hq hq' hb1 hb2 hne
  · rcases hc with hc | hc
    · exact Nat.lt_of_lt_of_le (h.lt c hc) hb.size
    · rw [hc]; exact hlt
  · rcases hc with hc | hc
    · exact h.dis c hc hf
    · have := h.flt c hf; omega

theorem insI_perm (k : FV) : ∀ (l : List FV), (insI k l).Perm (k :: l)
  | [] => .refl _
  | x :: l => by
    unfold insI
    split
    · split
      · exact .refl _
      · exact ((insI_perm _ l).cons _).trans (List.Perm.swap _ _ _)
    · exact ((insI_perm k l).cons x).trans (List.Perm.swap _ _ _)
theorem sortI_perm : ∀ (l : List FV), (sortI l).Perm l
  | [] => .refl _
  | k :: l => by
    unfold sortI
    exact (insI_perm k _).trans ((sortI_perm l).cons k)
theorem risingI_spec : ∀ {l : List FV}, risingI l = true → ∃ ns : List Int, l = ns.map (FV.int .i64) ∧ (∀ n ∈ ns, (Lit.int .i64 n).wf = true) ∧ ns.Pairwise (fun a b => a < b)
  | [], _ => ⟨[], rfl, nofun, .nil⟩
  | k :: l, h => by
    unfold risingI at h
    rw [Bool.and_eq_true] at h
    obtain ⟨h1, h2⟩ := h
    obtain ⟨ns, rfl, hw, hp⟩ := risingI_spec h2
    split at h1
    · rename_i a
      simp only [Bool.and_eq_true, decide_eq_true_eq] at h1
      refine ⟨a :: ns, rfl, fun n hn => ?_, ?_⟩
      · rcases List.mem_cons.1 hn with rfl | hn
        · have e1 : IntKind.i64.min = -9223372036854775808 := by decide
          have e2 : IntKind.i64.max = 9223372036854775807 := by decide
          simp only [Lit.wf, Bool.and_eq_true, decide_eq_true_eq, e1, e2]
          exact ⟨h1.1.1, h1.1.2⟩
        · exact hw n hn
      · cases ns with
        | nil => exact List.pairwise_cons.2 ⟨nofun, .nil⟩
        | cons c ns =>
          have hac : a < c := by simpa using h1.2
          refine List.pairwise_cons.2 ⟨fun d hd => ?_, hp⟩
          rcases List.mem_cons.1 hd with rfl | hd
          · exact hac
          · exact Int.lt_trans hac ((List.pairwise_cons.1 hp).1 d hd)
    · cases h1

theorem insert_perm {H : Type} (x : Lit × DataW H) : ∀ (l : List (Lit × DataW H)), (DataW.insert x l).Perm (x :: l)
  | [] => .refl _
  | y :: r => by
    unfold DataW.insert
    split
    · exact .refl _
    · exact ((insert_perm x r).cons y).trans (List.Perm.swap _ _ _)
theorem inserts_perm {H : Type} : ∀ (l : List (Lit × DataW H)), (l.foldr DataW.insert []).Perm l
  | [] => .refl _
  | x :: l => by
    simp only [List.foldr_cons]
    exact (insert_perm x _).trans ((inserts_perm l).cons x)

def kof (x : MapEntry) : Int := match x.key with | .int _ n => n | _ => 0
def fof (k : FV) : Int := match k with | .int _ n => n | _ => 0
theorem sortedS_sound {f : FuncId} {kt : TypeId} {keys : FuncId → Bool} (hs : SortedOk P f kt keys) {args : List AV} {H : Heap} {v : AV} {objs : List AObj} (h : sortedS keys args H b = some (v, objs)) {vs : Array Value}
    (hsr : SR w O F β G) (hargs : Rels w (bar O F) β args vs) (hG : ∀ o, o ∈ sortedR args H → G o = H.get o) (hole : Hole G β b objs.length) :
    CallsIn Fence.wide 0 P f vs w (fun e w' => ∃ u, e = .returned u ∧ NRes w O F β G b v objs u w') := by
  unfold sortedS at h
  split at h
  · rename_i g o
    -- the argument
    have h1 := hargs.1
    simp only [List.length_cons, List.length_nil] at h1
    have hv : ∃ v0, vs = #[v0] := Array.size_eq_one_iff.1 h1.symm
    obtain ⟨v0, rfl⟩ := hv
    have hr0 := hargs.2 0 _ v0 rfl rfl
    obtain ⟨cv, rfl, hcl, hcr⟩ := hr0.clo_inv
    simp only [List.length_cons, List.length_nil] at hcl
    have hv : ∃ v1, cv = #[v1] := Array.size_eq_one_iff.1 hcl.symm
    obtain ⟨v1, rfl⟩ := hv
    have hr1 := hcr 0 _ v1 rfl rfl
    obtain ⟨lo, hlo, rfl⟩ : ∃ lo, β o = some lo ∧ v1 = .pointer (some ⟨lo.b, lo.c + (0 * lo.sz + 0), none⟩) := by cases hr1 with | ptr o i j l hl => exact ⟨l, hl, rfl⟩
    cases hk : keys g with
    | false => simp [hk] at h
    | true =>
      simp only [hk, cond_true] at h
      split at h
      · rename_i m ho
        have hGo : G o = .arr 1 [[.map m]] true := by rw [hG o (by simp [sortedR]), ho]
        have hobj := hsr.obj o lo hlo
        rw [hGo] at hobj
        obtain ⟨a1, a2, _, a4, _, _, cs, elem, a7, a8, a9⟩ := hobj
        have hc0 := (a4 rfl).2
        obtain ⟨_, u, hu, hru⟩ := (a9 0 _ rfl).2 0 _ rfl
        obtain ⟨lm, hlm, rfl⟩ : ∃ lm, β m = some lm ∧ u = .map (some lm.b) := by cases hru with | map o l hl => exact ⟨l, hl, rfl⟩
        have hgm : ∀ es, H.get m = .map es → G m = .map es := fun es he => by rw [hG m (by simp [sortedR, ho]), he]
        split at h
        · rename_i es hes
          have hGm := hgm es hes
          have hobm := hsr.obj m lm hlm
          rw [hGm] at hobm
          obtain ⟨entries, clock, b1, b2, b3, b4⟩ := hobm
          cases hchk : (risingI (sortI (mapN (·.1) es)) && Nat.ble (lenN (sortI (mapN (·.1) es))) 4294967296) with
          | false => simp [hchk] at h
          | true =>
            simp only [hchk, cond_true] at h
            rw [Bool.and_eq_true, Nat.ble_eq, lenN_eq] at hchk
            obtain ⟨ns, hns, hwf, hrise⟩ := risingI_spec hchk.1
            rw [mapN_eq] at hns h hchk
            rw [hns] at h hchk
            have hperm : (es.map (·.1)).Perm (ns.map (FV.int .i64)) := by rw [← hns]; exact (sortI_perm _).symm
            -- the entries' keys
            have hkey : ∀ (i : Nat) (kv : FV × AV), es[i]? = some kv → ∃ (e : MapEntry) (n : Int), entries[i]? = some e ∧ kv.1 = FV.int .i64 n ∧ e.key = Value.int .i64 n ∧ n ∈ ns := fun i kv hi => by
              obtain ⟨e, c1, c2, _⟩ := b4 i kv (by rw [nth_eq]; exact hi)
              have hmem : kv.1 ∈ ns.map (FV.int .i64) := hperm.mem_iff.1 (List.mem_map_of_mem (List.mem_of_getElem? hi))
              obtain ⟨n, hn, hkn⟩ := List.mem_map.1 hmem
              rw [← hkn] at c2
              cases c2' : e.key <;> rw [c2'] at c2 <;> cases c2
              exact ⟨e, n, c1, hkn.symm, c2', hn⟩
            have hkeys : entries.toList.map kof = (es.map (·.1)).map fof := by
              apply List.ext_getElem?
              intro i
              rw [List.map_map, List.getElem?_map, List.getElem?_map, Array.getElem?_toList]
              cases hi : es[i]? with
              | none =>
                have : entries[i]? = none := by rw [Array.getElem?_eq_none]; rw [b3]; exact List.getElem?_eq_none_iff.1 hi
                rw [this]; rfl
              | some kv =>
                obtain ⟨e, n, c1, c2, c3, _⟩ := hkey i kv hi
                rw [c1]
                simp only [Option.map_some, Function.comp, c2, kof, fof, c3]
            have hkp : (entries.toList.map kof).Perm ns := by
              rw [hkeys]
              have := hperm.map fof
              refine this.trans ?_
              rw [List.map_map]
              exact List.Perm.of_eq (by
                conv => rhs; rw [← List.map_id ns]
                rfl)
            have hent : ∀ x ∈ entries.toList, x.key = .int .i64 (kof x) ∧ kof x ∈ ns := fun x hx => by
              obtain ⟨i, hi, rfl⟩ := List.mem_iff_getElem.1 hx
              simp only [Array.length_toList] at hi
              have hi' : i < es.length := by rw [← b3]; exact hi
              obtain ⟨e, n, c1, c2, c3, c4⟩ := hkey i es[i] (by simp [hi'])
              have : entries[i] = e := by rw [Array.getElem?_eq_getElem hi] at c1; exact Option.some.inj c1
              simp only [Array.getElem_toList]
              rw [this]
              simp only [kof, c3]
              exact ⟨trivial, c4⟩
            have hnd : ns.Nodup := hrise.imp fun {a b} hab => by omega
            have hsize : entries.size = ns.length := by
              have := hkp.length_eq
              simpa using this
            let R : Value → Option (DataW Unit × List MemPlace) := fun _ => some (.nil, [])
            have hrd : ∀ x ∈ entries.toList, WideElems.rd P kt R x = some (.int .i64 (kof x), .nil) := fun x hx => by
              obtain ⟨c1, c2⟩ := hent x hx
              have hw := hwf _ c2
              unfold WideElems.rd keyOf
              rw [hs.ku]
              simp only [mapKey, c1]
              simp [hs.ku, hw, R]
            have hown : w.ownsMap P kt R lm.b entries.size (.map ((entries.toList.map (WideElems.rg P kt R)).foldr DataW.insert [])) := by
              refine ⟨entries, clock, b1, ⟨?_, ⟨b2.1, b2.2, ?_⟩, fun x hx => ⟨_, hrd x hx⟩⟩, Nat.le_refl _, rfl⟩
              · rw [hsize]
                have h2 := hchk.2
                simp only [List.length_map] at h2
                have : maxLen = 9223372036854775807 := rfl
                omega
              · have : entries.toList.map (·.key) = (entries.toList.map kof).map encZ := by
                  rw [List.map_map]
                  exact List.map_congr_left fun x hx => (hent x hx).1
                rw [this]
                exact (List.pairwise_map.2 ((hkp.nodup_iff.2 hnd).imp fun {a b} hab e => hab (encZ_inj e)))
            have hik : (intKeys (.map ((entries.toList.map (WideElems.rg P kt R)).foldr DataW.insert []) : DataW Unit)).Perm ns := by
              unfold intKeys
              simp only []
              refine ((inserts_perm _).map _).trans ?_
              rw [List.map_map]
              refine List.Perm.trans (List.Perm.of_eq ?_) hkp
              refine List.map_congr_left fun x hx => ?_
              simp only [Function.comp, WideElems.rg, hrd x hx, Option.getD_some, intOf]
            have hms : Maps.size (.map ((entries.toList.map (WideElems.rg P kt R)).foldr DataW.insert []) : DataW Unit) = ns.length := by
              have := (inserts_perm (entries.toList.map (WideElems.rg P kt R))).length_eq
              simp only [Maps.size_eq, this, List.length_map, Array.length_toList, hsize]
            have hlob : lo.b < w.heap.size := (Array.getElem?_eq_some_iff.1 a7).1
            have hcell : w.cell? ⟨lo.b, 0, none⟩ = some (.map (some lm.b)) := by
              rw [cell_iff]
              refine ⟨cs, elem, (0, 0), a7, ?_⟩
              rw [hc0] at hu; simpa using hu
            have hseq := hs.haskeys g hk lo.b lm.b entries.size _ R w hlob hcell hown
            have hlen := hchk.2
            simp only [List.length_map] at hlen
            have hcall := hs.sorted g #[.pointer (some ⟨lo.b, 0, none⟩)] _ _ w hk (by rw [hms]; exact hlen) hseq
            rw [show lo.c + (0 * lo.sz + 0) = 0 from by rw [hc0]; simp]
            refine callsIn_wide.2 (callsIn_wide.1 (CallsIn.mono hcall ?_))
            rintro e w1 ⟨vr, ss, rfl, hperm1, hrow, hnil, hbelow⟩
            have hss : ss.mergeSort (fun x y => decide (x ≤ y)) = ns := by
              rw [mergeSort_of_perm_i (hperm1.trans hik)]
              exact List.mergeSort_of_pairwise (hrise.imp fun {a b} hab => by simp; omega)
            rw [hss] at hrow
            have hlen2 : ss.length = ns.length := (hperm1.trans hik).length_eq
            refine ⟨vr, rfl, ?_⟩
            cases hns0 : ns with
            | nil =>
              rw [hns0] at h
              simp only [List.map_nil, Option.some.injEq, Prod.mk.injEq] at h
              obtain ⟨rfl, rfl⟩ := h
              have hv := hnil.2 (List.eq_nil_of_length_eq_zero (by rw [hlen2, hns0]; rfl))
              subst hv
              have hg := hsr.grow hbelow.block hbelow.size (below_same hbelow)
              refine ⟨O, β, hg.2, hg.1, .fv _ _ ?_, fun _ _ => rfl⟩
              exact .sl [] true none 0 0 (fun _ _ => .nilIface) (Nat.le_refl _) (fun _ => rfl) (fun c => absurd rfl c) (fun i row hi => by simp [nth] at hi) (fun i row j x hi => by simp [nth] at hi) (fun ad i row j x _ hi => by simp [nth] at hi) (fun i row j x hi => by simp [nth] at hi)
            | cons n0 nt =>
              have hne : ns ≠ [] := by rw [hns0]; simp
              have h' : some (AV.osl b 0 ns.length true, [AObj.arr 1 (ns.map fun n => [AV.fv (.int .i64 n)]) false]) = some (v, objs) := by
                rw [← h, hns0]
                simp [lenN_eq, mapN_eq, Function.comp]
              simp only [Option.some.injEq, Prod.mk.injEq] at h'
              obtain ⟨rfl, rfl⟩ := h'
              obtain ⟨_, ⟨rfl, hz⟩ | ⟨gb, cap, cur, rfl, hge, hgb, r1, r2, r3, r4⟩⟩ := hrow
              · exact absurd (List.eq_nil_of_length_eq_zero (hlen2 ▸ hz)) hne
              · have hadd := hsr.add hbelow (p := b) (l := ⟨gb, 0, 1, ns.length, cap, false⟩) (x := .arr 1 (ns.map fun n => [AV.fv (.int .i64 n)]) false) (hole.dead b (Nat.le_refl _) (by simp)) (hole.none b (Nat.le_refl _) (by simp)) hge
                  (Array.getElem?_eq_some_iff.1 hgb).1 (fun O' β' hst => by
                    refine ⟨rfl, by simp, rfl, fun c => (by cases c), (by dsimp only; omega), by omega, cur, kt, hgb, (by dsimp only; omega), fun i row hi => ?_⟩
                    rw [nth_eq, List.getElem?_map, Option.map_eq_some_iff] at hi
                    obtain ⟨n, hn, rfl⟩ := hi
                    refine ⟨rfl, fun j x hx => ?_⟩
                    have hj : j = 0 := by have := nth_lt hx; simp at this; omega
                    subst hj
                    simp only [nth] at hx
                    refine ⟨by cases hx; rfl, encZ n, ?_, by cases hx; exact .fv _ _ (.int _ _)⟩
                    have hil : i < ns.length := (List.getElem?_eq_some_iff.1 hn).1
                    have : (cur.toList.take (ss.length * 1))[i]? = some (encZ n) := by rw [r4, List.getElem?_map, hn]; rfl
                    rw [List.getElem?_take, if_pos (by omega), Array.getElem?_toList] at this
                    simpa using this)
                refine ⟨_, _, hadd.2, hadd.1, ?_, fun p hp => ?_⟩
                · have := Rel.osl (w := w1) (X := bar (fun c => O c ∨ c = gb) F) (β := upd β b (some ⟨gb, 0, 1, ns.length, cap, false⟩)) b 0 ns.length cap true _ (by unfold upd; rw [if_pos rfl]) (by omega) (by simp) (fun _ => by dsimp only; omega)
                  simpa [hlen2] using this
                · unfold upd
                  rw [if_neg (by simp at hp; omega)]
        · cases h
      · rename_i ho
        simp only [Option.some.injEq, Prod.mk.injEq] at h
        obtain ⟨rfl, rfl⟩ := h
        have hGo : G o = .arr 1 [[.fv .nilm]] true := by rw [hG o (by simp [sortedR]), ho]
        have hobj := hsr.obj o lo hlo
        rw [hGo] at hobj
        obtain ⟨a1, a2, _, a4, _, _, cs, elem, a7, a8, a9⟩ := hobj
        have hc0 := (a4 rfl).2
        obtain ⟨_, u, hu, hru⟩ := (a9 0 _ rfl).2 0 _ rfl
        have hu' : u = .map none := by have := hru.fv_inv; cases this; rfl
        subst hu'
        have hlob : lo.b < w.heap.size := (Array.getElem?_eq_some_iff.1 a7).1
        have hcell : w.cell? ⟨lo.b, 0, none⟩ = some (.map none) := by
          rw [cell_iff]
          refine ⟨cs, elem, (0, 0), a7, ?_⟩
          rw [hc0] at hu; simpa using hu
        have hseq := hs.nokeys g hk lo.b w hlob hcell
        have hcall := hs.sorted g #[.pointer (some ⟨lo.b, 0, none⟩)] _ _ w hk (Nat.zero_le _) hseq
        rw [show lo.c + (0 * lo.sz + 0) = 0 from by rw [hc0]; simp]
        refine callsIn_wide.2 (callsIn_wide.1 (CallsIn.mono hcall ?_))
        rintro e w1 ⟨v, ss, rfl, rfl, hrow, hnil, hbelow⟩
        obtain rfl := hnil.2 rfl
        refine ⟨_, rfl, ?_⟩
        have hg := hsr.grow hbelow.block hbelow.size (below_same hbelow)
        refine ⟨O, β, hg.2, hg.1, .fv _ _ ?_, fun _ _ => rfl⟩
        exact .sl [] true none 0 0 (fun _ _ => .nilIface) (Nat.le_refl _) (fun _ => rfl) (fun c => absurd rfl c) (fun i row hi => by simp [nth] at hi) (fun i row j x hi => by simp [nth] at hi) (fun ad i row j x _ hi => by simp [nth] at hi) (fun i row j x hi => by simp [nth] at hi)
      · cases h
  · cases h
end
end Go.Gm
