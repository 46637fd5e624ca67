/- Parts of values: fields, elements, slices, lengths. -/
import Derived.Test.YtafggfmidkpnbaaGreatAbsBin
namespace Go.Gm
section
variable {P : Program} {w w0 : World} {O F : Nat → Prop} {X : Nat → Prop} {β : Nat → Option Loc} {G : Nat → AObj}

theorem fieldOff_some {s : TypeId} {f off : Nat} {t : TypeId} (h : fieldOff P s f = some (off, t)) : ∃ fs x, P.underlying s = some (.struct fs) ∧ fs[f]? = some x ∧ x.offset = off ∧ x.type = t := by
  unfold fieldOff at h
  cases hu : P.underlying s with
  | none => simp [hu] at h
  | some d =>
    simp only [hu] at h
    cases d <;> simp only [reduceCtorEq] at h
    rename_i fs
    cases hn : nth fs.toList f with
    | none => simp [hn] at h
    | some x =>
      simp only [hn, Option.some.injEq, Prod.mk.injEq] at h
      rw [nth_eq, Array.getElem?_toList] at hn
      exact ⟨fs, x, rfl, hn, h.1, h.2⟩

theorem RelF.fp_drop {cs : List FV} {v : Value} (h : RelF w X (.fp cs) v) (k : Nat) : ∃ ad, v = .pointer (some ad) ∧ RelF w X (.fp (cs.drop k)) (.pointer (some (ad.add k))) := by
  cases h with
  | fp cs ad cv hs hx hb h1 hc h =>
    refine ⟨ad, rfl, ?_⟩
    rw [Addr.add_spot hs]
    refine .fp _ _ (fun j => cv (k + j)) rfl hx hb (fun j x hj => ?_) (fun j x hj => ?_) (fun j x hj => ?_)
    · rw [nth_eq, List.getElem?_drop, ← nth_eq] at hj; exact h1 _ _ hj
    · rw [nth_eq, List.getElem?_drop, ← nth_eq] at hj
      have := hc _ _ hj
      simp only []
      rw [show ad.off + k + j = ad.off + (k + j) from by omega]; exact this
    · rw [nth_eq, List.getElem?_drop, ← nth_eq] at hj; exact h _ _ hj

theorem fieldAddrS_sound {s : TypeId} {f : Nat} {x z : AV} {u : Value} (h : fieldAddrS P s f x = some z) (hx : Rel w X β x u) :
    ∃ r, (∀ w0, (Instr.fieldAt s u f).run P w0 = .ok r w0) ∧ Rel w X β z r := by
  unfold fieldAddrS at h
  cases hf : fieldOff P s f with
  | none => simp [hf] at h
  | some ot =>
    obtain ⟨off, t⟩ := ot
    simp only [hf] at h
    obtain ⟨fs, fd, hu, hfd, rfl, rfl⟩ := fieldOff_some hf
    cases hs : tsz P fd.type with
    | none => simp [hs] at h
    | some n =>
      cases n with
      | zero => simp [hs] at h
      | succ n =>
        simp only [hs] at h
        have run : ∀ (a : Addr) w0, (Instr.fieldAt s (.pointer (some a)) f).run P w0 = .ok (.pointer (some (a.add fd.offset))) w0 := fun a w0 => by
          simp [Instr.fieldAt, run_under hu, hfd, Instr.sureAddr, fieldPlace, run_size hs]
        split at h
        · rename_i o i j
          simp only [Option.some.injEq] at h; subst h
          cases hx with
          | ptr o i j l hl =>
            refine ⟨_, run _, ?_⟩
            rw [Addr.add_none, show l.c + (i * l.sz + j) + fd.offset = l.c + (i * l.sz + (j + fd.offset)) from by omega]
            exact .ptr o i (j + fd.offset) l hl
        · simp only [Option.some.injEq] at h; subst h
          obtain ⟨ad, rfl, hr⟩ := hx.fv_inv.fp_drop fd.offset
          exact ⟨_, run _, .fv _ _ (by rw [dropN_eq]; exact hr)⟩
        · cases h

/-- cells of a row, as a list -/
structure CellsR (w : World) (X : Nat → Prop) (β : Nat → Option Loc) (cs : List AV) (vs : Array Value) : Prop where
  len : cs.length = vs.size
  one : ∀ (j : Nat) (x : AV), cs[j]? = some x → x.one = true
  rel : ∀ (j : Nat) (x : AV) (v : Value), cs[j]? = some x → vs[j]? = some v → Rel w X β x v

theorem CellsR.ofAgg {cs : List AV} {v : Value} (h : Rel w X β (.agg cs) v) : ∃ vs, v = .agg vs ∧ CellsR w X β cs vs := by
  cases h with
  | agg cs vs hlen h1 h => exact ⟨vs, rfl, hlen, fun j x hx => h1 j x (by rw [nth_eq]; exact hx), fun j x v hx hv => h j x v (by rw [nth_eq]; exact hx) hv⟩
theorem CellsR.ofFAgg {cs : List FV} {v : Value} (h : RelF w X (.agg cs) v) : ∃ vs, v = .agg vs ∧ CellsR w X β (mapN .fv cs) vs := by
  obtain ⟨vs, rfl, hlen, h1, h⟩ := h.agg_inv
  rw [mapN_eq]
  refine ⟨vs, rfl, by simpa using hlen, fun j x hx => ?_, fun j x v hx hv => ?_⟩
  · rw [List.getElem?_map] at hx
    cases hc : cs[j]? with
    | none => simp [hc] at hx
    | some y => simp [hc] at hx; subst hx; exact h1 j y hc
  · rw [List.getElem?_map] at hx
    cases hc : cs[j]? with
    | none => simp [hc] at hx
    | some y => simp [hc] at hx; subst hx; exact .fv _ _ (h j y v hc hv)
theorem CellsR.mkAgg {cs : List AV} {vs : Array Value} (h : CellsR w X β cs vs) : Rel w X β (mkAgg cs) (.agg vs) := mkAgg_sound h.len h.one h.rel
theorem CellsR.cut {cs c : List AV} {vs : Array Value} (h : CellsR w X β cs vs) {off size : Nat} (hc : Go.Gm.cut cs off size = some c) : CellsR w X β c (vs.extract off (off + size)) := by
  obtain ⟨hl, hg⟩ := cut_some hc
  have hle : size = 0 ∨ off + size ≤ cs.length := by
    cases size with
    | zero => exact .inl rfl
    | succ k =>
      have := hg k (by omega)
      have h2 : c[k]? = some c[k] := by simp [hl]
      rw [h2] at this
      have := (List.getElem?_eq_some_iff.1 this.symm).1
      exact .inr (by omega)
  refine ⟨?_, fun j x hx => ?_, fun j x v hx hv => ?_⟩
  · simp only [Array.size_extract, ← h.len, hl]; omega
  · have hj := (List.getElem?_eq_some_iff.1 hx).1
    rw [hg j (by omega)] at hx; exact h.one _ _ hx
  · have hj := (List.getElem?_eq_some_iff.1 hx).1
    rw [hg j (by omega)] at hx
    rw [Array.getElem?_extract] at hv
    split at hv
    · exact h.rel _ _ _ hx hv
    · cases hv

theorem partS_sound {t : TypeId} {cs : List AV} {vs : Array Value} {off : Nat} {z : AV} (hp : partS P t cs off = some z) (h : CellsR w X β cs vs) :
    ∃ v, (∀ w0, (part t vs off).run P w0 = .ok v w0) ∧ Rel w X β z v := by
  unfold partS at hp
  cases ha : tagg P t with
  | none => simp [ha] at hp
  | some ag =>
    cases ag with
    | true =>
      cases hs : tsz P t with
      | none => simp [ha, hs] at hp
      | some size =>
        simp only [ha, hs] at hp
        cases hc : cut cs off size with
        | none => simp [hc] at hp
        | some c =>
          simp only [hc, Option.some.injEq] at hp; subst hp
          refine ⟨.agg (vs.extract off (off + size)), fun w0 => ?_, (h.cut hc).mkAgg⟩
          simp only [part, Sem.run_bind, run_agg ha, Result.andThen_ok, if_true, run_size hs]; rfl
    | false =>
      simp only [ha, nth_eq] at hp
      have hlt : off < vs.size := by rw [← h.len]; exact (List.getElem?_eq_some_iff.1 hp).1
      have hv : vs[off]? = some vs[off] := by simp [hlt]
      refine ⟨vs[off], fun w0 => ?_, h.rel off _ _ hp hv⟩
      simp only [part, Sem.run_bind, run_agg ha, Result.andThen_ok, Bool.false_eq_true, if_false, hv]; rfl

theorem fieldS_sound {s : TypeId} {f : Nat} {x z : AV} {u : Value} (h : fieldS P s f x = some z) (hx : Rel w X β x u) :
    ∃ r, (∀ w0, (Instr.field s u f).run P w0 = .ok r w0) ∧ Rel w X β z r := by
  unfold fieldS at h
  cases hf : fieldOff P s f with
  | none => simp [hf] at h
  | some ot =>
    obtain ⟨off, t⟩ := ot
    simp only [hf] at h
    obtain ⟨fs, fd, hu, hfd, rfl, rfl⟩ := fieldOff_some hf
    have run : ∀ (vs : Array Value) (v : Value), (∀ w0, (part fd.type vs fd.offset).run P w0 = .ok v w0) → ∀ w0, (Instr.field s (.agg vs) f).run P w0 = .ok v w0 := fun vs v hv w0 => by
      simp [Instr.field, run_under hu, hfd, asAgg, hv]
    split at h
    · obtain ⟨vs, rfl, hc⟩ := CellsR.ofAgg hx
      obtain ⟨v, hv, hr⟩ := partS_sound h hc
      exact ⟨v, run vs v hv, hr⟩
    · obtain ⟨vs, rfl, hc⟩ := CellsR.ofFAgg (β := β) hx.fv_inv
      obtain ⟨v, hv, hr⟩ := partS_sound h hc
      exact ⟨v, run vs v hv, hr⟩
    · cases h

theorem indexS_sound {t : TypeId} {x i z : AV} {u v : Value} (h : indexS P t x i = some z) (hx : Rel w X β x u) (hi : Rel w X β i v) :
    ∃ r, (∀ w0, (Instr.index t u v).run P w0 = .ok r w0) ∧ Rel w X β z r := by
  unfold indexS at h
  cases hu : P.underlying t with
  | none => simp [hu] at h
  | some d =>
    simp only [hu] at h
    cases d <;> simp only [reduceCtorEq] at h
    case array n e =>
      cases hs : tsz P e with
      | none => simp [hs] at h
      | some esz =>
        simp only [hs] at h
        split at h
        · rename_i k cs hk
          obtain ⟨kk, rfl⟩ := asNat_some hk
          cases hi.int_inv
          cases hb : Nat.blt k n with
          | false => simp [hb] at h
          | true =>
            simp only [hb, cond_true] at h
            have hlt : k < n := by simpa using hb
            obtain ⟨vs, rfl, hc⟩ := CellsR.ofFAgg (β := β) hx.fv_inv
            obtain ⟨r, hr, hrel⟩ := partS_sound h hc
            refine ⟨r, fun w0 => ?_, hrel⟩
            simp [Instr.index, asIntOf, run_under hu, hlt, run_size hs, hr]
        · cases h
    case string =>
      split at h
      · rename_i k s hk
        obtain ⟨kk, rfl⟩ := asNat_some hk
        cases hi.int_inv
        have hs : u = .string s := by have := hx.fv_inv; cases this; rfl
        subst hs
        cases hn : nth s.data.toList k with
        | none => simp [hn] at h
        | some b =>
          simp only [hn, Option.some.injEq] at h; subst h
          rw [nth_eq, Array.getElem?_toList] at hn
          have hb : s[k]? = some b := by
            have hlt : k < s.size := (Array.getElem?_eq_some_iff.1 hn).1
            rw [ByteArray.getElem?_lt' s k hlt]
            rw [Array.getElem?_eq_getElem hlt] at hn
            exact hn
          refine ⟨.int .u8 b.toNat, fun w0 => ?_, .fv _ _ (.int _ _)⟩
          simp [Instr.index, asIntOf, run_under hu, hb]
      · cases h

theorem indexAddrS_sound {t : TypeId} {x i z : AV} {H : Heap} {u v : Value} (h : indexAddrS P t x i H = some z) (hsr : SR w O F β G) (hG : ∀ o, o ∈ refOf x → G o = H.get o)
    (hx : Rel w (bar O F) β x u) (hi : Rel w (bar O F) β i v) : ∃ r, (∀ w0, (Instr.indexAt t u v).run P w0 = .ok r w0) ∧ Rel w (bar O F) β z r := by
  unfold indexAddrS at h
  cases hu : P.underlying t with
  | none => simp [hu] at h
  | some d =>
    simp only [hu] at h
    cases d <;> simp only [reduceCtorEq] at h
    case array n e =>
      cases hs : tsz P e with
      | none => simp [hs] at h
      | some esz =>
        simp only [hs] at h
        cases hk : asNat i with
        | none => simp [hk] at h
        | some k =>
          obtain ⟨kk, rfl⟩ := asNat_some hk
          cases hi.int_inv
          simp only [hk] at h
          cases hb : Nat.blt k n with
          | false => simp [hb] at h
          | true =>
            simp only [hb, cond_true] at h
            have hlt : k < n := by simpa using hb
            have run : ∀ (a : Addr) w0, (Instr.indexAt t (.pointer (some a)) (.int kk (.ofNat k))).run P w0 = .ok (.pointer (some (a.add (k * esz)))) w0 := fun a w0 => by
              simp [Instr.indexAt, asIntOf, run_under hu, Instr.sureAddr, hlt, run_size hs]
            split at h
            · rename_i o i j
              simp only [Option.some.injEq] at h; subst h
              cases hx with
              | ptr o i j l hl =>
                refine ⟨_, run _, ?_⟩
                rw [Addr.add_none, show l.c + (i * l.sz + j) + k * esz = l.c + (i * l.sz + (j + k * esz)) from by omega]
                exact .ptr o i (j + k * esz) l hl
            · simp only [Option.some.injEq] at h; subst h
              obtain ⟨ad, rfl, hr⟩ := hx.fv_inv.fp_drop (k * esz)
              exact ⟨_, run _, .fv _ _ (by rw [dropN_eq]; exact hr)⟩
            · cases h
    case slice e =>
      cases hs : tsz P e with
      | none => simp [hs] at h
      | some esz =>
        simp only [hs] at h
        cases hk : asNat i with
        | none => simp [hk] at h
        | some k =>
          obtain ⟨kk, rfl⟩ := asNat_some hk
          cases hi.int_inv
          simp only [hk] at h
          have run : ∀ (a : Addr) (len cap : Nat) w0, k < len → (Instr.indexAt t (.slice (some a) len cap) (.int kk (.ofNat k))).run P w0 = .ok (.pointer (some (a.add (k * esz)))) w0 := fun a len cap w0 hlt => by
            simp [Instr.indexAt, asIntOf, run_under hu, hlt, run_size hs]
          split at h
          · rename_i o off len app
            cases hget : H.get o with
            | arr sz rows cl =>
              simp only [hget] at h
              cases hb : (Nat.blt k len && Nat.beq sz esz) with
              | false => simp [hb] at h
              | true =>
                simp only [hb, cond_true, Option.some.injEq] at h; subst h
                rw [Bool.and_eq_true, beq_iff] at hb
                obtain ⟨hb, rfl⟩ := hb
                have hlt : k < len := by simpa using hb
                cases hx with
                | osl o off len cap app l hl hlen hcap happ =>
                  have ho := hsr.obj o l hl
                  rw [hG o (by simp [refOf]), hget] at ho
                  have hsz : l.sz = sz := ho.1
                  refine ⟨_, fun w0 => run _ _ _ w0 hlt, ?_⟩
                  rw [Addr.add_none, show l.c + off * l.sz + k * sz = l.c + ((off + k) * l.sz + 0) from by rw [hsz, Nat.add_mul]; omega]
                  exact .ptr o (off + k) 0 l hl
            | _ => simp [hget] at h
          · rename_i rows tight
            cases hn : nth rows k with
            | none => simp [hn] at h
            | some row =>
              simp only [hn] at h
              cases hb : Nat.beq (lenN row) esz with
              | false => simp [hb] at h
              | true =>
                simp only [hb, cond_true, Option.some.injEq] at h; subst h
                have hrow : row.length = esz := by rw [beq_iff, lenN_eq] at hb; exact hb
                have hx' := hx.fv_inv
                cases hx' with
                | sl rows tight a cap sz cv hcap ht ha hsz h1 hc h =>
                  have hne : rows ≠ [] := by intro e; subst e; simp [nth] at hn
                  obtain ⟨ad, rfl, hsp, hX, hbl⟩ := ha hne
                  refine ⟨_, fun w0 => run ad _ _ w0 (nth_lt hn), .fv _ _ ?_⟩
                  rw [Addr.add_spot hsp]
                  have hszr := hsz k row hn
                  refine .fp row _ (fun j => cv k j) rfl hX hbl (fun j x hj => h1 k row j x hn hj) (fun j x hj => ?_) (fun j x hj => h k row j x hn hj)
                  have := hc ad k row j x rfl hn hj
                  simp only []
                  rw [show ad.off + k * esz + j = ad.off + (k * sz + j) from by rw [← hrow, hszr]; omega]
                  exact this
          · cases h
end
end Go.Gm
