/- Maps. -/
import Derived.MapKept
import Derived.Test.YtafggfmidkpnbaaGreatAbsSlice
namespace Go.Gm
section
variable {P : Program} {w w0 : World} {O F : Nat → Prop} {X : Nat → Prop} {β : Nat → Option Loc} {G : Nat → AObj}

theorem fit_check {kt : TypeId} {fit : FV → Bool} {k : FV} {v : Value} (h : keyFit P kt = some fit) (hk : fit k = true) (hr : RelF w X k v) (em : Bool) (d : Nat) :
    (Instr.checkKey em (d + 2) kt v).run P w0 = .ok () w0 := by
  unfold keyFit at h
  cases hu : P.underlying kt with
  | none => simp [hu] at h
  | some ds =>
    simp only [hu] at h
    cases ds <;> simp only [reduceCtorEq] at h
    case bool => simp [Instr.checkKey, run_under hu]
    case int => simp [Instr.checkKey, run_under hu]
    case string => simp [Instr.checkKey, run_under hu]
    case array n e =>
      cases he : P.underlying e with
      | none => simp [he] at h
      | some de =>
        cases de <;> simp only [he, reduceCtorEq] at h
        rename_i ik
        split at h
        · rename_i hs
          simp only [Option.some.injEq] at h; subst h
          cases k <;> simp only [Bool.false_eq_true] at hk
          rename_i cs
          rw [beq_iff, lenN_eq] at hk
          obtain ⟨vs, rfl, hlen, _⟩ := hr.agg_inv
          have ha : tagg P e = some false := by simp [tagg, he]
          rw [show d + 2 = (d + 1) + 1 from rfl, Instr.checkKey]
          simp only [Sem.run_bind, run_under hu, Result.andThen_ok]
          simp only [Std.Legacy.Range.forIn_eq_forIn_range', Std.Legacy.Range.size, Nat.sub_zero, Nat.add_one_sub_one, Nat.div_one]
          have hall : ∀ j ∈ List.range' 0 n, j < vs.size := fun j hj => by simp at hj; omega
          generalize List.range' 0 n = is at hall
          induction is with
          | nil => simp
          | cons j is ih =>
            have hj : j < vs.size := hall j (by simp)
            have hp : (part e vs (j * 1)).run P w0 = .ok vs[j] w0 := by
              simp [part, run_agg ha, hj]
            have hc : ∀ u, (Instr.checkKey em (d + 1) e u).run P w0 = .ok () w0 := fun u => by
              simp [Instr.checkKey, run_under he]
            simp only [List.forIn_cons, Sem.run_bind, run_size hs, Result.andThen_ok, hp, hc, Sem.run_pure]
            exact ih fun y hy => hall y (by simp [hy])
        · cases h

/-- the entries of a map -/
def EntR (w : World) (X : Nat → Prop) (β : Nat → Option Loc) (es : List (FV × AV)) (entries : Array MapEntry) : Prop :=
  entries.size = es.length ∧ ∀ i kv, nth es i = some kv → ∃ e, entries[i]? = some e ∧ RelF w X kv.1 e.key ∧ Rel w X β kv.2 e.val

theorem same_of_eq {kt : TypeId} {d : TypeDesc} {fit : FV → Bool} (hu : P.underlying kt = some d) (hf : keyFit P kt = some fit) (ha : ∀ n e, d ≠ .array n e) {k k' : FV} {u v : Value} {b : Bool}
    (he : eqFV P eqDepth kt k k' = some b) (hk : RelF w X k u) (hk' : RelF w X k' v) : Instr.sameNow d u v = some b := by
  have he : eqFV P (9999 + 1) kt k k' = some b := he
  unfold eqFV at he
  unfold keyFit at hf
  cases d <;> simp only [hu, reduceCtorEq] at hf he
  case bool =>
    cases k <;> cases k' <;> simp only [Option.some.injEq, reduceCtorEq] at he
    cases hk; cases hk'; subst he; rfl
  case int =>
    cases k <;> cases k' <;> simp only [reduceCtorEq] at he
    rename_i k1 a k2 b' _
    cases hkk : kindEq k1 k2 with
    | false => simp [hkk] at he
    | true =>
      have := kindEq_iff hkk; subst this
      simp only [hkk, cond_true, Option.some.injEq] at he; subst he
      cases hk; cases hk'; simp [Instr.sameNow]
  case string =>
    cases k <;> cases k' <;> simp only [Option.some.injEq, reduceCtorEq] at he
    cases hk; cases hk'; subst he
    simp only [Instr.sameNow, Option.some.injEq]
    rw [beq_toListBytes, ByteArray.toList_eq, ByteArray.toList_eq]
  case array n e => exact absurd rfl (ha n e)

theorem findNow_sound {kt : TypeId} {d : TypeDesc} {fit : FV → Bool} (hu : P.underlying kt = some d) (hf : keyFit P kt = some fit) (ha : ∀ n e, d ≠ .array n e) {k : FV} {u : Value} (hk : RelF w X k u) :
    ∀ {es : List (FV × AV)} {entries : List MapEntry} {i : Nat} {r : Option (Nat × AV)}, entries.length = es.length →
    (∀ (j : Nat) (kv : FV × AV), es[j]? = some kv → ∃ e : MapEntry, entries[j]? = some e ∧ RelF w X kv.1 e.key) →
    findKey (eqFV P eqDepth kt) k es i = some r →
    ∃ r', Instr.findNow d u entries i = some r' ∧ (r = none → r' = none) ∧ ∀ (j : Nat) (v : AV), r = some (j, v) → i ≤ j ∧ ∃ (kv : FV × AV) (e : MapEntry), es[j - i]? = some kv ∧ kv.2 = v ∧ entries[j - i]? = some e ∧ r' = some (j, e.val)
  | [], [], i, r, _, _, h => by
    simp only [findKey, Option.some.injEq] at h; subst h
    exact ⟨none, rfl, fun _ => rfl, fun j v h => by cases h⟩
  | (k', v) :: es, e :: entries, i, r, hlen, hr, h => by
    obtain ⟨e', he', hk'⟩ := hr 0 (k', v) rfl
    simp at he'; subst he'
    unfold findKey at h
    cases hq : eqFV P eqDepth kt k k' with
    | none => simp [hq] at h
    | some b =>
      have hs := same_of_eq hu hf ha hq hk hk'
      cases b with
      | true =>
        simp only [hq, Option.some.injEq] at h; subst h
        refine ⟨some (i, e.val), by simp [Instr.findNow, hs], nofun, fun j v' hj => ?_⟩
        cases hj
        exact ⟨Nat.le_refl _, (k', v), e, by simp, rfl, by simp, rfl⟩
      | false =>
        simp only [hq] at h
        obtain ⟨r', h1, h2, h3⟩ := findNow_sound hu hf ha hk (es := es) (entries := entries) (i := i + 1) (by simpa using hlen) (fun j kv hj => by simpa using hr (j + 1) kv (by simpa using hj)) h
        refine ⟨r', by simp [Instr.findNow, hs, h1], h2, fun j v' hj => ?_⟩
        obtain ⟨hle, kv, e', a1, a2, a3, a4⟩ := h3 j v' hj
        exact ⟨by omega, kv, e', by rw [show j - i = (j - (i + 1)) + 1 from by omega]; simpa using a1, a2, by rw [show j - i = (j - (i + 1)) + 1 from by omega]; simpa using a3, a4⟩

theorem findAsk_sound {kt : TypeId} {k : FV} {u : Value} (hk : RelF w X k u) :
    ∀ {es : List (FV × AV)} {entries : List MapEntry} {i : Nat} {r : Option (Nat × AV)}, entries.length = es.length →
    (∀ (j : Nat) (kv : FV × AV), es[j]? = some kv → ∃ e : MapEntry, entries[j]? = some e ∧ RelF w X kv.1 e.key) →
    findKey (eqFV P eqDepth kt) k es i = some r →
    ∃ r', (Instr.findAsking kt u entries i).run P w0 = .ok r' w0 ∧ (r = none → r' = none) ∧ ∀ (j : Nat) (v : AV), r = some (j, v) → i ≤ j ∧ ∃ (kv : FV × AV) (e : MapEntry), es[j - i]? = some kv ∧ kv.2 = v ∧ entries[j - i]? = some e ∧ r' = some (j, e.val)
  | [], [], i, r, _, _, h => by
    simp only [findKey, Option.some.injEq] at h; subst h
    exact ⟨none, rfl, fun _ => rfl, fun j v h => by cases h⟩
  | (k', v) :: es, e :: entries, i, r, hlen, hr, h => by
    obtain ⟨e', he', hk'⟩ := hr 0 (k', v) rfl
    simp at he'; subst he'
    unfold findKey at h
    cases hq : eqFV P eqDepth kt k k' with
    | none => simp [hq] at h
    | some b =>
      have hs : (Op.equal kt u e.key).run P w0 = .ok b w0 := eqFV_sound eqDepth kt k k' u e.key b hq hk hk' w0
      cases b with
      | true =>
        simp only [hq, Option.some.injEq] at h; subst h
        refine ⟨some (i, e.val), by simp [Instr.findAsking, hs], nofun, fun j v' hj => ?_⟩
        cases hj
        exact ⟨Nat.le_refl _, (k', v), e, by simp, rfl, by simp, rfl⟩
      | false =>
        simp only [hq] at h
        obtain ⟨r', h1, h2, h3⟩ := findAsk_sound hk (es := es) (entries := entries) (i := i + 1) (by simpa using hlen) (fun j kv hj => by simpa using hr (j + 1) kv (by simpa using hj)) h
        refine ⟨r', by simp [Instr.findAsking, hs, h1], h2, fun j v' hj => ?_⟩
        obtain ⟨hle, kv, e', a1, a2, a3, a4⟩ := h3 j v' hj
        exact ⟨by omega, kv, e', by rw [show j - i = (j - (i + 1)) + 1 from by omega]; simpa using a1, a2, by rw [show j - i = (j - (i + 1)) + 1 from by omega]; simpa using a3, a4⟩

theorem findKey_sound {kt : TypeId} {fit : FV → Bool} (hf : keyFit P kt = some fit) {k : FV} {u : Value} (hk : RelF w X k u) (hfk : fit k = true)
    {es : List (FV × AV)} {entries : Array MapEntry} {r : Option (Nat × AV)} (he : EntR w X β es entries) (h : findKey (eqFV P eqDepth kt) k es 0 = some r) :
    ∃ r', (∀ w0, (Instr.findKey kt u entries.toList).run P w0 = .ok r' w0) ∧ (r = none → r' = none) ∧ ∀ (j : Nat) (v : AV), r = some (j, v) → ∃ (kv : FV × AV) (e : MapEntry), es[j]? = some kv ∧ kv.2 = v ∧ entries[j]? = some e ∧ r' = some (j, e.val) := by
  have hrel : ∀ (j : Nat) (kv : FV × AV), es[j]? = some kv → ∃ e : MapEntry, entries.toList[j]? = some e ∧ RelF w X kv.1 e.key := fun j kv hj => by
    obtain ⟨e, h1, h2, _⟩ := he.2 j kv (by rw [nth_eq]; exact hj)
    exact ⟨e, by rw [Array.getElem?_toList]; exact h1, h2⟩
  have hlen : entries.toList.length = es.length := by simpa using he.1
  have hd : ∃ d, P.underlying kt = some d := by
    unfold keyFit at hf
    cases hu : P.underlying kt with
    | none => simp [hu] at hf
    | some d => exact ⟨d, rfl⟩
  obtain ⟨d, hu⟩ := hd
  by_cases ha : ∃ n e, d = .array n e
  · obtain ⟨n, e, rfl⟩ := ha
    -- arrays: the entries are asked, one by one
    have fits : ∃ cs, k = .agg cs := by
      unfold keyFit at hf
      simp only [hu] at hf
      split at hf
      · simp only [Option.some.injEq] at hf; subst hf
        cases k <;> simp only [Bool.false_eq_true] at hfk
        exact ⟨_, rfl⟩
      · cases hf
    obtain ⟨cs, rfl⟩ := fits
    obtain ⟨us, rfl, _⟩ := hk.agg_inv
    by_cases hnil : es = []
    · subst hnil
      have : entries = #[] := by
        have := he.1
        simp at this; exact this
      subst this
      simp only [findKey, Option.some.injEq] at h; subst h
      exact ⟨none, fun w0 => by simp [Instr.findKey, run_under hu, Instr.findNow], fun _ => rfl, fun j v h => by cases h⟩
    · obtain ⟨r', h1, h2, h3⟩ := findAsk_sound (w0 := w) hk (i := 0) hlen hrel h
      refine ⟨r', fun w0 => ?_, h2, fun j v hj => ?_⟩
      · obtain ⟨r'', g1, g2, g3⟩ := findAsk_sound (w0 := w0) hk (i := 0) hlen hrel h
        have : r'' = r' := by
          cases r with
          | none => rw [h2 rfl, g2 rfl]
          | some jv =>
            obtain ⟨_, kv, e, a1, a2, a3, a4⟩ := h3 jv.1 jv.2 rfl
            obtain ⟨_, kv', e', b1, b2, b3, b4⟩ := g3 jv.1 jv.2 rfl
            rw [a3] at b3; cases b3
            rw [a4, b4]
        subst this
        have hn : Instr.findNow (.array n e) (.agg us) entries.toList 0 = none := by
          cases hel : entries.toList with
          | nil => rw [hel] at hlen; simp at hlen; exact absurd hlen.symm (by simpa using hnil)
          | cons e0 l => simp [Instr.findNow, Instr.sameNow]
        simp [Instr.findKey, run_under hu, hn, g1]
      · obtain ⟨_, kv, e, a1, a2, a3, a4⟩ := h3 j v hj
        exact ⟨kv, e, by simpa using a1, a2, by rw [Array.getElem?_toList] at a3; simpa using a3, a4⟩
  · obtain ⟨r', h1, h2, h3⟩ := findNow_sound hu hf (fun n e c => ha ⟨n, e, c⟩) hk (i := 0) hlen hrel h
    refine ⟨r', fun w0 => by simp [Instr.findKey, run_under hu, h1], h2, fun j v hj => ?_⟩
    obtain ⟨_, kv, e, a1, a2, a3, a4⟩ := h3 j v hj
    exact ⟨kv, e, by simpa using a1, a2, by rw [Array.getElem?_toList] at a3; simpa using a3, a4⟩

/-- the entries behind a map's value -/
theorem mapOf_sound {m : AV} {H : Heap} {es : List (FV × AV)} {u : Value} (h : mapOf m H = some es) (hsr : SR w O F β G) (hG : ∀ o, o ∈ refOf m → G o = H.get o) (hm : Rel w (bar O F) β m u) :
    ∃ entries, EntR w (bar O F) β es entries ∧ ((u = .map none ∧ entries = #[]) ∨ ∃ r clock, u = .map (some r) ∧ w.heap[r]? = some (.map entries clock)) := by
  unfold mapOf at h
  split at h
  · cases h
    have := hm.fv_inv; cases this
    exact ⟨#[], ⟨rfl, fun i kv h => by rw [nth_eq] at h; simp at h⟩, .inl ⟨rfl, rfl⟩⟩
  · rename_i o
    cases hg : H.get o with
    | map es' =>
      simp only [hg, Option.some.injEq] at h; subst h
      cases hm with
      | map o l hl =>
        have ho := hsr.obj o l hl
        rw [hG o (by simp [refOf]), hg] at ho
        obtain ⟨entries, clock, hb, _, hsz, hr⟩ := ho
        exact ⟨entries, ⟨hsz, hr⟩, .inr ⟨l.b, clock, rfl, hb⟩⟩
    | _ => simp [hg] at h
  · cases h

def lookOut (ok : Bool) (zv : Value) : Option (Nat × Value) → Value
  | some (_, x) => if ok then .tuple #[x, .bool true] else x
  | none => if ok then .tuple #[zv, .bool false] else zv
theorem lookupS_sound {t : TypeId} {ok : Bool} {m k z : AV} {H : Heap} {u v : Value} (h : lookupS P t ok m k H = some z) (hsr : SR w O F β G) (hG : ∀ o, o ∈ refOf m → G o = H.get o)
    (hm : Rel w (bar O F) β m u) (hk : Rel w (bar O F) β k v) : ∃ r, (Instr.lookup t u v ok).run P w = .ok r w ∧ Rel w (bar O F) β z r := by
  unfold lookupS at h
  cases hu : P.underlying t with
  | none => simp [hu] at h
  | some d =>
    cases d <;> simp only [hu, reduceCtorEq] at h
    rename_i kt e
    cases hf : keyFit P kt with
    | none => simp [hf] at h
    | some fit =>
      cases hz : tzero P e with
      | none => simp [hf, hz] at h
      | some zf =>
        simp only [hf, hz] at h
        cases k <;> simp only [reduceCtorEq] at h
        rename_i kv
        have hk := hk.fv_inv
        cases hfk : fit kv with
        | false => simp [hfk] at h
        | true =>
          simp only [hfk, cond_true] at h
          cases hmo : mapOf m H with
          | none => simp [hmo] at h
          | some es =>
            simp only [hmo] at h
            obtain ⟨entries, hent, hval⟩ := mapOf_sound hmo hsr hG hm
            cases hfd : findKey (eqFV P eqDepth kt) kv es 0 with
            | none => simp [hfd] at h
            | some r =>
              simp only [hfd] at h
              obtain ⟨r', hrun, hnone, hsome⟩ := findKey_sound hf hk hfk hent hfd
              obtain ⟨iz, zv, hiz, hzv, hzr⟩ := tzero_sound hz
              have run : (Instr.lookup t u v ok).run P w = .ok (lookOut ok zv r') w := by
                have hc : ∀ em, (Instr.checkKey em 10000 kt v).run P w = .ok () w := fun em => fit_check (d := 9998) hf hfk hk em
                have hzr : (zeroValue e).run P w = .ok zv w := run_zero hiz hzv
                rcases hval with ⟨rfl, rfl⟩ | ⟨rr, clock, rfl, hb⟩
                · cases r' with
                  | none => simp [lookOut, Instr.lookup, run_under hu, hc, hrun, hzr]
                  | some jv => simp [lookOut, Instr.lookup, run_under hu, hc, hrun]
                · cases r' with
                  | none => simp [lookOut, Instr.lookup, run_under hu, hc, hrun, hzr, MapKept.run_getObj_map hb]
                  | some jv => simp [lookOut, Instr.lookup, run_under hu, hc, hrun, MapKept.run_getObj_map hb]
              refine ⟨_, run, ?_⟩
              cases r with
              | none =>
                rw [hnone rfl]
                cases ok with
                | true =>
                  simp only [lookOut, if_true]
                  simp only [Option.some.injEq] at h
                  subst h
                  refine .fv _ _ (.tup _ _ rfl fun j x v hx hv => ?_)
                  rw [nth_eq] at hx
                  match j, hx, hv with
                  | 0, hx, hv => simp at hx hv; subst hx; subst hv; exact hzr _ _
                  | 1, hx, hv => simp at hx hv; subst hx; subst hv; exact .bool _
                  | j + 2, hx, hv => simp at hx
                | false => simp only [Option.some.injEq] at h; subst h; exact .fv _ _ (hzr _ _)
              | some jv =>
                obtain ⟨kv', e', h1, h2, h3, h4⟩ := hsome jv.1 jv.2 rfl
                rw [h4]
                obtain ⟨e'', g1, _, g3⟩ := hent.2 jv.1 kv' (by rw [nth_eq]; exact h1)
                rw [h3] at g1; cases g1
                rw [h2] at g3
                cases ok with
                | true =>
                  simp only [lookOut, if_true]
                  simp only [Option.some.injEq] at h
                  subst h
                  refine mkTup_sound rfl fun j x v hx hv => ?_
                  match j, hx, hv with
                  | 0, hx, hv => simp at hx hv; subst hx; subst hv; exact g3
                  | 1, hx, hv => simp at hx hv; subst hx; subst hv; exact .fv _ _ (.bool _)
                  | j + 2, hx, hv => simp at hx
                | false => simp only [Option.some.injEq] at h; subst h; exact g3
end
end Go.Gm
