/- copy, clear, maps. -/
import Derived.Test.YtafggfmidkpnbaaGreatAbsE2
namespace Go.Gm
section
variable {P : Program} {w w0 w' : World} {O : Nat → Prop} {F : Fo} {X : Nat → Prop} {β : Nat → Option Loc} {G : Nat → AObj} {b : Nat} {rl : Option Nat} {H : Heap}

theorem SRH.lt_n (hsr : SRH w O F β H) {o : Nat} (h : (H.get o).alive = true) : o < H.n := by
  rcases Nat.lt_or_ge o H.n with hlt | hge
  · exact hlt
  · have := (hsr.2.1 o hge).1; rw [this] at h; cases h

theorem rowsOf_slice {x : AV} {xs : List (List AV)} {u : Value} (h : rowsOf x H = some xs) (hx : Rel w X β x u) : ∃ a cap, u = .slice a xs.length cap := by
  unfold rowsOf at h
  split at h
  · simp only [Option.some.injEq] at h; subst h
    have := hx.fv_inv
    cases this with
    | sl rows tight a cap sz cv => exact ⟨a, cap, by unfold fvRows; rw [mapN_eq]; simp⟩
  · rename_i o off len app
    cases hg : H.get o with
    | arr sz rows cl =>
      simp only [hg] at h
      obtain ⟨hl, _⟩ := cut_some h
      cases hx with
      | osl o off len cap app l => exact ⟨_, cap, by rw [hl]⟩
    | _ => simp [hg] at h
  · cases h

theorem copyS_sound {t ty : TypeId} {ts : Array TypeId} {d s v : AV} {H' : Heap} {ud us : Value} (h : copyS P t d s H = some (v, H')) (h0 : ts[0]? = some t)
    (hd : Rel w (bar O F) β d ud) (hs : Rel w (bar O F) β s us) (hsr : SRH w O F β H) :
    ∃ u w', (Builtin.copy_ ts ty #[ud, us]).run P w = .ok u w' ∧ ERes w O F β v H' u w' := by
  unfold copyS at h
  cases hu : P.underlying t with
  | none => simp [hu] at h
  | some dd =>
    simp only [hu] at h
    cases dd <;> simp only [reduceCtorEq] at h
    rename_i e
    cases hsz : tsz P e with
    | none => simp [hsz] at h
    | some esz =>
      simp only [hsz] at h
      cases hro : rowsOf s H with
      | none => simp [hro] at h
      | some xs =>
        simp only [hro] at h
        split at h
        · rename_i rows tight
          cases hm : Nat.beq (min (lenN xs) (lenN rows)) 0 with
          | false => simp [hm] at h
          | true =>
            simp only [hm, cond_true, Option.some.injEq, Prod.mk.injEq] at h
            obtain ⟨rfl, rfl⟩ := h
            rw [beq_iff, lenN_eq, lenN_eq] at hm
            obtain ⟨a, cap, rfl⟩ := rowsOf_slice hro hs
            obtain ⟨a', cap', rfl⟩ : ∃ a' cap', ud = .slice a' rows.length cap' := by
              have := hd.fv_inv
              cases this with
              | sl rows tight a cap sz cv => exact ⟨a, cap, rfl⟩
            have hm' : Nat.min xs.length rows.length = 0 := hm
            have hfc : (Builtin.firstCells esz 0 (.slice a xs.length cap)).run P w = .ok #[] w := by
              cases a <;> simp [Builtin.firstCells, loadCells, loadCellsFrom]
            refine ⟨goInt 0, w, ?_, ERes.same hsr (.fv _ _ (.int _ _))⟩
            cases a' with
            | none => simp [Builtin.copy_, h0, run_under hu, run_size hsz, Builtin.lenOf, hm', hfc]
            | some a' => simp [Builtin.copy_, h0, run_under hu, run_size hsz, Builtin.lenOf, hm', hfc, storeCells]
        · rename_i o off len app
          cases hg : H.get o with
          | arr sz rows cl =>
            simp only [hg] at h
            cases hc : (Nat.beq sz esz && okRows esz xs && Nat.ble (off + min (lenN xs) len) (lenN rows)) with
            | false => simp [hc] at h
            | true =>
              simp only [hc, cond_true, Option.some.injEq, Prod.mk.injEq] at h
              obtain ⟨rfl, rfl⟩ := h
              rw [Bool.and_eq_true, Bool.and_eq_true, beq_iff, lenN_eq, lenN_eq, Nat.ble_eq] at hc
              obtain ⟨⟨rfl, hok⟩, hle⟩ := hc
              rw [lenN_eq, takeN_eq]
              obtain ⟨a, cap, rfl, hcells⟩ := rowsOf_sound (P := P) hro hok hsr.1 (fun _ _ => rfl) hs
              obtain ⟨news, q1, q2, q3⟩ := hcells (min xs.length len) (Nat.min_le_left _ _)
              have hn : o < H.n := hsr.lt_n (by rw [hg]; rfl)
              cases hd with
              | osl o off len cap' app l hl hlen hcap happ =>
                have hszl : l.sz = sz := by have := hsr.1.obj o l hl; rw [hg] at this; exact this.1
                have htl : (xs.take (min xs.length len)).length = min xs.length len := by simp
                obtain ⟨w', hrun, r2, r3⟩ := hsr.1.rows (P := P) (off := off) hl hg q3 (by rw [q2, htl]) (by rw [htl]; exact hle)
                refine ⟨goInt (((min xs.length len : Nat)) : Int), w', ?_, O, β, r3, hsr.upd hn r2, .fv _ _ (.int _ _)⟩
                have q1 := q1 w rfl
                have hmm : Nat.min xs.length len = min xs.length len := rfl
                simp [Builtin.copy_, h0, run_under hu, run_size hsz, Builtin.lenOf, hmm, q1, hszl, hrun]
          | _ => simp [hg] at h
        · cases h

theorem clearS_sound {t ty : TypeId} {ts : Array TypeId} {x : AV} {H' : Heap} {ux : Value} {us : Array Value} (h : clearS P t x H = some H') (h0 : ts[0]? = some t) (h1 : us[0]? = some ux)
    (hx : Rel w (bar O F) β x ux) (hsr : SRH w O F β H) : ∃ w', (Builtin.clear_ ts ty us).run P w = .ok (.tuple #[]) w' ∧ Step w O β w' O β ∧ SRH w' O F β H' := by
  unfold clearS at h
  cases hu : P.underlying t with
  | none => simp [hu] at h
  | some dd =>
    simp only [hu] at h
    cases dd <;> simp only [reduceCtorEq] at h
    rename_i e
    cases hz : zeroCells P e with
    | none => simp [hz] at h
    | some ez =>
      obtain ⟨esz, z⟩ := ez
      simp only [hz] at h
      obtain ⟨hs, hl, hpos, i, zv, hi, hzv, hc⟩ := zeroCells_sound hz
      split at h
      · simp only [Option.some.injEq] at h; subst h
        have := hx.fv_inv
        cases this with
        | sl rows tight a cap sz cv =>
          refine ⟨w, ?_, Step.refl _ _ _, hsr⟩
          cases a <;> simp [Builtin.clear_, h0, h1, run_under hu]
      · rename_i o off len app
        cases hg : H.get o with
        | arr sz rows cl =>
          simp only [hg] at h
          cases hcc : (Nat.beq sz esz && Nat.ble (off + len) (lenN rows)) with
          | false => simp [hcc] at h
          | true =>
            simp only [hcc, cond_true, Option.some.injEq] at h; subst h
            rw [Bool.and_eq_true, beq_iff, lenN_eq, Nat.ble_eq] at hcc
            obtain ⟨rfl, hle⟩ := hcc
            have hn : o < H.n := hsr.lt_n (by rw [hg]; rfl)
            have hrl : (rep z len).length = len := by rw [rep_eq]; simp
            have hzs : zv.cells.size = sz := by rw [← (hc w (bar O F) β).len, hl]
            have hrows := RowsR.zeros (hc w (bar O F) β) (by rw [hl]; exact hpos) len
            rw [hl] at hrows
            have hzc : (Array.range (len * sz)).map (fun j => zv.cells[j % zv.cells.size]!) = Builtin.zeroCells zv.cells len := by
              unfold Builtin.zeroCells; rw [hzs]
            rw [hzc] at hrows
            cases hx with
            | osl o off len cap app l hlo hlen hcap happ =>
              have hszl : l.sz = sz := by have := hsr.1.obj o l hlo; rw [hg] at this; exact this.1
              obtain ⟨w', hrun, r2, r3⟩ := hsr.1.rows (P := P) (off := off) hlo hg hrows (by rw [hrl]; unfold Builtin.zeroCells; simp [hzs]) (by rw [hrl]; exact hle)
              refine ⟨w', ?_, r3, hsr.upd hn r2⟩
              cases len with
              | zero =>
                have hz0 : Builtin.zeroCells zv.cells 0 = #[] := by unfold Builtin.zeroCells; simp
                rw [hz0] at hrun
                simp [storeCells] at hrun
                subst hrun
                simp [Builtin.clear_, h0, h1, run_under hu]
              | succ len =>
                simp [Builtin.clear_, h0, h1, run_under hu, run_zero hi hzv, hszl, hrun]
        | _ => simp [hg] at h
      · cases h

/-! ### maps -/
theorem findKey_eq {eq : FV → FV → Option Bool} {k : FV} : ∀ {es : List (FV × AV)} {i j : Nat} {v : AV}, findKey eq k es i = some (some (j, v)) → i ≤ j ∧ ∃ kv, es[j - i]? = some kv ∧ kv.2 = v ∧ eq k kv.1 = some true
  | [], i, j, v, h => by simp [findKey] at h
  | (k', v') :: es, i, j, v, h => by
    unfold findKey at h
    cases hq : eq k k' with
    | none => simp [hq] at h
    | some b =>
      cases b with
      | true =>
        simp only [hq, Option.some.injEq, Prod.mk.injEq] at h
        obtain ⟨rfl, rfl⟩ := h
        exact ⟨Nat.le_refl _, (k', v'), by simp, rfl, hq⟩
      | false =>
        simp only [hq] at h
        obtain ⟨h1, kv, h2, h3, h4⟩ := findKey_eq h
        exact ⟨by omega, kv, by rw [show j - i = (j - (i + 1)) + 1 from by omega]; simpa using h2, h3, h4⟩

theorem eqElems_true {eq : FV → FV → Option Bool} {xs ys : List FV} : ∀ {l i : Nat}, eqElems eq 1 false l i xs ys = some true → ∀ j, i ≤ j → j < i + l → ∃ a b, xs[j]? = some a ∧ ys[j]? = some b ∧ eq a b = some true
  | 0, i, h, j, h1, h2 => by omega
  | l + 1, i, h, j, h1, h2 => by
    unfold eqElems at h
    simp only [partOf, Nat.mul_one, nth_eq] at h
    cases ha : xs[i]? with
    | none => simp [ha] at h
    | some a =>
      cases hb : ys[i]? with
      | none => simp [ha, hb] at h
      | some b =>
        simp only [ha, hb] at h
        cases hq : eq a b with
        | none => simp [hq] at h
        | some q =>
          cases q with
          | false => simp [hq] at h
          | true =>
            simp only [hq] at h
            by_cases hj : j = i
            · subst hj; exact ⟨a, b, ha, hb, hq⟩
            · exact eqElems_true h j (by omega) (by omega)

theorem eqFV_int {d : Nat} {e : TypeId} {ik : IntKind} (he : P.underlying e = some (.int ik)) {a b : FV} (h : eqFV P d e a b = some true) : ∃ k n, a = .int k n ∧ b = .int k n := by
  cases d with
  | zero => simp [eqFV] at h
  | succ d =>
    unfold eqFV at h
    simp only [he] at h
    cases a <;> cases b <;> simp only [reduceCtorEq] at h
    rename_i k1 m k2 n
    cases hk : kindEq k1 k2 with
    | false => simp [hk] at h
    | true =>
      have := kindEq_iff hk; subst this
      simp only [hk, cond_true, Option.some.injEq, beq_iff_eq] at h; subst h
      exact ⟨_, _, rfl, rfl⟩

theorem same_bits {kt : TypeId} {fit : FV → Bool} (hf : keyFit P kt = some fit) {k k' : FV} (h1 : fit k = true) (h2 : fit k' = true) (he : eqFV P eqDepth kt k k' = some true) {u v : Value} (hk : RelF w X k u) (hk' : RelF w X k' v) :
    Instr.sameBits 10000 v u = true := by
  have he : eqFV P (9999 + 1) kt k k' = some true := he
  unfold eqFV at he
  unfold keyFit at hf
  cases hu : P.underlying kt with
  | none => simp [hu] at hf
  | some d =>
    cases d <;> simp only [hu, reduceCtorEq] at hf he
    case bool =>
      cases k <;> cases k' <;> simp only [Option.some.injEq, reduceCtorEq, beq_iff_eq] at he
      cases hk; cases hk'; subst he; simp [Instr.sameBits]
    case int =>
      cases k <;> cases k' <;> simp only [reduceCtorEq] at he
      rename_i k1 a k2 b' _
      cases hkk : kindEq k1 k2 with
      | false => simp [hkk] at he
      | true =>
        have := kindEq_iff hkk; subst this
        simp only [hkk, cond_true, Option.some.injEq, beq_iff_eq] at he; subst he
        cases hk; cases hk'; simp [Instr.sameBits]
    case string =>
      cases k <;> cases k' <;> simp only [Option.some.injEq, reduceCtorEq] at he
      cases hk; cases hk'
      simp only [Instr.sameBits]
      rw [beq_toListBytes, ByteArray.toList_eq, ByteArray.toList_eq]
      rw [beq_iff_eq] at he ⊢
      exact he.symm
    case array n e =>
      cases hue : P.underlying e with
      | none => simp [hue] at hf
      | some de =>
        cases de <;> simp only [hue, reduceCtorEq] at hf
        rename_i ik
        split at hf
        · rename_i hs
          simp only [Option.some.injEq] at hf; subst hf
          have ha : tagg P e = some false := by simp [tagg, hue]
          simp only [hs, ha] at he
          cases k <;> cases k' <;> simp only [reduceCtorEq] at he
          rename_i cs cs' _
          simp only [beq_iff, lenN_eq] at h1 h2
          obtain ⟨us, rfl, hlu, _, hru⟩ := hk.agg_inv
          obtain ⟨vs, rfl, hlv, _, hrv⟩ := hk'.agg_inv
          have hall := eqElems_true he
          simp only [Instr.sameBits, Bool.and_eq_true, beq_iff_eq, List.all_eq_true]
          refine ⟨by omega, fun xy hxy => ?_⟩
          obtain ⟨j, hj, rfl⟩ := List.mem_iff_getElem.1 hxy
          simp only [List.length_zip, Array.length_toList] at hj
          obtain ⟨a, b, ha', hb', hq⟩ := hall j (Nat.zero_le _) (by omega)
          obtain ⟨kk, m, rfl, rfl⟩ := eqFV_int hue hq
          have e1 : us[j]? = some (.int kk m) := by
            have hju : j < us.size := by omega
            have := hru j _ us[j] ha' (by simp [hju])
            rw [Array.getElem?_eq_getElem hju]
            generalize us[j] = q at this
            cases this; rfl
          have e2 : vs[j]? = some (.int kk m) := by
            have hju : j < vs.size := by omega
            have := hrv j _ vs[j] hb' (by simp [hju])
            rw [Array.getElem?_eq_getElem hju]
            generalize vs[j] = q at this
            cases this; rfl
          have e1' : us.toList[j]? = some (.int kk m) := by rw [Array.getElem?_toList]; exact e1
          have e2' : vs.toList[j]? = some (.int kk m) := by rw [Array.getElem?_toList]; exact e2
          obtain ⟨_, e1'⟩ := List.getElem?_eq_some_iff.1 e1'
          obtain ⟨_, e2'⟩ := List.getElem?_eq_some_iff.1 e2'
          simp only [List.getElem_zip, e1', e2']
          simp [Instr.sameBits]
        · cases hf

theorem SRH.setMap (hsr : SRH w O F β H) {o : Nat} {l : Loc} {es es' : List (FV × AV)} {entries entries' : Array MapEntry} {clock clock' : Nat} (hg : H.get o = .map es) (hl : β o = some l) (hb : w.heap[l.b]? = some (.map entries clock))
    (he : EntR w (bar O F) β es' entries') (hbn' : Born entries' clock') : Step w O β { w with heap := w.heap.setIfInBounds l.b (.map entries' clock') } O β ∧ SRH { w with heap := w.heap.setIfInBounds l.b (.map entries' clock') } O F β (H.set o (.map es')) := by
  have ha : (H.get o).alive = true := by rw [hg]; rfl
  have hlt : l.b < w.heap.size := (Array.getElem?_eq_some_iff.1 hb).1
  have ho : ∀ b', b' ≠ l.b → (w.heap.setIfInBounds l.b (.map entries' clock'))[b']? = w.heap[b']? := fun b' hb' => by simp [Ne.symm hb']
  have hst : Step w O β { w with heap := w.heap.setIfInBounds l.b (.map entries' clock') } O β := Step.of_wrote (hsr.1.own o l ha hl) ho (by simp) ⟨rfl, rfl, rfl⟩
  refine ⟨hst, hsr.upd (hsr.lt_n ha) (hsr.1.turn (w' := { w with heap := w.heap.setIfInBounds l.b (.map entries' clock') }) ha hl ho (by simp) ⟨rfl, rfl, rfl⟩ ?_).1⟩
  refine ⟨entries', clock', by simp [hlt], hbn', he.1, fun i kv hi => ?_⟩
  obtain ⟨e, h1, h2, h3⟩ := he.2 i kv hi
  exact ⟨e, h1, h2.mono (hst.still F), h3.mono (hst.still F) (Ext.refl _)⟩

theorem mapUpdateS_sound {t : TypeId} {m k v : AV} {H' : Heap} {um uk uv : Value} (h : mapUpdateS P t m k v H = some H') (hm : Rel w (bar O F) β m um) (hk : Rel w (bar O F) β k uk) (hv : Rel w (bar O F) β v uv) (hsr : SRH w O F β H) :
    ∃ w', (Instr.mapUpdate t um uk uv).run P w = .ok () w' ∧ Step w O β w' O β ∧ SRH w' O F β H' := by
  unfold mapUpdateS at h
  cases hu : P.underlying t with
  | none => simp [hu] at h
  | some d =>
    cases d <;> simp only [hu, reduceCtorEq] at h
    rename_i kt e
    cases hf : keyFit P kt with
    | none => simp [hf] at h
    | some fit =>
      simp only [hf] at h
      split at h
      · rename_i o kv
        have hk := hk.fv_inv
        cases hfk : fit kv with
        | false => simp [hfk] at h
        | true =>
          simp only [hfk, cond_true] at h
          cases hg : H.get o with
          | map es =>
            simp only [hg] at h
            obtain ⟨l, rfl, hl⟩ : ∃ l, um = .map (some l.b) ∧ β o = some l := by cases hm with | map o l hl => exact ⟨l, rfl, hl⟩
            have ho := hsr.1.obj o l hl
            rw [hg] at ho
            obtain ⟨entries, clock, hb, hbn, hsz, hr⟩ := ho
            have hent : EntR w (bar O F) β es entries := ⟨hsz, hr⟩
            have hc : ∀ em, (Instr.checkKey em 10000 kt uk).run P w = .ok () w := fun em => fit_check (d := 9998) hf hfk hk em
            cases hfd : findKey (eqFV P eqDepth kt) kv es 0 with
            | none => simp [hfd] at h
            | some r =>
              obtain ⟨r', hrun, hnone, hsome⟩ := findKey_sound hf hk hfk hent hfd
              cases r with
              | none =>
                simp only [hfd, Option.some.injEq] at h; subst h
                have hr0 := hnone rfl
                subst hr0
                refine ⟨_, ?_, hsr.setMap (entries' := entries.push { key := uk, val := uv, born := clock }) (clock' := clock + 1) hg hl hb ⟨?_, fun i q hi => ?_⟩ (born_push hbn _ _)⟩
                · simp [Instr.mapUpdate, run_under hu, MapKept.run_getObj_map hb, hc, hrun, MapKept.run_setObj_map _ hb]
                · rw [appN_eq]; simp [hsz]
                · rw [nth_eq, appN_eq, List.getElem?_append] at hi
                  split at hi
                  · rename_i hlt
                    obtain ⟨e', a1, a2, a3⟩ := hr i q (by rw [nth_eq]; exact hi)
                    exact ⟨e', by rw [Array.getElem?_push, if_neg (by omega)]; exact a1, a2, a3⟩
                  · have hi0 : i = es.length := by have := (List.getElem?_eq_some_iff.1 hi).1; simp at this; omega
                    subst hi0
                    simp at hi; subst hi
                    exact ⟨_, by rw [Array.getElem?_push, if_pos hsz.symm], hk, hv⟩
              | some jv =>
                obtain ⟨j, vv⟩ := jv
                simp only [hfd] at h
                cases hn : nth es j with
                | none => simp [hn] at h
                | some q =>
                  simp only [hn] at h
                  cases hfq : fit q.1 with
                  | false => simp [hfq] at h
                  | true =>
                    simp only [hfq, cond_true, Option.some.injEq] at h; subst h
                    obtain ⟨kv', e', a1, a2, a3, a4⟩ := hsome j vv rfl
                    obtain ⟨_, kv2, b1, b2, b3⟩ := findKey_eq hfd
                    rw [Nat.sub_zero] at b1
                    rw [a1] at b1; cases b1
                    have hq : kv' = q := by rw [nth_eq, a1] at hn; exact Option.some.inj hn
                    subst hq
                    obtain ⟨e2, c1, c2, c3⟩ := hr j kv' (by rw [nth_eq]; exact a1)
                    rw [a3] at c1; cases c1
                    have hbits := same_bits hf hfk hfq b3 hk c2
                    subst a4
                    refine ⟨_, ?_, hsr.setMap (entries' := entries.modify j fun x => { x with key := uk, val := uv }) (clock' := clock) hg hl hb ⟨?_, fun i q hi => ?_⟩ (born_modify hbn _ _ fun _ => rfl)⟩
                    · simp [Instr.mapUpdate, run_under hu, MapKept.run_getObj_map hb, hc, hrun, MapKept.run_setObj_map _ hb, a3, Instr.keyThatStays, hbits]
                    · rw [setN_eq]; simp [hsz]
                    · rw [nth_eq, setN_eq, List.getElem?_set] at hi
                      rw [Array.getElem?_modify]
                      split at hi
                      · rename_i hji
                        subst hji
                        rw [if_pos rfl, a3]
                        split at hi
                        · cases hi; exact ⟨_, rfl, hk, hv⟩
                        · cases hi
                      · rename_i hji
                        rw [if_neg hji]
                        exact hr i q (by rw [nth_eq]; exact hi)
          | _ => simp [hg] at h
      · cases h

theorem deleteS_sound {t ty : TypeId} {ts : Array TypeId} {m k : AV} {H' : Heap} {um uk : Value} (h : deleteS P t m k H = some H') (h0 : ts[0]? = some t) (hm : Rel w (bar O F) β m um) (hk : Rel w (bar O F) β k uk) (hsr : SRH w O F β H) :
    ∃ w', (Builtin.delete_ ts ty #[um, uk]).run P w = .ok (.tuple #[]) w' ∧ Step w O β w' O β ∧ SRH w' O F β H' := by
  unfold deleteS at h
  cases hu : P.underlying t with
  | none => simp [hu] at h
  | some d =>
    cases d <;> simp only [hu, reduceCtorEq] at h
    rename_i kt e
    cases hf : keyFit P kt with
    | none => simp [hf] at h
    | some fit =>
      simp only [hf] at h
      split at h
      · rename_i kv
        have hk := hk.fv_inv
        cases hfk : fit kv with
        | false => simp [hfk] at h
        | true =>
          simp only [hfk, cond_true, Option.some.injEq] at h; subst h
          have hm := hm.fv_inv
          cases hm
          have hc : ∀ em, (Instr.checkKey em 10000 kt uk).run P w = .ok () w := fun em => fit_check (d := 9998) hf hfk hk em
          exact ⟨w, by simp [Builtin.delete_, h0, run_under hu, hc], Step.refl _ _ _, hsr⟩
      · rename_i o kv
        have hk := hk.fv_inv
        cases hfk : fit kv with
        | false => simp [hfk] at h
        | true =>
          simp only [hfk, cond_true] at h
          cases hg : H.get o with
          | map es =>
            simp only [hg] at h
            obtain ⟨l, rfl, hl⟩ : ∃ l, um = .map (some l.b) ∧ β o = some l := by cases hm with | map o l hl => exact ⟨l, rfl, hl⟩
            have ho := hsr.1.obj o l hl
            rw [hg] at ho
            obtain ⟨entries, clock, hb, hbn, hsz, hr⟩ := ho
            have hent : EntR w (bar O F) β es entries := ⟨hsz, hr⟩
            have hc : ∀ em, (Instr.checkKey em 10000 kt uk).run P w = .ok () w := fun em => fit_check (d := 9998) hf hfk hk em
            cases hfd : findKey (eqFV P eqDepth kt) kv es 0 with
            | none => simp [hfd] at h
            | some r =>
              obtain ⟨r', hrun, hnone, hsome⟩ := findKey_sound hf hk hfk hent hfd
              cases r with
              | none =>
                simp only [hfd, Option.some.injEq] at h; subst h
                have hr0 := hnone rfl
                subst hr0
                refine ⟨{ w with heap := w.heap.setIfInBounds l.b (.map entries clock) }, ?_, ?_⟩
                · simp [Builtin.delete_, h0, run_under hu, MapKept.run_getObj_map hb, hc, hrun, MapKept.run_setObj_map _ hb]
                · have hsame : w.heap.setIfInBounds l.b (.map entries clock) = w.heap := by
                    apply Array.ext_getElem?
                    intro i
                    rw [Array.getElem?_setIfInBounds]
                    split
                    · rename_i hli; subst hli
                      split
                      · exact hb.symm
                      · rename_i hge; exact absurd (Array.getElem?_eq_some_iff.1 hb).1 hge
                    · rfl
                  rw [hsame]
                  exact ⟨Step.refl _ _ _, hsr⟩
              | some jv =>
                obtain ⟨j, vv⟩ := jv
                simp only [hfd, Option.some.injEq] at h; subst h
                obtain ⟨kv', e', a1, a2, a3, a4⟩ := hsome j vv rfl
                subst a4
                have hjl : j < es.length := (List.getElem?_eq_some_iff.1 a1).1
                have hje : j < entries.size := by omega
                refine ⟨_, ?_, hsr.setMap (entries' := entries.eraseIdxIfInBounds j) (clock' := clock) hg hl hb ⟨?_, fun i q hi => ?_⟩ (born_erase hbn _)⟩
                · simp [Builtin.delete_, h0, run_under hu, MapKept.run_getObj_map hb, hc, hrun, MapKept.run_setObj_map _ hb]
                · rw [eraseN_eq, List.length_eraseIdx, if_pos hjl]
                  unfold Array.eraseIdxIfInBounds
                  rw [dif_pos hje, Array.size_eraseIdx]; omega
                · rw [nth_eq, eraseN_eq, List.getElem?_eraseIdx] at hi
                  unfold Array.eraseIdxIfInBounds
                  rw [dif_pos hje]
                  rw [Array.getElem?_eraseIdx]
                  split at hi
                  · rename_i hlt; rw [if_pos hlt]; exact hr i q (by rw [nth_eq]; exact hi)
                  · rename_i hlt; rw [if_neg hlt]; exact hr (i + 1) q (by rw [nth_eq]; exact hi)
          | _ => simp [hg] at h
      · cases h
end
end Go.Gm
