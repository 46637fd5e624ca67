/- Made slices, lengths, append. -/
import Derived.Test.YtafggfmidkpnbaaGreatAbsNew2
namespace Go.Gm
section
variable {P : Program} {w w0 : World} {O F : Nat → Prop} {X : Nat → Prop} {β : Nat → Option Loc} {G : Nat → AObj} {b : Nat}

theorem wrap_small {n : Nat} (h : n ≤ 1099511627776) : IntKind.i64.wrap (n : Int) = n := by
  unfold IntKind.wrap
  simp only [IntKind.bits, IntKind.signed]
  simp
  omega

theorem makeSlice_sound {t e : TypeId} {esz : Nat} {z : List AV} {i : TypeInfo} {own : Bool} {x y : AV} {l c : Nat} {u1 u2 : Value} (hu : P.underlying t = some (.slice e)) (hz : zeroCells P e = some (esz, z))
    (hi : P.info? e = some i) (hl : asNat x = some l) (hc : asNat y = some c) (hx : Rel w (bar O F) β x u1) (hy : Rel w (bar O F) β y u2)
    (hb : (Nat.ble l c && Nat.ble (c * i.bytes) 281474976710656 && Nat.ble c 1099511627776) = true) {v : AV} {objs : List AObj}
    (h : (match (match own with | true => none | false => bif Nat.beq l c then allRows (rep z c) else none) with
            | some fr => some (AV.fv (.sl fr true), [])
            | none => some (.osl b 0 l true, [.arr esz (rep z c) true])) = some (v, objs)) (hsr : SR w O F β G) (hole : Hole G β b objs.length) :
    ∃ u w', (Instr.makeSlice t u1 u2).run P w = .ok u w' ∧ NRes w O F β G b v objs u w' := by
  obtain ⟨hs, hle, h0, i', zv, hi', hzv, hcz⟩ := zeroCells_sound hz
  rw [hi] at hi'; cases hi'
  subst hle
  obtain ⟨k1, rfl⟩ := asNat_some hl
  obtain ⟨k2, rfl⟩ := asNat_some hc
  cases hx.int_inv; cases hy.int_inv
  rw [Bool.and_eq_true, Bool.and_eq_true, Nat.ble_eq, Nat.ble_eq, Nat.ble_eq] at hb
  obtain ⟨⟨h1, h2⟩, h3⟩ := hb
  have wl : IntKind.i64.wrap (Int.ofNat l) = l := wrap_small (by omega)
  have wc : IntKind.i64.wrap (Int.ofNat c) = c := wrap_small h3
  have hrows := RowsR.zeros (hcz w (bar O F) β) h0 c
  have hrl : (rep z c).length = c := by rw [rep_eq]; simp
  have hlt : ¬ ((c : Int) < 0 ∨ (2 : Int) ^ 48 < i.bytes * (c : Int)) := by
    rintro (hh | hh)
    · omega
    · have : (i.bytes : Int) * (c : Int) = ((c * i.bytes : Nat) : Int) := by push_cast; rw [Int.mul_comm]
      rw [this] at hh
      have h48 : (2 : Int) ^ 48 = ((281474976710656 : Nat) : Int) := by decide
      rw [h48] at hh
      omega
  have run : (Instr.makeSlice t (.int k1 (.ofNat l)) (.int k2 (.ofNat c))).run P w = .ok (.slice (some ⟨w.heap.size, 0, none⟩) l c)
      { w with heap := w.heap.push (.cells ((Array.range (c * z.length)).map (fun i => zv.cells[i % zv.cells.size]!)) e (0, 0)) } := by
    unfold Instr.makeSlice
    simp only [Sem.run_bind, run_under hu, Result.andThen_ok, asInt, asIntOf, Sem.run_pure, run_info hi, wl, wc, Int.toNat_natCast]
    rw [if_neg (by
      simp only [Bool.or_eq_true, decide_eq_true_eq]
      intro hh
      rcases hh with (hh | hh) | hh
      · exact hlt (by simpa using hh)
      · omega
      · omega)]
    simp only [Sem.run_bind, run_askRoom, Result.andThen_ok, run_size hs]
    by_cases h00 : c * z.length = 0
    · rw [if_pos h00]
      simp only [Sem.run_bind, Sem.run_pure, Result.andThen_ok, h00, Array.range_zero', Array.map_empty]
      simp [newRow]
    · rw [if_neg h00]
      simp [run_zero hi hzv, newRow]
  refine ⟨_, _, run, ?_⟩
  split at h
  · rename_i fr hfr
    simp only [Option.some.injEq, Prod.mk.injEq] at h
    obtain ⟨rfl, rfl⟩ := h
    cases own with
    | true => cases hfr
    | false =>
      simp only [] at hfr
      cases hlc : Nat.beq l c with
      | false => simp [hlc] at hfr
      | true =>
        simp only [hlc, cond_true] at hfr
        rw [beq_iff] at hlc; subst hlc
        have := NRes.frozen (b := b) (elem := e) hsr hrows hfr
        rwa [hrl] at this
  · simp only [Option.some.injEq, Prod.mk.injEq] at h
    obtain ⟨rfl, rfl⟩ := h
    exact NRes.slice (elem := e) hsr hole hrows h0 h1 (by omega) (fun _ => hrl.symm) (by have := hrows.size; rw [hrl] at this; exact this)

theorem makeMap_sound {t : TypeId} (hsr : SR w O F β G) (hole : Hole G β b 1) : ∃ u w', (Instr.makeMap t none).run P w = .ok u w' ∧ NRes w O F β G b (.map b) [.map []] u w' :=
  ⟨.map (some w.heap.size), { w with heap := w.heap.push (.map #[] 0) }, by simp [Instr.makeMap], NRes.map hsr hole⟩

theorem lenS_sound {t : TypeId} {x : AV} {H : Heap} {z : FV} {u : Value} {ts : Array TypeId} {ty : TypeId} {us : Array Value} (h : lenS P t x H = some z) (hsr : SR w O F β G) (hG : ∀ o, o ∈ refOf x → G o = H.get o)
    (hx : Rel w (bar O F) β x u) (ht : ts[0]? = some t) (hus : us[0]? = some u) : ∃ r, (Builtin.len_ ts ty us).run P w = .ok r w ∧ RelF w (bar O F) z r := by
  unfold lenS at h
  cases hu : P.underlying t with
  | none => simp [hu] at h
  | some d =>
    simp only [hu] at h
    cases d <;> simp only [reduceCtorEq] at h
    case string =>
      split at h
      · rename_i s
        cases h
        have := hx.fv_inv; cases this
        exact ⟨_, by simp [Builtin.len_, ht, hus, run_under hu]; rfl, .int _ _⟩
      · cases h
    case array n e =>
      cases h
      exact ⟨_, by simp [Builtin.len_, ht, hus, run_under hu]; rfl, .int _ _⟩
    case slice e =>
      split at h
      · cases h
        cases hx
        exact ⟨_, by simp [Builtin.len_, ht, hus, run_under hu]; rfl, .int _ _⟩
      · cases h
        have := hx.fv_inv; cases this
        exact ⟨_, by simp [Builtin.len_, ht, hus, run_under hu]; rfl, by rw [lenN_eq]; exact .int _ _⟩
      · cases h
    case map k e =>
      split at h
      · cases h
        have := hx.fv_inv; cases this
        exact ⟨_, by simp [Builtin.len_, ht, hus, run_under hu]; rfl, .int _ _⟩
      · rename_i o
        cases hg : H.get o with
        | map es =>
          simp only [hg, Option.some.injEq] at h; subst h
          cases hx with
          | map o l hl =>
            have ho := hsr.obj o l hl
            rw [hG o (by simp [refOf]), hg] at ho
            obtain ⟨entries, clock, hb, _, hsz, hr⟩ := ho
            refine ⟨_, by simp [Builtin.len_, ht, hus, run_under hu, MapKept.run_getObj_map hb]; rfl, ?_⟩
            rw [lenN_eq, hsz]; exact .int _ _
        | _ => simp [hg] at h
      · cases h
    case pointer a =>
      cases ha : P.underlying a with
      | none => simp [ha] at h
      | some d =>
        cases d <;> simp only [ha, reduceCtorEq] at h
        rename_i n e
        simp only [Option.some.injEq] at h; subst h
        exact ⟨_, by simp [Builtin.len_, ht, hus, run_under hu, run_under ha]; rfl, .int _ _⟩

theorem capS_sound {t : TypeId} {x : AV} {H : Heap} {z : FV} {u : Value} {ts : Array TypeId} {ty : TypeId} {us : Array Value} (h : capS P t x H = some z) (hsr : SR w O F β G) (hG : ∀ o, o ∈ refOf x → G o = H.get o)
    (hx : Rel w (bar O F) β x u) (ht : ts[0]? = some t) (hus : us[0]? = some u) : ∃ r, (Builtin.cap_ ts ty us).run P w = .ok r w ∧ RelF w (bar O F) z r := by
  unfold capS at h
  cases hu : P.underlying t with
  | none => simp [hu] at h
  | some d =>
    simp only [hu] at h
    cases d <;> simp only [reduceCtorEq] at h
    case slice e =>
      split at h
      · cases h
        have := hx.fv_inv
        cases this with
        | sl rows tight a cap sz cv hcap ht' ha hsz h1 hc hh =>
          have hcap' := ht' rfl
          subst hcap'
          exact ⟨_, by simp [Builtin.cap_, ht, hus, run_under hu]; rfl, by rw [lenN_eq]; exact .int _ _⟩
      · rename_i o off len
        cases hg : H.get o with
        | arr sz rows cl =>
          cases cl <;> simp only [hg, reduceCtorEq] at h
          simp only [Option.some.injEq] at h; subst h
          cases hx with
          | osl o off len cap app l hl hlen hcap happ =>
            have ho := hsr.obj o l hl
            rw [hG o (by simp [refOf]), hg] at ho
            obtain ⟨h1, h2, h3, h4, h5, h6, _⟩ := ho
            have := happ rfl
            have h4 := h4 rfl
            refine ⟨_, by simp [Builtin.cap_, ht, hus, run_under hu]; rfl, ?_⟩
            rw [lenN_eq, ← h2, show l.n - off = cap from by omega]; exact .int _ _
        | _ => simp [hg] at h
      · cases h

theorem maxA_sound {x y z : AV} {u v : Value} (h : maxA x y = some z) (hx : Rel w X β x u) (hy : Rel w X β y v) (ts : Array TypeId) (t : TypeId) :
    ∃ r, (∀ w0, (Builtin.max_ ts t #[u, v]).run P w0 = .ok r w0) ∧ Rel w X β z r := by
  unfold maxA at h
  split at h
  · rename_i k a k' b
    cases hk : kindEq k k' with
    | false => simp [hk] at h
    | true =>
      simp only [hk, cond_true, Option.some.injEq] at h; subst h
      cases hx.int_inv; cases hy.int_inv
      exact ⟨_, fun w0 => by rw [run_max_int2], .fv _ _ (.int _ _)⟩
  · cases h
theorem minA_sound {x y z : AV} {u v : Value} (h : minA x y = some z) (hx : Rel w X β x u) (hy : Rel w X β y v) (ts : Array TypeId) (t : TypeId) :
    ∃ r, (∀ w0, (Builtin.min_ ts t #[u, v]).run P w0 = .ok r w0) ∧ Rel w X β z r := by
  unfold minA at h
  split at h
  · rename_i k a k' b
    cases hk : kindEq k k' with
    | false => simp [hk] at h
    | true =>
      simp only [hk, cond_true, Option.some.injEq] at h; subst h
      cases hx.int_inv; cases hy.int_inv
      exact ⟨_, fun w0 => by rw [run_min_int2], .fv _ _ (.int _ _)⟩
  · cases h

/-! ### append -/
/-- the rows of a slice, its cells -/
theorem rowsOf_sound {x : AV} {H : Heap} {xs : List (List AV)} {u : Value} {esz : Nat} (h : rowsOf x H = some xs) (hok : okRows esz xs = true) (hsr : SR w O F β G) (hG : ∀ o, o ∈ refOf x → G o = H.get o)
    (hx : Rel w (bar O F) β x u) : ∃ a cap, u = .slice a xs.length cap ∧ ∀ n, n ≤ xs.length → ∃ cells, (∀ w', w'.heap = w.heap → (Builtin.firstCells esz n u).run P w' = .ok cells w') ∧ cells.size = n * esz ∧ RowsR w (bar O F) β esz (xs.take n) cells := by
  have hok' : ∀ (i : Nat) (row : List AV), xs[i]? = some row → row.length = esz := fun i row hi => by
    unfold okRows at hok
    rw [allN_eq, List.all_eq_true] at hok
    have := hok row (List.mem_of_getElem? hi)
    rwa [beq_iff, lenN_eq] at this
  -- cells that are known, one by one
  have key : ∀ (a : Addr) (n cap : Nat), a.spot = none → n ≤ xs.length → (∀ (i : Nat) (row : List AV) (j : Nat) (y : AV), xs[i]? = some row → row[j]? = some y → y.one = true ∧ ∃ v, w.cell? ⟨a.block, a.off + (i * esz + j), none⟩ = some v ∧ Rel w (bar O F) β y v) →
      ∃ cells, (∀ w', w'.heap = w.heap → (Builtin.firstCells esz n (.slice (some a) xs.length cap)).run P w' = .ok cells w') ∧ cells.size = n * esz ∧ RowsR w (bar O F) β esz (xs.take n) cells := by
    intro a n cap hsp hn hc
    have each : ∀ k, k < n * esz → ∃ v, w.cell? ⟨a.block, a.off + k, none⟩ = some v := fun k hk => by
      have he : 0 < esz := by cases esz with | zero => simp at hk | succ e => omega
      have hi : k / esz < n := by rw [Nat.div_lt_iff_lt_mul he]; exact hk
      have hj : k % esz < esz := Nat.mod_lt _ he
      have hxi : xs[k / esz]? = some xs[k / esz] := by simp
      have hl := hok' _ _ hxi
      obtain ⟨_, v, hv, _⟩ := hc _ _ (k % esz) (xs[k / esz][k % esz]) hxi (by simp)
      rw [show k / esz * esz + k % esz = k from by rw [Nat.mul_comm]; exact Nat.div_add_mod k esz] at hv
      exact ⟨v, hv⟩
    let cv : Nat → Value := fun k => if hk : k < n * esz then (each k hk).choose else default
    have hcv : ∀ k, k < n * esz → w.cell? ⟨a.block, a.off + k, none⟩ = some (cv k) := fun k hk => by
      have := (each k hk).choose_spec
      simp only [cv, hk, dif_pos]; exact this
    refine ⟨((List.range (n * esz)).map cv).toArray, ?_, by simp, ?_⟩
    · intro w' hw'
      simp only [Builtin.firstCells]
      exact run_loadCells hsp cv (n * esz) fun k hk => by
        have := hcv k hk
        unfold World.cell? at *
        rw [hw']; exact this
    · refine ⟨by simp [Nat.min_eq_left hn], fun i row hi => ?_, fun i row j y hi hy => ?_⟩
      · rw [List.getElem?_take] at hi
        split at hi
        · exact hok' i row hi
        · cases hi
      · rw [List.getElem?_take] at hi
        split at hi
        · rename_i hin
          obtain ⟨h1, v, h2, h3⟩ := hc i row j y hi hy
          have hj : j < esz := by rw [← hok' i row hi]; exact (List.getElem?_eq_some_iff.1 hy).1
          have hlt : i * esz + j < n * esz := by
            have := Nat.mul_le_mul_right esz (show i + 1 ≤ n from hin); rw [Nat.add_mul] at this; omega
          refine ⟨h1, v, ?_, h3⟩
          simp only [List.getElem?_toArray, List.getElem?_map, List.getElem?_range hlt, Option.map_some]
          rw [← hcv _ hlt]; exact h2
        · cases hi
  unfold rowsOf at h
  split at h
  · rename_i rows tight
    simp only [Option.some.injEq] at h
    have hx' := hx.fv_inv
    cases hx' with
    | sl rows tight a cap sz cv hcap ht ha hsz h1 hc hh =>
      have hxs : xs = rows.map (List.map AV.fv) := by
        rw [← h]; unfold fvRows; rw [mapN_eq]; congr 1; funext r; unfold fvRow; rw [mapN_eq]
      have hlen : rows.length = xs.length := by rw [hxs]; simp
      refine ⟨a, cap, by rw [hlen], fun n hn => ?_⟩
      by_cases hne : rows = []
      · subst hne
        have hxs' : xs = [] := by rw [hxs]; rfl
        subst hxs'
        have hn0 : n = 0 := by simpa using hn
        subst hn0
        refine ⟨#[], ?_, by simp, ⟨by simp, fun i row hi => by simp at hi, fun i row j x hi => by simp at hi⟩⟩
        intro w' _
        cases a with
        | none => rfl
        | some a => simp [Builtin.firstCells, loadCells, loadCellsFrom]
      · obtain ⟨ad, rfl, hsp, _, _⟩ := ha hne
        rw [hlen]
        refine key ad n cap hsp hn fun i row j y hi hy => ?_
        rw [hxs, List.getElem?_map] at hi
        cases hr : rows[i]? with
        | none => simp [hr] at hi
        | some r =>
          simp [hr] at hi
          subst hi
          rw [List.getElem?_map] at hy
          cases hq : r[j]? with
          | none => simp [hq] at hy
          | some q =>
            simp [hq] at hy
            subst hy
            have hr' : nth rows i = some r := by rw [nth_eq]; exact hr
            have hq' : nth r j = some q := by rw [nth_eq]; exact hq
            have hes : sz = esz := by
              rw [← hsz i r hr', ← hok' i (r.map AV.fv) (by rw [hxs]; simp [hr])]; simp
            subst hes
            exact ⟨h1 i r j q hr' hq', cv i j, hc ad i r j q rfl hr' hq', .fv _ _ (hh i r j q hr' hq')⟩
  · rename_i o off len app
    cases hg : H.get o with
    | arr sz rows cl =>
      simp only [hg] at h
      obtain ⟨hl, hcut⟩ := cut_some h
      cases hx with
      | osl o off len cap app l hlo hlen hcap happ =>
        have ho := hsr.obj o l hlo
        rw [hG o (by simp [refOf]), hg] at ho
        have hszl : l.sz = sz := ho.1
        obtain ⟨h1, h2, h3, h4, h5, h6, cs, e, hb, hfit, hr⟩ := ho
        refine ⟨_, cap, by rw [hl], fun n hn => ?_⟩
        rw [← hl]
        refine key ⟨l.b, l.c + off * l.sz, none⟩ n cap rfl hn fun i row j y hi hy => ?_
        have hil : i < len := by rw [← hl]; exact (List.getElem?_eq_some_iff.1 hi).1
        have hi' := hcut i hil
        rw [hi] at hi'
        have hir : nth rows (off + i) = some row := by rw [nth_eq]; exact hi'.symm
        obtain ⟨hrl, hrr⟩ := hr (off + i) row hir
        obtain ⟨hone, v, hv, hrel⟩ := hrr j y (by rw [nth_eq]; exact hy)
        have hes : sz = esz := by rw [← hrl, hok' i row hi]
        subst hes
        refine ⟨hone, v, cell_iff.2 ⟨cs, e, _, hb, ?_⟩, hrel⟩
        simp only [hszl]
        rw [show l.c + off * sz + (i * sz + j) = l.c + ((off + i) * sz + j) from by rw [Nat.add_mul]; omega]
        exact hv
    | _ => simp [hg] at h
  · cases h
end
end Go.Gm
