/- Variables, literals of slices, made slices, lengths. -/
import Derived.Test.YtafggfmidkpnbaaGreatAbsNew
namespace Go.Gm
section
variable {P : Program} {w w0 : World} {O F : Nat → Prop} {X : Nat → Prop} {β : Nat → Option Loc} {G : Nat → AObj} {b : Nat}

theorem FV.cells_av (z : FV) : (AV.fv z).cells = mapN .fv z.cells := by
  cases z <;> rfl
theorem zeroCells_sound {e : TypeId} {esz : Nat} {z : List AV} (h : zeroCells P e = some (esz, z)) :
    tsz P e = some esz ∧ z.length = esz ∧ 0 < esz ∧ ∃ i v, P.info? e = some i ∧ i.zero = some v ∧ ∀ w X β, CellsR w X β z v.cells := by
  unfold zeroCells at h
  cases hz : tzero P e with
  | none => simp [hz] at h
  | some zf =>
    cases hs : tsz P e with
    | none => simp [hz, hs] at h
    | some sz =>
      simp only [hz, hs] at h
      cases hc : (Nat.beq (lenN (mapN AV.fv zf.cells)) sz && Nat.blt 0 sz && allOne (mapN AV.fv zf.cells)) with
      | false => simp [hc] at h
      | true =>
        simp only [hc, cond_true, Option.some.injEq, Prod.mk.injEq] at h
        obtain ⟨rfl, rfl⟩ := h
        rw [Bool.and_eq_true, Bool.and_eq_true, beq_iff, lenN_eq] at hc
        obtain ⟨⟨h1, h2⟩, h3⟩ := hc
        obtain ⟨i, v, hi, hv, hr⟩ := tzero_sound hz
        refine ⟨rfl, h1, by simpa using h2, i, v, hi, hv, fun w X β => ?_⟩
        have := cells_sound (w := w) (X := X) (β := β) (x := .fv zf) (v := v) (by rw [FV.cells_av]; exact h3) (.fv _ _ (hr w X))
        rwa [FV.cells_av] at this

theorem CellsR.row {row : List AV} {cells : Array Value} (h : CellsR w X β row cells) : RowsR w X β row.length [row] cells := by
  refine ⟨by simp [h.len], fun i r hi => ?_, fun i r j x hi hx => ?_⟩
  · cases i <;> simp at hi; subst hi; rfl
  · cases i <;> simp at hi; subst hi
    have hj : j < cells.size := by rw [← h.len]; exact (List.getElem?_eq_some_iff.1 hx).1
    refine ⟨h.one j x hx, cells[j], by simp [hj], h.rel j x _ hx (by simp [hj])⟩

theorem alloc_sound {e : TypeId} {esz : Nat} {z : List AV} (h : zeroCells P e = some (esz, z)) (hsr : SR w O F β G) (hole : Hole G β b 1) (old : Value) :
    ∃ u w', (Instr.alloc e true old).run P w = .ok u w' ∧ NRes w O F β G b (.ptr b 0 0) [.arr esz [z] true] u w' := by
  obtain ⟨hs, hl, h0, i, v, hi, hv, hc⟩ := zeroCells_sound h
  refine ⟨.pointer (some ⟨w.heap.size, 0, none⟩), { w with heap := w.heap.push (.cells v.cells e (0, 0)) }, ?_, ?_⟩
  · simp [Instr.alloc, run_zero hi hv, newVar, newRow]
  · have := NRes.ptr (elem := e) hsr hole (hc w (bar O F) β).row (by omega)
    rwa [hl] at this

theorem box_sound {e : TypeId} {x : AV} {v : Value} (hx : Rel w (bar O F) β x v) (hc : (Nat.blt 0 (lenN x.cells) && allOne x.cells) = true) (hsr : SR w O F β G) (hole : Hole G β b 1) :
    ∃ u w', (Instr.box e v).run P w = .ok u w' ∧ NRes w O F β G b (.ptr b 0 0) [.arr (lenN x.cells) [x.cells] true] u w' := by
  rw [Bool.and_eq_true, lenN_eq] at hc
  have h0 : 0 < x.cells.length := by simpa using hc.1
  refine ⟨.pointer (some ⟨w.heap.size, 0, none⟩), { w with heap := w.heap.push (.cells v.cells e (0, 0)) }, ?_, ?_⟩
  · simp [Instr.box, newVar, newRow]
  · rw [lenN_eq]; exact NRes.ptr (elem := e) hsr hole (cells_sound hc.2 hx).row h0

/-- so many rows of zeros -/
theorem RowsR.zeros {z : List AV} {zs : Array Value} (hc : CellsR w X β z zs) (h0 : 0 < z.length) (n : Nat) :
    RowsR w X β z.length (rep z n) ((Array.range (n * z.length)).map (fun i => zs[i % zs.size]!)) := by
  rw [rep_eq]
  have hrow : ∀ (i : Nat) (row : List AV), (List.replicate n z)[i]? = some row → i < n ∧ row = z := fun i row hi => by
    rw [List.getElem?_replicate] at hi
    split at hi
    · cases hi; exact ⟨by assumption, rfl⟩
    · cases hi
  refine ⟨by simp, fun i row hi => by rw [(hrow i row hi).2], fun i row j x hi hx => ?_⟩
  obtain ⟨hin, rfl⟩ := hrow i row hi
  have hj : j < row.length := (List.getElem?_eq_some_iff.1 hx).1
  have hj' : j < zs.size := by rw [← hc.len]; exact hj
  have hlt : i * row.length + j < n * row.length := by
    calc i * row.length + j < i * row.length + row.length := by omega
      _ = (i + 1) * row.length := by rw [Nat.add_mul]; omega
      _ ≤ n * row.length := Nat.mul_le_mul_right _ hin
  refine ⟨hc.one j x hx, zs[j], ?_, hc.rel j x _ hx (by simp [hj'])⟩
  rw [Array.getElem?_map, Array.getElem?_range, if_pos hlt]
  simp only [Option.map_some, ← hc.len]
  rw [show (i * row.length + j) % row.length = j from by rw [Nat.mul_comm, Nat.mul_add_mod]; exact Nat.mod_eq_of_lt hj]
  simp [hj']

theorem RowsR.set {sz : Nat} {rows : List (List AV)} {cells cells' us : Array Value} {c : List AV} {i : Nat} (h : RowsR w X β sz rows cells) (hc : CellsR w X β c us) (hl : c.length = sz) (hi : i < rows.length)
    (hs : Spliced cells (i * sz) us cells') : RowsR w X β sz (rows.set i c) cells' := by
  refine ⟨by rw [List.length_set, hs.size]; exact h.size, fun k row hk => ?_, fun k row j x hk hx => ?_⟩
  · rw [List.getElem?_set] at hk
    split at hk
    · simp at hk; rw [← hk]; exact hl
    · exact h.len k row hk
  · rw [List.getElem?_set] at hk
    split at hk
    · rename_i hik
      simp at hk
      subst hk
      subst hik
      have hj : j < c.length := (List.getElem?_eq_some_iff.1 hx).1
      have hju : j < us.size := by rw [← hc.len]; exact hj
      have hlt : i * sz + j < cells.size := by
        have h1 : (i + 1) * sz ≤ rows.length * sz := Nat.mul_le_mul_right _ hi
        have h2 := h.size
        rw [Nat.add_mul] at h1; omega
      refine ⟨hc.one j x hx, us[j], ?_, hc.rel j x _ hx (by simp [hju])⟩
      rw [hs.get _ hlt, if_pos (by omega), Nat.add_sub_cancel_left]; simp [hju]
    · rename_i hik
      obtain ⟨h1, v, h2, h3⟩ := h.rel k row j x hk hx
      refine ⟨h1, v, ?_, h3⟩
      have hlt := (Array.getElem?_eq_some_iff.1 h2).1
      have hj : j < sz := by rw [← h.len k row hk]; exact (List.getElem?_eq_some_iff.1 hx).1
      rw [hs.get _ hlt, if_neg ?_]
      · exact h2
      · intro hc'
        rw [← hc.len, hl] at hc'
        rcases Nat.lt_or_gt_of_ne hik with hlt' | hlt'
        · have := Nat.mul_le_mul_right sz (show i + 1 ≤ k from hlt'); rw [Nat.add_mul] at this; omega
        · have := Nat.mul_le_mul_right sz (show k + 1 ≤ i from hlt'); rw [Nat.add_mul] at this; omega

theorem litRows_sound {T : Fr} {esz : Nat} : ∀ {ps : List (Nat × (Fr → AV))} {qs : List (Nat × Value)} {rows rows' : List (List AV)} {cells : Array Value},
    All2 (PartR w X β T) ps qs → litRows esz ps T rows = some rows' → RowsR w X β esz rows cells →
    ∃ cells', Instr.fill (fun i => some (i * esz, esz)) cells qs = some cells' ∧ RowsR w X β esz rows' cells' ∧ rows'.length = rows.length ∧ cells'.size = cells.size
  | _, _, rows, rows', cells, .nil, h, hr => by simp only [litRows, Option.some.injEq] at h; subst h; exact ⟨cells, rfl, hr, rfl, rfl⟩
  | (i, f) :: ps, (i', v) :: qs, rows, rows', cells, .cons hp hps, h, hr => by
    obtain ⟨hi, hv⟩ := hp
    simp only at hi hv
    subst hi
    unfold litRows at h
    unfold Instr.fill
    cases hc : (Nat.beq (lenN (f T).cells) esz && Nat.blt i (lenN rows) && allOne (f T).cells) with
    | false => simp [hc] at h
    | true =>
      simp only [hc, cond_true] at h
      rw [Bool.and_eq_true, Bool.and_eq_true, beq_iff, lenN_eq, lenN_eq] at hc
      obtain ⟨⟨h1, h2⟩, h3⟩ := hc
      have h2 : i < rows.length := by simpa using h2
      have hcl := cells_sound h3 hv
      have hle : (i + 1) * esz ≤ cells.size := Nat.le_trans (Nat.mul_le_mul_right _ h2) hr.size
      rw [Nat.add_mul] at hle
      simp only []
      rw [if_neg (by simp only [ne_eq, Bool.or_eq_true, decide_eq_true_eq]; rw [← hcl.len]; simp [h1]; omega)]
      rw [setN_eq] at h
      have hsp := fold_spliced (i * esz) v.cells cells
      obtain ⟨cells', g1, g2, g3, g4⟩ := litRows_sound hps h (hr.set hcl h1 h2 hsp)
      exact ⟨cells', g1, g2, by rw [g3, List.length_set], by rw [g4, hsp.size]⟩

theorem buildSliceS_sound {own : Bool} {t : TypeId} {len : Nat} {parts : List (Nat × (Fr → AV))} {T : Fr} {v : AV} {objs : List AObj} {qs : Array (Nat × Value)} (h : buildSliceS P own t len parts T b = some (v, objs))
    (hp : All2 (PartR w (bar O F) β T) parts qs.toList) (hsr : SR w O F β G) (hole : Hole G β b objs.length) :
    ∃ u w', (Instr.buildSlice t len qs).run P w = .ok u w' ∧ NRes w O F β G b v objs u w' := by
  unfold buildSliceS at h
  cases hu : P.underlying t with
  | none => simp [hu] at h
  | some d =>
    simp only [hu] at h
    cases d <;> simp only [reduceCtorEq] at h
    rename_i e
    cases hz : zeroCells P e with
    | none => simp [hz] at h
    | some ez =>
      obtain ⟨esz, z⟩ := ez
      obtain ⟨hs, hl, h0, i, zv, hi, hzv, hc⟩ := zeroCells_sound hz
      subst hl
      simp only [hz] at h
      cases hsz : Nat.ble (len * z.length) 16777216 with
      | false => simp [hsz] at h
      | true =>
        simp only [hsz, cond_true] at h
        have hsz' : len * z.length ≤ 16777216 := by simpa using hsz
        cases hlr : litRows z.length parts T (rep z len) with
        | none => simp [hlr] at h
        | some rows =>
          simp only [hlr] at h
          obtain ⟨cells', hfill, hrows, hrl, hcs⟩ := litRows_sound hp hlr (RowsR.zeros (hc w (bar O F) β) h0 len)
          have hrl : rows.length = len := by rw [hrl, rep_eq]; simp
          have hzs : zv.cells.size = z.length := (hc w (bar O F) β).len.symm
          have run : (Instr.buildSlice t len qs).run P w = .ok (.slice (some ⟨w.heap.size, 0, none⟩) len len) { w with heap := w.heap.push (.cells cells' e (0, 0)) } := by
            unfold Instr.buildSlice
            simp only [Sem.run_bind, run_under hu, Result.andThen_ok, run_size hs]
            rw [if_neg (by omega)]
            by_cases h00 : len * z.length = 0
            · rw [if_pos h00]
              rw [h00, Array.range_zero', Array.map_empty] at hfill
              simp only [Sem.run_bind, Sem.run_pure, Result.andThen_ok, h00, Array.range_zero', Array.map_empty, hfill]
              simp [newRow]
            · rw [if_neg h00]
              simp [run_zero hi hzv, hfill, newRow]
          refine ⟨_, _, run, ?_⟩
          split at h
          · rename_i fr hfr
            simp only [Option.some.injEq, Prod.mk.injEq] at h
            obtain ⟨rfl, rfl⟩ := h
            have := NRes.frozen (b := b) (elem := e) hsr hrows (fr := fr) (by cases own with | true => cases hfr | false => exact hfr)
            rwa [hrl] at this
          · simp only [Option.some.injEq, Prod.mk.injEq] at h
            obtain ⟨rfl, rfl⟩ := h
            exact NRes.slice (elem := e) hsr hole hrows h0 (Nat.le_refl _) (by omega) (fun _ => hrl.symm) (by rw [← hrl]; exact hrows.size)
end
end Go.Gm
