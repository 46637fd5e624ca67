/- Operations that turn objects. -/
import Derived.Test.YtafggfmidkpnbaaGreatAbsN
namespace Go.Gm

/-- what an operation with effect brings -/
def ERes (w : World) (O : Nat → Prop) (F : Fo) (β : Nat → Option Loc) (v : AV) (H' : Heap) (u : Value) (w' : World) : Prop :=
  ∃ O' β', Step w O β w' O' β' ∧ SRH w' O' F β' H' ∧ Rel w' (bar O' F) β' v u

section
variable {P : Program} {w w0 w' : World} {O : Nat → Prop} {F : Fo} {X : Nat → Prop} {β : Nat → Option Loc} {G : Nat → AObj} {b : Nat} {rl : Option Nat} {H : Heap}

theorem SRH.upd (h : SRH w O F β H) {o : Nat} (hn : o < H.n) {x : AObj} {w' : World} (hsr : SR w' O F β (Go.Gm.upd H.get o x)) : SRH w' O F β (H.set o x) := by
  have ho : o < 2 ^ 63 := by have := h.2.2; omega
  have e : (H.set o x).get = Go.Gm.upd H.get o x := funext fun p => by
    rw [Heap.get_set ho]
    unfold Go.Gm.upd
    by_cases hp : p = o
    · rw [if_pos hp, if_pos hp.symm]
    · rw [if_neg hp, if_neg (fun c => hp c.symm)]
  refine ⟨by rw [e]; exact hsr, fun p hp => ?_, h.2.2⟩
  rw [Heap.set_n] at hp
  rw [e]
  unfold Go.Gm.upd
  rw [if_neg (by omega)]
  exact h.2.1 p hp

/-- rows that are written over: what stands in the cells from k on is new -/
theorem SR.write (h : SR w O F β G) {o : Nat} {l : Loc} {sz : Nat} {rows rows' : List (List AV)} {cl : Bool} (hl : β o = some l) (hG : G o = .arr sz rows cl) {k : Nat} {vs : List Value}
    (hw : Wrote w l.b (l.c + k) vs w') (hlen : rows'.length = rows.length) (hrow : ∀ (i : Nat) (row : List AV), rows'[i]? = some row → row.length = sz)
    (hc : ∀ (i : Nat) (row : List AV) (j : Nat) (x : AV), rows'[i]? = some row → row[j]? = some x →
      (k ≤ i * sz + j ∧ i * sz + j < k + vs.length ∧ x.one = true ∧ ∃ v, vs[i * sz + j - k]? = some v ∧ Rel w (bar O F) β x v) ∨
      (¬ (k ≤ i * sz + j ∧ i * sz + j < k + vs.length) ∧ ∃ r, rows[i]? = some r ∧ r[j]? = some x)) :
    SR w' O F β (upd G o (.arr sz rows' cl)) ∧ Step w O β w' O β := by
  have ha : (G o).alive = true := by rw [hG]; rfl
  have ho := h.obj o l hl
  rw [hG] at ho
  obtain ⟨h1, h2, h3, h4, h5, h6, cs, elem, hh, hsz, hr⟩ := ho
  have hst : Step w O β w' O β := Step.of_wrote (h.own o l ha hl) hw.other hw.size hw.out
  refine h.turn ha hl hw.other hw.size hw.out ?_
  obtain ⟨cs', hcs, hcsz, hcg⟩ := hw.cells cs elem (0, 0) hh
  refine ⟨h1, by rw [h2, hlen], h3, h4, h5, h6, cs', elem, hcs, by rw [hcsz]; exact hsz, fun i row hi => ?_⟩
  rw [nth_eq] at hi
  refine ⟨hrow i row hi, fun j x hx => ?_⟩
  rw [nth_eq] at hx
  have hj : j < sz := by rw [← hrow i row hi]; exact (List.getElem?_eq_some_iff.1 hx).1
  have hil : i < rows.length := by rw [← hlen]; exact (List.getElem?_eq_some_iff.1 hi).1
  have hlt : l.c + (i * sz + j) < cs.size := by
    have a1 := Nat.mul_le_mul_right sz (show i + 1 ≤ l.room by omega)
    rw [Nat.add_mul] at a1; omega
  rcases hc i row j x hi hx with ⟨a1, a2, a3, v, a4, a5⟩ | ⟨a1, r, a2, a3⟩
  · refine ⟨a3, v, ?_, a5.mono (hst.still F) (Ext.refl _)⟩
    rw [hcg _ hlt, if_pos (by omega), show l.c + (i * sz + j) - (l.c + k) = i * sz + j - k from by omega]; exact a4
  · obtain ⟨b1, v, b2, b3⟩ := (hr i r (by rw [nth_eq]; exact a2)).2 j x (by rw [nth_eq]; exact a3)
    refine ⟨b1, v, ?_, b3.mono (hst.still F) (Ext.refl _)⟩
    rw [hcg _ hlt, if_neg (by omega)]; exact b2

/-- cells of an object can be written -/
theorem SR.store (h : SR w O F β G) {o : Nat} {l : Loc} {sz : Nat} {rows : List (List AV)} {cl : Bool} (hl : β o = some l) (hG : G o = .arr sz rows cl) {k : Nat} {vs : List Value} (hle : k + vs.length ≤ l.room * sz)
    (hone : ∀ v ∈ vs, v.oneCell' = true) : ∃ w', (storeCells ⟨l.b, l.c + k, none⟩ vs).run P w = .ok () w' ∧ Wrote w l.b (l.c + k) vs w' := by
  have ho := h.obj o l hl
  rw [hG] at ho
  obtain ⟨h1, h2, h3, h4, h5, h6, cs, elem, hh, hsz, hr⟩ := ho
  have := run_storeCells (P := P) (b := l.b) (o := l.c + k) vs 0 w cs elem hh (by omega) hone
  simpa using this

theorem CellsR.oneCell {cs : List AV} {vs : Array Value} (h : CellsR w X β cs vs) : ∀ v ∈ vs.toList, v.oneCell' = true := fun v hv => by
  obtain ⟨j, hj, rfl⟩ := List.mem_iff_getElem.1 hv
  have hj' : j < vs.size := by simpa using hj
  have hc : j < cs.length := by rw [h.len]; exact hj'
  have := h.rel j cs[j] (vs.toList[j]) (by simp [hc]) (by simp [hj'])
  exact this.oneCell (h.one j cs[j] (by simp [hc]))
theorem RowsR.oneCell {sz : Nat} {rows : List (List AV)} {cells : Array Value} (h : RowsR w X β sz rows cells) (hs : cells.size = rows.length * sz) : ∀ v ∈ cells.toList, v.oneCell' = true := fun v hv => by
  obtain ⟨k, hk, rfl⟩ := List.mem_iff_getElem.1 hv
  have hk' : k < cells.size := by simpa using hk
  have h0 : 0 < sz := by cases sz with | zero => rw [Nat.mul_zero] at hs; omega | succ n => omega
  have hi : k / sz < rows.length := by rw [Nat.div_lt_iff_lt_mul h0]; omega
  have hj : k % sz < sz := Nat.mod_lt _ h0
  have hrow : rows[k / sz]? = some rows[k / sz] := by simp
  have hl := h.len _ _ hrow
  obtain ⟨h1, v, h2, h3⟩ := h.rel (k / sz) rows[k / sz] (k % sz) (rows[k / sz][k % sz]) hrow (by simp)
  rw [show k / sz * sz + k % sz = k from by rw [Nat.mul_comm]; exact Nat.div_add_mod k sz] at h2
  have : cells.toList[k] = v := by
    rw [Array.getElem?_eq_getElem hk'] at h2
    simpa using h2
  rw [this]; exact h3.oneCell h1

/-- rows in their places -/
theorem SR.rows (h : SR w O F β G) {o : Nat} {l : Loc} {sz : Nat} {rows xs : List (List AV)} {cl : Bool} (hl : β o = some l) (hG : G o = .arr sz rows cl) {off : Nat} {news : Array Value}
    (hr : RowsR w (bar O F) β sz xs news) (hs : news.size = xs.length * sz) (hle : off + xs.length ≤ rows.length) :
    ∃ w', (storeCells ⟨l.b, l.c + off * sz, none⟩ news.toList).run P w = .ok () w' ∧ SR w' O F β (upd G o (.arr sz (splice rows off xs) cl)) ∧ Step w O β w' O β := by
  have ho := h.obj o l hl
  rw [hG] at ho
  obtain ⟨h1, h2, h3, h4, h5, h6, cs, elem, hh, hsz, hrr⟩ := ho
  have hfit : off * sz + news.toList.length ≤ l.room * sz := by
    simp only [Array.length_toList, hs]
    rw [← Nat.add_mul]
    exact Nat.mul_le_mul_right _ (by omega)
  obtain ⟨w', hrun, hw⟩ := h.store (P := P) hl hG hfit (hr.oneCell hs)
  refine ⟨w', hrun, h.write hl hG hw (splice_length _ _ _) (fun i row hi => ?_) (fun i row j x hi hx => ?_)⟩
  · have hil : i < rows.length := by have := (List.getElem?_eq_some_iff.1 hi).1; rwa [splice_length] at this
    rw [splice_get _ _ _ _ hil] at hi
    split at hi
    · exact hr.len _ _ hi
    · exact (hrr i row (by rw [nth_eq]; exact hi)).1
  · have hil : i < rows.length := by have := (List.getElem?_eq_some_iff.1 hi).1; rwa [splice_length] at this
    rw [splice_get _ _ _ _ hil] at hi
    simp only [Array.length_toList, hs]
    split at hi
    · rename_i hin
      have hj : j < sz := by rw [← hr.len _ _ hi]; exact (List.getElem?_eq_some_iff.1 hx).1
      obtain ⟨a1, v, a2, a3⟩ := hr.rel _ _ j x hi hx
      have b1 := Nat.mul_le_mul_right sz hin.1
      have b2 := Nat.mul_le_mul_right sz (show i + 1 ≤ off + xs.length by omega)
      rw [Nat.add_mul, Nat.add_mul] at b2
      refine .inl ⟨by omega, by omega, a1, v, ?_, a3⟩
      rw [Nat.sub_mul] at a2
      rw [Array.getElem?_toList, show i * sz + j - off * sz = i * sz - off * sz + j from by omega]; exact a2
    · rename_i hin
      have hrl := (hrr i row (by rw [nth_eq]; exact hi)).1
      have hj : j < sz := by rw [← hrl]; exact (List.getElem?_eq_some_iff.1 hx).1
      refine .inr ⟨fun hc => ?_, row, hi, hx⟩
      rcases Nat.lt_or_ge i off with hlt | hge
      · have := Nat.mul_le_mul_right sz (show i + 1 ≤ off from hlt); rw [Nat.add_mul] at this; omega
      · have := Nat.mul_le_mul_right sz (show off + xs.length ≤ i by omega); rw [Nat.add_mul] at this; omega

theorem storeS_sound {t : TypeId} {x v : AV} {H' : Heap} {ux uv : Value} (h : storeS P t x v H = some H') (hsr : SRH w O F β H) (hx : Rel w (bar O F) β x ux) (hv : Rel w (bar O F) β v uv) :
    ∃ w', (Instr.storeAt t ux uv).run P w = .ok () w' ∧ SRH w' O F β H' ∧ Step w O β w' O β := by
  unfold storeS at h
  cases hs : tsz P t with
  | none => simp [hs] at h
  | some size =>
    simp only [hs] at h
    split at h
    · rename_i o i j
      cases hg : H.get o with
      | arr sz rows cl =>
        simp only [hg] at h
        cases hi : nth rows i with
        | none => simp [hi] at h
        | some row =>
          simp only [hi] at h
          cases hc : (Nat.beq (lenN v.cells) size && Nat.ble (j + size) (lenN row) && allOne v.cells) with
          | false => simp [hc] at h
          | true =>
            simp only [hc, cond_true, Option.some.injEq] at h; subst h
            rw [Bool.and_eq_true, Bool.and_eq_true, beq_iff, lenN_eq, lenN_eq, Nat.ble_eq] at hc
            obtain ⟨⟨c1, c2⟩, c3⟩ := hc
            have hcl := cells_sound c3 hv
            cases hx with
            | ptr o i j l hl =>
              have ho := hsr.1.obj o l hl
              rw [hg] at ho
              obtain ⟨h1, h2, h3, h4, h5, h6, cs, elem, hh, hsz, hrr⟩ := ho
              have hrl := (hrr i row hi).1
              rw [nth_eq] at hi
              have hil : i < rows.length := (List.getElem?_eq_some_iff.1 hi).1
              have hul : uv.cells.toList.length = size := by rw [Array.length_toList, ← hcl.len, c1]
              have hfit : (i * sz + j) + uv.cells.toList.length ≤ l.room * sz := by
                rw [hul]
                have := Nat.mul_le_mul_right sz (show i + 1 ≤ l.room by omega)
                rw [Nat.add_mul] at this; omega
              obtain ⟨w', hrun, hw⟩ := hsr.1.store (P := P) hl hg hfit hcl.oneCell
              have hn : o < H.n := by
                rcases Nat.lt_or_ge o H.n with hlt | hge
                · exact hlt
                · have := (hsr.2.1 o hge).1; rw [hg] at this; cases this
              have hw2 := hsr.1.write hl hg (rows' := setN rows i (splice row j v.cells)) hw (by rw [setN_eq]; simp)
                (fun i' row' hi' => by
                  rw [setN_eq, List.getElem?_set] at hi'
                  split at hi'
                  · simp only [Option.some.injEq] at hi'
                    subst hi'; rw [splice_length]; exact hrl
                  · exact (hrr i' row' (by rw [nth_eq]; exact hi')).1)
                (fun i' row' j' x' hi' hx' => by
                  rw [hul]
                  rw [setN_eq, List.getElem?_set] at hi'
                  split at hi'
                  · rename_i hii
                    · simp only [Option.some.injEq] at hi'
                      subst hi'
                      subst hii
                      have hj' : j' < row.length := by have := (List.getElem?_eq_some_iff.1 hx').1; rwa [splice_length] at this
                      rw [splice_get _ _ _ _ hj'] at hx'
                      split at hx'
                      · rename_i hin
                        have hlt : j' - j < uv.cells.size := by rw [← hcl.len]; omega
                        refine .inl ⟨by omega, by omega, hcl.one _ _ hx', uv.cells[j' - j], ?_, hcl.rel _ _ _ hx' (by simp [hlt])⟩
                        rw [Array.getElem?_toList, show i * sz + j' - (i * sz + j) = j' - j from by omega]; simp [hlt]
                      · rename_i hin
                        exact .inr ⟨by omega, row, hi, hx'⟩
                  · rename_i hii
                    have hrl' := (hrr i' row' (by rw [nth_eq]; exact hi')).1
                    have hj' : j' < sz := by rw [← hrl']; exact (List.getElem?_eq_some_iff.1 hx').1
                    refine .inr ⟨fun hc => ?_, row', hi', hx'⟩
                    rcases Nat.lt_or_gt_of_ne hii with hlt | hgt
                    · have := Nat.mul_le_mul_right sz (show i + 1 ≤ i' from hlt); rw [Nat.add_mul] at this; omega
                    · have := Nat.mul_le_mul_right sz (show i' + 1 ≤ i from hgt); rw [Nat.add_mul] at this; omega)
              refine ⟨w', ?_, hsr.upd hn hw2.1, hw2.2⟩
              have hcs : ¬ (uv.cells.size ≠ size) := by rw [← hcl.len, c1]; simp
              simp only [Instr.storeAt, Instr.sureAddr, storeVar, Sem.run_bind, Sem.run_pure, Result.andThen_ok, run_size hs]
              rw [if_neg hcs, h1]
              exact hrun
      | _ => simp [hg] at h
    · cases h
end
end Go.Gm
