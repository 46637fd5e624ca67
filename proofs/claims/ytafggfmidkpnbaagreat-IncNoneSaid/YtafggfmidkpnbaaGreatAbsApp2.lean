/- append. -/
import Derived.Test.YtafggfmidkpnbaaGreatAbsApp
namespace Go.Gm
section
variable {P : Program} {w w0 : World} {O F : Nat → Prop} {X : Nat → Prop} {β : Nat → Option Loc} {G : Nat → AObj} {b : Nat}

theorem growBy_le (n : Nat) : ∀ (r c : Nat), Builtin.growBy n r c ≤ 2 ^ r * c + 256 * (2 ^ r - 1)
  | 0, c => by simp [Builtin.growBy]
  | r + 1, c => by
    unfold Builtin.growBy
    split
    · have := Nat.one_le_two_pow (n := r + 1); calc c = 1 * c := by omega
        _ ≤ 2 ^ (r + 1) * c := Nat.mul_le_mul_right _ this
        _ ≤ _ := Nat.le_add_right _ _
    · refine Nat.le_trans (growBy_le n r _) ?_
      have h1 : c + (c + 768) / 4 ≤ 2 * c + 192 := by omega
      have h2 : 2 ^ r * (c + (c + 768) / 4) ≤ 2 ^ r * (2 * c + 192) := Nat.mul_le_mul_left _ h1
      have h3 := Nat.one_le_two_pow (n := r)
      rw [Nat.pow_succ]
      have h4 : 2 ^ r * (2 * c + 192) = 2 ^ r * 2 * c + 192 * 2 ^ r := by rw [Nat.mul_add, Nat.mul_assoc, Nat.mul_comm (2 ^ r) 192]
      omega
theorem cap_bound (need old : Nat) (h : old < need) : Builtin.nextslicecap need old ≤ 4 * need + 4096 := by
  unfold Builtin.nextslicecap
  split
  · omega
  · split
    · omega
    · have : Builtin.growBy need 4 old ≤ 4 * need + 4096 := by
        simp only [Builtin.growBy]
        repeat' split
        all_goals omega
      exact this

/-- what is appended: its number, its cells -/
inductive SrcR (P : Program) (w : World) (e xt : TypeId) (esz : Nat) (x : Value) (n : Nat) (news : Array Value) : Prop
  | sl (e' : TypeId) (a : Option Addr) (cap : Nat) (hu : P.underlying xt = some (.slice e')) (hx : x = .slice a n cap) (hc : ∀ w', w'.heap = w.heap → (Builtin.firstCells esz n x).run P w' = .ok news w')
  | zeros (k k' : IntKind) (i : TypeInfo) (z : Value) (hu : P.underlying xt = some (.int k)) (hx : x = .int k' (.ofNat n)) (hn : n ≤ 1099511627776) (hi : P.info? e = some i) (hz : i.zero = some z)
      (hc : (if n * esz = 0 then #[] else Builtin.zeroCells z.cells n) = news) (hb : n * i.bytes ≤ 281474976710656)

theorem append_room {t xt e ty : TypeId} {i : TypeInfo} {ts : Array TypeId} {s x : Value} {base : Option Addr} {sLen sCap n : Nat} {news : Array Value} (ht : P.underlying t = some (.slice e)) (hi : P.info? e = some i)
    (h0 : ts[0]? = some t) (h1 : ts[1]? = some xt) (hs : s = .slice base sLen sCap) (hx : SrcR P w e xt i.size x n news) (hle : sLen + n ≤ sCap) {w' : World}
    (hst : (match base with | some a => storeCells (a.add (sLen * i.size)) news.toList | none => pure ()).run P w = .ok () w') :
    (Builtin.append_ ts ty #[s, x]).run P w = .ok (.slice base (sLen + n) sCap) w' := by
  subst hs
  cases hx with
  | sl e' a cap hu hx hc =>
    have hc := hc w rfl
    subst hx
    cases base with
    | none =>
      simp only [Sem.run_pure, Result.ok.injEq, true_and] at hst; subst hst
      simp [Builtin.append_, h0, h1, run_under ht, run_under hu, sizeOf, run_info hi, Builtin.lenOf, hle, hc]
    | some a => 
      simp only [] at hst
      simp [Builtin.append_, h0, h1, run_under ht, run_under hu, sizeOf, run_info hi, Builtin.lenOf, hle, hc, hst]
  | zeros k k' i' z hu hx hn hi' hz hc hb =>
    rw [hi] at hi'; cases hi'
    subst hx
    have hw : IntKind.i64.wrap (n : Int) = n := wrap_small hn
    have h48 : ¬ ((281474976710656 : Int) < (n : Int) * i.bytes) := by
      rw [← Int.natCast_mul]; omega
    have hnn : ¬ ((n : Int) < 0) := by omega
    by_cases h00 : n * i.size = 0
    · rw [if_pos h00] at hc; subst hc
      cases base with
      | none =>
        simp only [Sem.run_pure, Result.ok.injEq, true_and] at hst; subst hst
        simp [Builtin.append_, h0, h1, run_under ht, run_under hu, sizeOf, run_info hi, asInt, asIntOf, hw, h48, hnn, hle]
        intro hcc; exact absurd h00 hcc
      | some a =>
        have hst' : (storeCells (a.add (sLen * i.size)) []).run P w = .ok () w' := by simpa using hst
        simp [Builtin.append_, h0, h1, run_under ht, run_under hu, sizeOf, run_info hi, asInt, asIntOf, hw, h48, hnn, hle]
        split
        · simp [hst']
        · rename_i hcc; exact absurd h00 hcc
    · rw [if_neg h00] at hc
      cases base with
      | none =>
        simp only [Sem.run_pure, Result.ok.injEq, true_and] at hst; subst hst
        simp [Builtin.append_, h0, h1, run_under ht, run_under hu, sizeOf, run_info hi, asInt, asIntOf, hw, h48, hnn, hle, run_zero hi hz]
      | some a =>
        simp only [] at hst
        simp [Builtin.append_, h0, h1, run_under ht, run_under hu, sizeOf, run_info hi, asInt, asIntOf, hw, h48, hnn, hle, h00, run_zero hi hz, hc, hst]

theorem append_grow {t xt e ty : TypeId} {i : TypeInfo} {z : Value} {ts : Array TypeId} {s x : Value} {base : Option Addr} {sLen sCap n : Nat} {news olds : Array Value} (ht : P.underlying t = some (.slice e)) (hi : P.info? e = some i) (hz : i.zero = some z)
    (h0 : ts[0]? = some t) (h1 : ts[1]? = some xt) (hs : s = .slice base sLen sCap) (hx : SrcR P w e xt i.size x n news) (hle : sCap < sLen + n) (hfit : fits i.bytes (sLen + n) = true)
    (hold : ∀ w', w'.heap = w.heap → (Builtin.firstCells i.size sLen s).run P w' = .ok olds w') :
    ∃ (newCap : Nat) (w1 : World), sLen + n ≤ newCap ∧ (w1.heap = w.heap ∧ Same w w1) ∧ (Builtin.append_ ts ty #[s, x]).run P w =
      .ok (.slice (some ⟨w.heap.size, 0, none⟩) (sLen + n) newCap) { w1 with heap := w1.heap.push (.cells (olds ++ news ++ Builtin.zeroCells z.cells (newCap - (sLen + n))) e (0, 0)) } := by
  subst hs
  unfold fits at hfit
  rw [Bool.and_eq_true, Nat.ble_eq, Nat.ble_eq] at hfit
  obtain ⟨hf1, hf2⟩ := hfit
  have hcb := cap_bound _ _ hle
  have hcb : Builtin.nextslicecap (sLen + n) sCap * i.bytes ≤ 281474976710656 := Nat.le_trans (Nat.mul_le_mul_right _ hcb) hf1
  let newCap := (Question.appendCap (sLen + n) sCap e).cut (w.tape w.drawn (.appendCap (sLen + n) sCap e))
  refine ⟨newCap, w.drew, Nat.le_add_right _ _, ⟨rfl, rfl, rfl, rfl⟩, ?_⟩
  have hn : ¬ (sLen + n ≤ sCap) := by omega
  have h63' : ¬ (9223372036854775807 < ((sLen : Int) + (n : Int))) := by omega
  have h48' : ¬ (281474976710656 < Builtin.nextslicecap (sLen + n) sCap * i.bytes) := by omega
  have hold := hold w.drew rfl
  cases hx with
  | sl e' a cap hu hx hc =>
    have hc := hc w.drew rfl
    subst hx
    simp [Builtin.append_, h0, h1, run_under ht, run_under hu, sizeOf, run_info hi, Builtin.lenOf, hn, h63', h48', Question.forced, hc, hold, run_zero hi hz, newRow]
    exact ⟨rfl, rfl⟩
  | zeros k k' i' z' hu hx hn2 hi' hz' hc hb =>
    rw [hi] at hi'; cases hi'
    rw [hz] at hz'; cases hz'
    subst hx
    have hw : IntKind.i64.wrap (n : Int) = n := wrap_small hn2
    have h48 : ¬ ((281474976710656 : Int) < (n : Int) * i.bytes) := by
      rw [← Int.natCast_mul]; omega
    have hnn : ¬ ((n : Int) < 0) := by omega
    by_cases h00 : n * i.size = 0
    · rw [if_pos h00] at hc; subst hc
      simp [Builtin.append_, h0, h1, run_under ht, run_under hu, sizeOf, run_info hi, asInt, asIntOf, hw, h48, hnn, hn, h63', h48', Question.forced, hold, run_zero hi hz, newRow]
      rw [if_pos h00]; rfl
    · rw [if_neg h00] at hc; subst hc
      simp [Builtin.append_, h0, h1, run_under ht, run_under hu, sizeOf, run_info hi, asInt, asIntOf, hw, h48, hnn, hn, h63', h48', Question.forced, hold, run_zero hi hz, newRow, h00]
      exact ⟨rfl, rfl⟩

theorem appSrc_sound {e xt : TypeId} {x : AV} {H : Heap} {xs : List (List AV)} {u : Value} {i : TypeInfo} (h : appSrc P e xt x H = some xs) (hi : P.info? e = some i) (hok : okRows i.size xs = true)
    (hsr : SR w O F β G) (hG : ∀ o, o ∈ refOf x → G o = H.get o) (hx : Rel w (bar O F) β x u) :
    ∃ news, SrcR P w e xt i.size u xs.length news ∧ news.size = xs.length * i.size ∧ RowsR w (bar O F) β i.size xs news := by
  unfold appSrc at h
  cases hu : P.underlying xt with
  | none => simp [hu] at h
  | some d =>
    simp only [hu] at h
    cases d <;> simp only [reduceCtorEq] at h
    case int k =>
      cases hz : zeroCells P e with
      | none => simp [hz] at h
      | some ez =>
        obtain ⟨esz, z⟩ := ez
        simp only [hz, hi] at h
        cases hn : asNat x with
        | none => simp [hn] at h
        | some n =>
          simp only [hn] at h
          cases hle : (Nat.ble n 1073741824 && Nat.ble (n * i.bytes) 281474976710656) with
          | false => simp [hle] at h
          | true =>
            simp only [hle, cond_true, Option.some.injEq] at h; subst h
            rw [Bool.and_eq_true, Nat.ble_eq, Nat.ble_eq] at hle
            obtain ⟨hle, hb⟩ := hle
            obtain ⟨k', rfl⟩ := asNat_some hn
            cases hx.int_inv
            obtain ⟨hs, hl, h0, i', zv, hi', hzv, hc⟩ := zeroCells_sound hz
            rw [hi] at hi'; cases hi'
            have hes : esz = i.size := by
              have := hs; unfold tsz at this; rw [hi] at this; simpa using this.symm
            have hrl : (rep z n).length = n := by rw [rep_eq]; simp
            rw [hrl]
            have hzs : zv.cells.size = i.size := by rw [← (hc w (bar O F) β).len, hl, hes]
            have hrows := RowsR.zeros (hc w (bar O F) β) (by rw [hl]; exact h0) n
            rw [hl, hes] at hrows
            have hzc : (Array.range (n * i.size)).map (fun j => zv.cells[j % zv.cells.size]!) = Builtin.zeroCells zv.cells n := by
              unfold Builtin.zeroCells; rw [hzs]
            rw [hzc] at hrows
            refine ⟨Builtin.zeroCells zv.cells n, .zeros k k' i zv hu rfl (by omega) hi hzv ?_ hb, ?_, hrows⟩
            · split
              · rename_i h00
                unfold Builtin.zeroCells; rw [hzs, h00]; simp
              · rfl
            · unfold Builtin.zeroCells; simp [hzs]
    case slice e' =>
      obtain ⟨a, cap, rfl, hc⟩ := rowsOf_sound h hok hsr hG hx
      obtain ⟨cells, h1, h2, h3⟩ := hc xs.length (Nat.le_refl _)
      rw [List.take_length] at h3
      exact ⟨cells, .sl e' a cap hu rfl h1, h2, h3⟩

theorem RowsR.append {sz : Nat} {xs ys : List (List AV)} {c1 c2 c3 : Array Value} (h1 : RowsR w X β sz xs c1) (h2 : RowsR w X β sz ys c2) (hs : c1.size = xs.length * sz) : RowsR w X β sz (xs ++ ys) (c1 ++ c2 ++ c3) := by
  refine ⟨?_, fun i row hi => ?_, fun i row j x hi hx => ?_⟩
  · have := h2.size
    simp only [List.length_append, Nat.add_mul, Array.size_append]; omega
  · rw [List.getElem?_append] at hi
    split at hi
    · exact h1.len i row hi
    · exact h2.len _ row hi
  · rw [List.getElem?_append] at hi
    split at hi
    · obtain ⟨a, v, b, c⟩ := h1.rel i row j x hi hx
      have := (Array.getElem?_eq_some_iff.1 b).1
      refine ⟨a, v, ?_, c⟩
      rw [Array.append_assoc, Array.getElem?_append_left this]; exact b
    · rename_i hge
      obtain ⟨a, v, b, c⟩ := h2.rel _ row j x hi hx
      have hlt := (Array.getElem?_eq_some_iff.1 b).1
      refine ⟨a, v, ?_, c⟩
      have hge : xs.length ≤ i := by omega
      have e : i * sz + j = c1.size + ((i - xs.length) * sz + j) := by
        rw [hs, Nat.sub_mul]
        have := Nat.mul_le_mul_right sz hge
        omega
      rw [Array.append_assoc, e, Array.getElem?_append_right (by omega), Nat.add_sub_cancel_left, Array.getElem?_append_left hlt]; exact b

theorem fits_bytes {bytes need n : Nat} (h : fits bytes need = true) (hn : n ≤ need) : n * bytes ≤ 281474976710656 := by
  unfold fits at h
  rw [Bool.and_eq_true, Nat.ble_eq] at h
  refine Nat.le_trans (Nat.mul_le_mul_right _ ?_) h.1
  omega

/-- append without spare room: a new block -/
theorem append_new {t xt e ty : TypeId} {i : TypeInfo} {z : Value} {ts : Array TypeId} {s x : Value} {base : Option Addr} {sLen sCap : Nat} {news olds : Array Value} {old xs : List (List AV)} (ht : P.underlying t = some (.slice e)) (hi : P.info? e = some i) (hz : i.zero = some z)
    (h0 : ts[0]? = some t) (h1 : ts[1]? = some xt) (hs : s = .slice base sLen sCap) (hx : SrcR P w e xt i.size x xs.length news) (hle : sCap < sLen + xs.length) (hfit : fits i.bytes (sLen + xs.length) = true)
    (hold : ∀ w', w'.heap = w.heap → (Builtin.firstCells i.size sLen s).run P w' = .ok olds w') (hrn : RowsR w (bar O F) β i.size xs news) (hro : RowsR w (bar O F) β i.size old olds) (hol : old.length = sLen) (hos : olds.size = sLen * i.size)
    (hns : news.size = xs.length * i.size) (hi0 : 0 < i.size) (hzs : z.cells.size = i.size)
    (hsr : SR w O F β G) (hole : Hole G β b 1) : ∃ u w', (Builtin.append_ ts ty #[s, x]).run P w = .ok u w' ∧ NRes w O F β G b (.osl b 0 (sLen + xs.length) true) [.arr i.size (old ++ xs) false] u w' := by
  obtain ⟨newCap, w1, hcap, ⟨hw1, hm1⟩, hrun⟩ := append_grow (ty := ty) ht hi hz h0 h1 hs hx hle hfit hold
  refine ⟨_, _, hrun, NRes.from hw1 hm1 hsr ?_⟩
  have hsr1 := (hsr.heap hw1 hm1).1
  have hst := (hsr.heap hw1 hm1).2.still F
  rw [show w.heap.size = w1.heap.size from by rw [hw1]]
  have hrows := (RowsR.append (c3 := Builtin.zeroCells z.cells (newCap - (sLen + xs.length))) hro hrn (by rw [hol]; exact hos)).mono hst (Ext.refl _)
  refine NRes.slice (elem := e) hsr1 hole hrows hi0 hcap (by rw [List.length_append, hol]; exact hcap) (fun c => by cases c) ?_
  simp only [Array.size_append, hos, hns, Builtin.zeroCells, Array.size_map, Array.size_range, hzs]
  rw [← Nat.add_mul, ← Nat.add_mul]
  exact Nat.mul_le_mul_right _ (by omega)
end
end Go.Gm
