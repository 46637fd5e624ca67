/- Slices of slices, lengths. -/
import Derived.Test.YtafggfmidkpnbaaGreatAbsBuild
namespace Go.Gm
section
variable {P : Program} {w w0 : World} {O F : Nat → Prop} {X : Nat → Prop} {β : Nat → Option Loc} {G : Nat → AObj}

/-- an operand that may be lacking -/
def OptR (w : World) (X : Nat → Prop) (β : Nat → Option Loc) : Option AV → Option Value → Prop
  | none, none => True
  | some x, some v => Rel w X β x v
  | _, _ => False
theorem evOpt_sound {n : Nat} {x : Option Operand} {f : Fr → Option AV} (h : evOpt n x = some f) {T : Fr} {a : Act} (hf : FrR w X β n T a.tmps) : OptR w X β (f T) (x.map a.eval) := by
  cases x with
  | none => simp only [evOpt, Option.some.injEq] at h; subst h; trivial
  | some x =>
    simp only [evOpt] at h
    cases hx : evO n x with
    | none => simp [hx] at h
    | some g => simp only [hx, Option.some.injEq] at h; subst h; exact evO_sound hx hf

theorem bound_run {v : Value} {n y : Nat} {code : BoundsCode} {x : AV} (h : asNat x = some n) (hx : Rel w X β x v) (hle : n ≤ y) : (Instr.sliceBound v y code).run P w0 = .ok n w0 := by
  obtain ⟨k, rfl⟩ := asNat_some h
  cases hx.int_inv
  simp [Instr.sliceBound, asIntOf, hle]

/-- the bounds of a slice of a slice -/
theorem bounds_run {len cap l h : Nat} {lo hi : Option AV} {vl vh : Option Value} (hl : OptR w X β lo vl) (hh : OptR w X β hi vh)
    (el : loOf lo 0 = some l) (eh : loOf hi len = some h) (h1 : l ≤ h) (h2 : h ≤ cap) : (Instr.sliceBounds true len cap vl vh none).run P w0 = .ok (l, h, cap) w0 := by
  cases lo <;> cases vl <;> cases hi <;> cases vh <;> first | exact hl.elim | exact hh.elim | skip
  · simp only [loOf, Option.some.injEq] at el eh; subst el; subst eh; rfl
  · simp only [loOf, Option.some.injEq] at el eh; subst el
    simp [Instr.sliceBounds, bound_run eh hh h2]
  · simp only [loOf, Option.some.injEq] at el eh; subst eh
    simp [Instr.sliceBounds, bound_run el hl h1]
  · simp only [loOf] at el eh
    simp [Instr.sliceBounds, bound_run eh hh h2, bound_run el hl h1]

theorem bounds3_run {len cap l h m : Nat} {lo : Option AV} {mx x : AV} {vl vh : Option Value} {vm : Value} (hl : OptR w X β lo vl) (hh : OptR w X β (some x) vh) (hm : Rel w X β mx vm)
    (el : loOf lo 0 = some l) (eh : asNat x = some h) (em : asNat mx = some m) (h1 : l ≤ h) (h2 : h ≤ m) (h3 : m ≤ cap) :
    (Instr.sliceBounds true len cap vl vh (some vm)).run P w0 = .ok (l, h, m) w0 := by
  cases lo <;> cases vl <;> cases vh <;> first | exact hl.elim | exact hh.elim | skip
  · simp only [loOf, Option.some.injEq] at el; subst el
    simp [Instr.sliceBounds, bound_run em hm h3, bound_run eh hh h2]
  · simp only [loOf] at el
    simp [Instr.sliceBounds, bound_run em hm h3, bound_run eh hh h2, bound_run el hl h1]

theorem slice_run {t e : TypeId} {esz : Nat} {a : Option Addr} {len cap l h m : Nat} {vl vh vm : Option Value} (hu : P.underlying t = some (.slice e)) (hs : tsz P e = some esz)
    (hb : (Instr.sliceBounds true len cap vl vh vm).run P w0 = .ok (l, h, m) w0) :
    (Instr.sliceAt t (.slice a len cap) vl vh vm).run P w0 = .ok (.slice (if m = l then a else a.map (·.add (l * esz))) (h - l) (m - l)) w0 := by
  simp [Instr.sliceAt, Instr.slice, run_under hu, hb, run_size hs]

theorem RelF.slNil (tight : Bool) (a : Option Addr) (cap : Nat) (ht : tight = true → cap = 0) : RelF w X (.sl [] tight) (.slice a 0 cap) :=
  .sl [] tight a cap 0 (fun _ _ => default) (Nat.zero_le _) ht (fun h => absurd rfl h) (fun i row h => by rw [nth_eq] at h; simp at h)
    (fun i row j x h => by rw [nth_eq] at h; simp at h) (fun ad i row j x _ h => by rw [nth_eq] at h; simp at h) (fun i row j x h => by rw [nth_eq] at h; simp at h)

/-- a piece of a frozen slice -/
theorem RelF.slCut {rows : List (List FV)} {tight : Bool} {v : Value} (hr : RelF w X (.sl rows tight) v) {esz l h : Nat} (he : ∀ row r, rows = row :: r → row.length = esz) (h1 : l ≤ h) (h2 : h ≤ rows.length) :
    ∃ a cap, v = .slice a rows.length cap ∧ rows.length ≤ cap ∧ (tight = true → cap = rows.length) ∧ ∀ (m : Nat) (tg : Bool), h ≤ m → (tg = true → m = h) →
      RelF w X (.sl ((rows.drop l).take (h - l)) tg) (.slice (if m = l then a else a.map (·.add (l * esz))) (h - l) (m - l)) := by
  cases hr with
  | sl rows tight a cap sz cv hcap ht ha hsz h1' hc hh =>
    refine ⟨a, cap, rfl, hcap, ht, fun m tg hm htg => ?_⟩
    by_cases hlh : l = h
    · subst hlh
      simp only [Nat.sub_self, List.take_zero]
      exact RelF.slNil tg _ _ (fun e => by rw [htg e]; omega)
    · have hlt : l < h := by omega
      have hne : rows ≠ [] := by intro e; subst e; simp at h2; omega
      obtain ⟨ad, rfl, hsp, hX, hbl⟩ := ha hne
      have hsz' : sz = esz := by
        cases rows with
        | nil => exact absurd rfl hne
        | cons r rs => rw [← he r rs rfl]; exact (hsz 0 r rfl).symm
      subst hsz'
      have hlen : ((rows.drop l).take (h - l)).length = h - l := by simp; omega
      rw [if_neg (by omega)]
      simp only [Option.map_some, Addr.add_spot hsp]
      have get : ∀ i row, nth ((rows.drop l).take (h - l)) i = some row → nth rows (l + i) = some row := fun i row hi => by
        rw [nth_eq, List.getElem?_take] at hi
        rw [nth_eq]
        split at hi
        · rw [List.getElem?_drop] at hi; exact hi
        · cases hi
      have key := RelF.sl (w := w) (X := X) ((rows.drop l).take (h - l)) tg (some ⟨ad.block, ad.off + l * sz, none⟩) (m - l) sz (fun i j => cv (l + i) j) (by rw [hlen]; omega)
        (fun e => by rw [hlen, htg e]) (fun _ => ⟨_, rfl, rfl, hX, hbl⟩)
        (fun i row hi => hsz _ _ (get i row hi))
        (fun i row j x hi hx => h1' _ _ _ _ (get i row hi) hx)
        (fun ad' i row j x e hi hx => by
          cases e
          have := hc ad (l + i) row j x rfl (get i row hi) hx
          simp only []
          rw [show ad.off + l * sz + (i * sz + j) = ad.off + ((l + i) * sz + j) from by rw [Nat.add_mul]; omega]
          exact this)
        (fun i row j x hi hx => hh _ _ _ _ (get i row hi) hx)
      rw [hlen] at key
      exact key


theorem sliceS_sound {t : TypeId} {x z : AV} {lo hi mx : Option AV} {H : Heap} {u : Value} {vl vh vm : Option Value} (h : sliceS P t x lo hi mx H = some z) (hsr : SR w O F β G) (hG : ∀ o, o ∈ refOf x → G o = H.get o)
    (hx : Rel w (bar O F) β x u) (hl : OptR w (bar O F) β lo vl) (hh : OptR w (bar O F) β hi vh) (hm : OptR w (bar O F) β mx vm) :
    ∃ r, (∀ w0, (Instr.sliceAt t u vl vh vm).run P w0 = .ok r w0) ∧ Rel w (bar O F) β z r := by
  unfold sliceS at h
  cases hu : P.underlying t with
  | none => simp [hu] at h
  | some d =>
    simp only [hu] at h
    cases d <;> simp only [reduceCtorEq] at h
    rename_i e
    cases hs : tsz P e with
    | none => simp [hs] at h
    | some esz =>
      simp only [hs] at h
      split at h
      · rename_i o off len app
        cases hh' : loOf hi len with
        | none => simp [hh'] at h
        | some hn =>
          cases hl' : loOf lo 0 with
          | none => simp [hh', hl'] at h
          | some ln =>
            simp only [hh', hl'] at h
            cases hget : H.get o with
            | arr sz rows cl =>
              simp only [hget] at h
              cases hx with
              | osl o off len cap app l hlo hlen hcap happ =>
                have ho := hsr.obj o l hlo
                rw [hG o (by simp [refOf]), hget] at ho
                have hsz : l.sz = sz := ho.1
                have hn' : l.n = rows.length := ho.2.1
                generalize hrm : (bif app then lenN rows - off else len) = rm at h
                have room : ∀ k, (Nat.ble k len || Nat.ble k rm) = true → k ≤ cap := fun k hk => by
                  rw [Bool.or_eq_true, Nat.ble_eq, Nat.ble_eq] at hk
                  rcases hk with hk | hk
                  · omega
                  · cases app with
                    | true => have := happ rfl; simp only [cond_true, lenN_eq] at hrm; omega
                    | false => simp only [cond_false] at hrm; omega
                cases mx with
                | none =>
                  cases vm with
                  | some v => exact hm.elim
                  | none =>
                    simp only [] at h
                    cases hc : (Nat.beq sz esz && Nat.ble ln hn && (Nat.ble hn len || Nat.ble hn rm)) with
                    | false => simp [hc] at h
                    | true =>
                      simp only [hc, cond_true] at h
                      rw [Bool.and_eq_true, Bool.and_eq_true, beq_iff, Nat.ble_eq] at hc
                      obtain ⟨⟨rfl, h1⟩, h2⟩ := hc
                      have h2 := room _ h2
                      refine ⟨_, fun w0 => slice_run hu hs (bounds_run hl hh hl' hh' h1 h2), ?_⟩
                      cases hz : (Nat.blt 0 ln && Nat.beq hn ln) with
                      | true =>
                        simp only [hz, cond_true, Option.some.injEq] at h
                        rw [Bool.and_eq_true, beq_iff] at hz
                        obtain ⟨_, rfl⟩ := hz
                        subst h
                        rw [Nat.sub_self]
                        exact .fv _ _ (RelF.slNil false _ _ (fun e => by cases e))
                      | false =>
                        simp only [hz, cond_false, Option.some.injEq] at h
                        subst h
                        have hz' : ln = 0 ∨ ln < hn := by
                          rw [Bool.and_eq_false_iff] at hz
                          rcases hz with hz | hz
                          · have : ¬ 0 < ln := fun c => by have : Nat.blt 0 ln = true := by simpa using c
                                                           rw [this] at hz; cases hz
                            omega
                          · have : hn ≠ ln := fun c => by rw [(beq_iff hn ln).2 c] at hz; cases hz
                            omega
                        have key : ∀ a, a = some (⟨l.b, l.c + (off + ln) * l.sz, none⟩ : Addr) → Rel w (bar O F) β (.osl o (off + ln) (hn - ln) app) (.slice a (hn - ln) (cap - ln)) := fun a e => by
                          subst e; exact .osl o (off + ln) (hn - ln) (cap - ln) app l hlo (by omega) (by omega) (fun e => by have := happ e; omega)
                        refine key _ ?_
                        rcases hz' with rfl | hz'
                        · simp [Addr.add_none]
                        · rw [if_neg (by omega)]
                          simp only [Option.map_some, Addr.add_none, hsz]
                          rw [Nat.add_mul]; congr 2; omega
                | some m =>
                  cases vm with
                  | none => exact hm.elim
                  | some v =>
                    simp only [] at h
                    cases hi with
                    | none => simp at h
                    | some x =>
                      cases hmn : asNat m with
                      | none => simp [hmn] at h
                      | some mn =>
                        simp only [hmn] at h
                        cases hc : (Nat.beq sz esz && Nat.ble ln hn && Nat.ble hn mn && (Nat.ble mn len || Nat.ble mn rm)) with
                        | false => simp [hc] at h
                        | true =>
                          simp only [hc, cond_true] at h
                          rw [Bool.and_eq_true, Bool.and_eq_true, Bool.and_eq_true, beq_iff, Nat.ble_eq, Nat.ble_eq] at hc
                          obtain ⟨⟨⟨rfl, h1⟩, h2⟩, h3⟩ := hc
                          have h3 := room _ h3
                          refine ⟨_, fun w0 => slice_run hu hs (bounds3_run hl hh hm hl' hh' hmn h1 h2 h3), ?_⟩
                          cases hz : Nat.beq hn ln with
                          | true =>
                            simp only [hz, cond_true, Option.some.injEq] at h
                            rw [beq_iff] at hz
                            subst hz; subst h
                            rw [Nat.sub_self]
                            exact .fv _ _ (RelF.slNil _ _ _ (fun e => by rw [beq_iff] at e; omega))
                          | false =>
                            simp only [hz, cond_false, Option.some.injEq] at h
                            subst h
                            have hz' : ln < hn := by
                              have : hn ≠ ln := fun c => by rw [(beq_iff hn ln).2 c] at hz; cases hz
                              omega
                            rw [if_neg (by omega)]
                            simp only [Option.map_some, Addr.add_none, ← hsz]
                            rw [show l.c + off * l.sz + ln * l.sz = l.c + (off + ln) * l.sz from by rw [Nat.add_mul]; omega]
                            exact .osl o (off + ln) (hn - ln) (mn - ln) false l hlo (by omega) (by omega) (fun e => by cases e)
            | _ => simp [hget] at h
      · rename_i rows tight
        cases hrow : firstOk esz rows with
        | true =>
          simp only [hrow, cond_true] at h
          have he : ∀ row r, rows = row :: r → row.length = esz := fun row r e => by subst e; simp only [firstOk, beq_iff, lenN_eq] at hrow; exact hrow
          cases hh' : loOf hi (lenN rows) with
          | none => simp [hh'] at h
          | some hn =>
            cases hl' : loOf lo 0 with
            | none => simp [hh', hl'] at h
            | some ln =>
              simp only [hh', hl'] at h
              rw [lenN_eq] at hh' h
              simp only [takeN_eq, dropN_eq] at h
              cases mx with
              | none =>
                cases vm with
                | some v => exact hm.elim
                | none =>
                  simp only [] at h
                  cases hc : (Nat.ble ln hn && Nat.ble hn rows.length) with
                  | false => simp [hc] at h
                  | true =>
                    simp only [hc, cond_true, Option.some.injEq] at h
                    rw [Bool.and_eq_true, Nat.ble_eq, Nat.ble_eq] at hc
                    obtain ⟨a, cap, rfl, hcap, ht, hcut⟩ := hx.fv_inv.slCut he hc.1 hc.2
                    subst h
                    exact ⟨_, fun w0 => slice_run hu hs (bounds_run hl hh hl' hh' hc.1 (by omega)), .fv _ _ (hcut cap _ (by omega) (fun e => by
                      rw [Bool.and_eq_true, beq_iff] at e; rw [ht e.1]; exact e.2.symm))⟩
              | some m =>
                cases vm with
                | none => exact hm.elim
                | some v =>
                  simp only [] at h
                  cases hi with
                  | none => simp at h
                  | some x =>
                    cases hmn : asNat m with
                    | none => simp [hmn] at h
                    | some mn =>
                      simp only [hmn] at h
                      cases hc : (Nat.ble ln hn && Nat.ble hn mn && Nat.ble mn rows.length) with
                      | false => simp [hc] at h
                      | true =>
                        simp only [hc, cond_true, Option.some.injEq] at h
                        rw [Bool.and_eq_true, Bool.and_eq_true, Nat.ble_eq, Nat.ble_eq, Nat.ble_eq] at hc
                        obtain ⟨⟨h1, h2⟩, h3⟩ := hc
                        obtain ⟨a, cap, rfl, hcap, ht, hcut⟩ := hx.fv_inv.slCut he h1 (Nat.le_trans h2 h3)
                        subst h
                        exact ⟨_, fun w0 => slice_run hu hs (bounds3_run hl hh hm hl' hh' hmn h1 h2 (by omega)), .fv _ _ (hcut mn _ h2 (fun e => by
                          rw [beq_iff] at e; exact e.symm))⟩
        | false => simp [hrow] at h
      · cases h
end
end Go.Gm
