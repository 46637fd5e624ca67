/- Summaries: slices.Clone. -/
import Derived.Test.YtafggfmidkpnbaaGreatAbsSum
namespace Go.Gm

/-- slices.Clone at slices of type t -/
structure CloneShape (t : TypeId) (fn : Func) : Prop where
  body : ∃ (i0 i1 i2 i3 : Nat) (o00 o10 o11 o20 o30 o31 o32 o33 : Oper),
    fn.body = some (.seq (.region i0 #[o00] false) (.seq (.seq (.region i1 #[o10, o11] false) (.cond (.tmp 4) (.seq (.region i2 #[o20] false) .ret) .skip)) (.seq (.region i3 #[o30, o31, o32, o33] false) .ret))) ∧
    (o00.op = .assign (.const (.slice none 0 0)) ∧ o00.dst = some 2 ∧ o00.guard = none) ∧
    (o10.op = .move (.tmp 0) ∧ o10.dst = some 3 ∧ o10.guard = none) ∧
    (∃ ci, o11.op = .binOp .eql t (.tmp 3) (.const (.slice none 0 0)) ci) ∧ (o11.dst = some 4 ∧ o11.guard = none) ∧
    (o20.op = .assign (.const (.slice none 0 0)) ∧ o20.dst = some 2 ∧ o20.guard = none) ∧
    (o30.op = .buildSlice t 0 #[] ∧ o30.dst = some 5 ∧ o30.guard = none) ∧
    (o31.op = .move (.tmp 0) ∧ o31.dst = some 6 ∧ o31.guard = none) ∧
    (o32.op = .call { callee := .builtin .append, args := #[.tmp 5, .tmp 6], argTypes := #[t, t] } ∧ o32.dst = some 7 ∧ o32.guard = none) ∧
    (o33.op = .assign (.tmp 7) ∧ o33.dst = some 2 ∧ o33.guard = none)
  ntmps : fn.ntmps = 8
  results : fn.results = #[.tmp 2]

section
variable {P : Program} {w w' : World} {O F : Nat → Prop} {X : Nat → Prop} {β : Nat → Option Loc} {G : Nat → AObj} {b : Nat} {rl : Option Nat}

def K0 : Fns := ⟨fun _ _ => none, fun _ _ _ => none, fun _ _ _ => none⟩
def opt00 : Opts := { own := fun _ => false, ownMake := fun _ => false, sumN := fun _ => none, sumR := fun _ _ _ => [], sumE := fun _ => none, reco := fun _ => false }
theorem PfOk_K0 : PfOk P K0 := fun f args v objs h => by cases h
theorem SumNOk_00 : SumNOk P opt00 := fun f g h => by cases h

theorem stepN {n : Nat} {ops : Array Oper} {o : Oper} {a : Act} {T : Fr} {H : Heap} {v : AV} {objs : List AObj} (hg : o.guard = none) (h : opN P opt00 K0 n o.op T H b = some (v, objs)) (hf : FrR w (bar O F) β n T a.tmps) (hsr : SR w O F β G)
    (hG : ∀ r, r ∈ readsOf opt00 n o.op T H → G r = H.get r) (hole : Hole G β b objs.length) {next : Act → World → Prop} {Q : Exit → Act → World → Prop}
    (hn : ∀ u w', NRes w O F β G b v objs u w' → next (a.put o.dst u) w') : OneIn P rl ops o a w next Q := by
  unfold OneIn
  have : Region.wanted o (yielded ops a.tmps) = true := by unfold Region.wanted; rw [hg]
  rw [this, if_pos rfl]
  exact opN_sound PfOk_K0 SumNOk_00 h hf hsr hG hole next Q hn

theorem stepV {ops : Array Oper} {o : Oper} {a : Act} {u : Value} (hg : o.guard = none) (hd : ∀ c, o.op ≠ .defer c) (h : (execOp a.eval o).run P w = .ok (.value u) w) {next : Act → World → Prop} {Q : Exit → Act → World → Prop}
    (hn : next (a.put o.dst u) w) : OneIn P rl ops o a w next Q := by
  unfold OneIn
  have : Region.wanted o (yielded ops a.tmps) = true := by unfold Region.wanted; rw [hg]
  rw [this, if_pos rfl]
  exact runs_value (R := fun x w1 => x = u ∧ w1 = w) hd h ⟨rfl, rfl⟩ next Q fun v w1 ⟨e1, e2⟩ => by rw [e1, e2]; exact hn

theorem eval_at {a : Act} {t : Tmp} {u : Value} (h : a.tmps[t]? = some u) : a.eval (.tmp t) = u := by
  simp only [Act.eval]
  rw [Array.getD_eq_getD_getElem?, h]; rfl
theorem put_at {a : Act} {d : Tmp} {u : Value} (h : d < a.tmps.size) : (a.put (some d) u).tmps[d]? = some u := by
  rw [(put_tmps a (some d) u).1]; exact Array.getElem?_setIfInBounds_self_of_lt h
theorem put_ne {a : Act} {d t : Tmp} {u : Value} (h : d ≠ t) : (a.put (some d) u).tmps[t]? = a.tmps[t]? := by
  rw [(put_tmps a (some d) u).1]; exact Array.getElem?_setIfInBounds_ne h
theorem put_size {a : Act} {d : Option Tmp} {u : Value} : (a.put d u).tmps.size = a.tmps.size := by
  rw [(put_tmps a d u).1]; cases d <;> simp

theorem eqIn_slice (d : Nat) {t e : TypeId} (hu : P.underlying t = some (.slice e)) (p : Option Addr) (l c : Nat) : (Op.equalIn (d + 1) t (.slice p l c) (.slice none 0 0)).run P w = .ok p.isNone w := by
  cases p <;> simp [Op.equalIn, run_under hu]
theorem slice_is_nil {t e : TypeId} (hu : P.underlying t = some (.slice e)) (p : Option Addr) (len cap : Nat) (x y : Operand) {o : Oper} {ρ : Operand → Value} {ci : _} (ho : o.op = .binOp .eql t x y ci) (hx : ρ x = .slice p len cap) (hy : ρ y = .slice none 0 0) :
    (execOp ρ o).run P w = .ok (.value (.bool p.isNone)) w := by
  have he : (Op.equal t (.slice p len cap) (.slice none 0 0)).run P w = .ok p.isNone w := eqIn_slice 9999 hu p len cap
  have hg : (eqGuard .eql t x y (.slice p len cap) (.slice none 0 0)).run P w = .ok () w := by simp [eqGuard]
  have hb : (binOp .eql t (.slice p len cap) (.slice none 0 0)).run P w = .ok (.bool p.isNone) w := by simp [binOp, he]
  unfold execOp
  simp only [ho, hx, hy, Sem.run_bind]
  rw [hg]
  simp [hb]
theorem rows_of_nil {x : AV} {H : Heap} {xs : List (List AV)} {l c : Nat} (h : rowsOf x H = some xs) (hx : Rel w X β x (.slice none l c)) : xs = [] := by
  unfold rowsOf at h
  split at h
  · rename_i rows t
    simp only [Option.some.injEq] at h; subst h
    have := hx.fv_inv
    cases this with
    | sl rows tight a cap sz cv _ _ ha =>
      cases rows with
      | nil => rfl
      | cons r rs => obtain ⟨ad, h1, _⟩ := ha (by simp); cases h1
  · cases hx
  · cases h

theorem cloneS_sound {f : FuncId} {fn : Func} {t : TypeId} (hfn : P.funcs[f]? = some fn) (hs : CloneShape t fn) {args : List AV} {H : Heap} {v : AV} {objs : List AObj} (h : cloneS P t args H b = some (v, objs)) {vs : Array Value}
    (hsr : SR w O F β G) (hargs : Rels w (bar O F) β args vs) (hG : ∀ o, o ∈ cloneR args → G o = H.get o) (hole : Hole G β b objs.length) :
    CallsIn Fence.wide 0 P f vs w (fun e w' => ∃ u, e = .returned u ∧ NRes w O F β G b v objs u w') := by
  unfold cloneS at h
  cases hai : appInfo P t with
  | none => simp [hai] at h
  | some q =>
    obtain ⟨e, esz, bytes⟩ := q
    simp only [hai] at h
    split at h
    · rename_i x
      have h1 := hargs.1
      simp only [List.length_cons, List.length_nil] at h1
      obtain ⟨v0, rfl⟩ : ∃ v0, vs = #[v0] := Array.size_eq_one_iff.1 h1.symm
      have hx := hargs.2 0 _ v0 rfl rfl
      obtain ⟨i, z, hu, hi, rfl, rfl, hi0, hz, hzs⟩ := appInfo_some hai
      obtain ⟨i0, i1, i2, i3, o00, o10, o11, o20, o30, o31, o32, o33, hb, ⟨a00, d00, g00⟩, ⟨a10, d10, g10⟩, ⟨ci, a11⟩, ⟨d11, g11⟩, ⟨a20, d20, g20⟩, ⟨a30, d30, g30⟩, ⟨a31, d31, g31⟩, ⟨a32, d32, g32⟩, a33, d33, g33⟩ := hs.body
      have hrows : ∃ rows, rowsOf x H = some rows := by
        cases hr : rowsOf x H with
        | none => simp [hr] at h
        | some rows => exact ⟨rows, rfl⟩
      obtain ⟨rows, hro⟩ := hrows
      obtain ⟨p, cap, rfl⟩ := rowsOf_slice hro hx
      have enc : (Rel w (bar O F) β (.fv (.sl [] true)) (.slice none 0 0)) := .fv _ _ (.sl [] true none 0 0 (fun _ _ => .nilIface) (Nat.le_refl _) (fun _ => rfl) (fun c => absurd rfl c) (fun i row hi => by simp [nth] at hi) (fun i row j x hi => by simp [nth] at hi) (fun ad i row j x _ hi => by simp [nth] at hi) (fun i row j x hi => by simp [nth] at hi))
      have cN : evO 8 (.const (.slice none 0 0)) = some (fun _ => .fv (.sl [] true)) := by simp [evO, constFV, maxConst]
      have dead0 : Hole G β b ([] : List AObj).length := ⟨fun p hp hq => by simp at hq; omega, fun p hp hq => by simp at hq; omega⟩
      -- the frame
      refine callsIn_of_wp_marks hfn hb trivial ?_
      have hfr0 : FrR w (bar O F) β 8 (frameOf [x]) (#[Value.slice p rows.length cap] ++ Array.replicate (fn.ntmps - (#[Value.slice p rows.length cap] : Array Value).size) undef) := by
        rw [hs.ntmps]; exact entry_frame hargs (by simp)
      have hA0 : (#[Value.slice p rows.length cap] ++ Array.replicate (fn.ntmps - (#[Value.slice p rows.length cap] : Array Value).size) undef)[0]? = some (.slice p rows.length cap) := by
        rw [Array.getElem?_append_left (by simp)]; rfl
      generalize (#[Value.slice p rows.length cap] ++ Array.replicate (fn.ntmps - (#[Value.slice p rows.length cap] : Array Value).size) undef) = A at hfr0 hA0 ⊢
      have hAs := hfr0.1
      -- %2 := nil
      refine wpIn_seq (wpIn_region_list ?_)
      unfold wpListIn
      refine stepV g00 (by rw [a00]; simp) (by unfold execOp; simp only [a00]; rfl) ?_
      simp only [wpListIn]
      rw [d00]
      have hfr1 := FrR.puts (a := ⟨A, []⟩) hfr0 enc (some 2)
      generalize hB1 : Act.put ⟨A, []⟩ (some 2) (Act.eval ⟨A, []⟩ (Operand.const (.slice none 0 0))) = B1
      have hfr1 : FrR w (bar O F) β 8 (putT 8 (some 2) (frameOf [x]) (.fv (.sl [] true))) B1.tmps := by rw [← hB1]; exact hfr1
      have hd1 : B1.defers = [] := by rw [← hB1]; exact (put_tmps _ _ _).2
      have h10 : B1.tmps[0]? = some (.slice p rows.length cap) := by rw [← hB1, put_ne (by decide)]; exact hA0
      have hs1 := hfr1.1
      clear hB1
      -- is it nil
      refine wpIn_seq (wpIn_seq (wpIn_region_list ?_))
      unfold wpListIn
      refine stepV (u := .slice p rows.length cap) g10 (by rw [a10]; simp) (by unfold execOp; simp only [a10, eval_at h10]; rfl) ?_
      rw [d10]
      have hfr2 := FrR.puts hfr1 hx (some 3)
      have hs2 := hfr2.1
      have h23 : (B1.put (some 3) (.slice p rows.length cap)).tmps[3]? = some (.slice p rows.length cap) := put_at (by rw [hs1]; decide)
      have h20 : (B1.put (some 3) (.slice p rows.length cap)).tmps[0]? = some (.slice p rows.length cap) := by rw [put_ne (by decide)]; exact h10
      have hd2 : (B1.put (some 3) (.slice p rows.length cap)).defers = [] := by rw [(put_tmps _ _ _).2]; exact hd1
      generalize B1.put (some 3) (.slice p rows.length cap) = B2 at hfr2 hs2 h23 h20 hd2 ⊢
      unfold wpListIn
      refine stepV g11 (by rw [a11]; simp) (slice_is_nil hu p rows.length cap (.tmp 3) (.const (.slice none 0 0)) a11 (eval_at h23) rfl) ?_
      simp only [wpListIn]
      rw [d11]
      have hfr3 := FrR.puts hfr2 (.fv _ _ (.bool p.isNone)) (some 4)
      have hs3 := hfr3.1
      have h34 : (B2.put (some 4) (.bool p.isNone)).tmps[4]? = some (.bool p.isNone) := put_at (by rw [hs2]; decide)
      have h30 : (B2.put (some 4) (.bool p.isNone)).tmps[0]? = some (.slice p rows.length cap) := by rw [put_ne (by decide)]; exact h20
      have hd3 : (B2.put (some 4) (.bool p.isNone)).defers = [] := by rw [(put_tmps _ _ _).2]; exact hd2
      generalize B2.put (some 4) (.bool p.isNone) = B3 at hfr3 hs3 h34 h30 hd3 ⊢
      refine wpIn_cond (eval_at h34) ?_
      -- what is handed back
      have fin : ∀ (B : Act) (u : Value) (w1 : World), B.defers = [] → B.tmps[2]? = some u → NRes w O F β G b v objs u w1 → LeavesInM Fence.wide 0 P fn B.tmps (fun e w' => ∃ u, e = .returned u ∧ NRes w O F β G b v objs u w') B.defers .returning w1 := fun B u w1 hd h2 hn => by
        rw [hd]
        have hres : (results fn B.tmps).run P w1 = .ok u w1 := by
          unfold results
          rw [hs.results]
          simp [h2]
        exact ⟨u, hres, u, rfl, hn⟩
      cases p with
      | none =>
        have hnil := rows_of_nil hro hx
        subst hnil
        simp only [hro, Option.some.injEq, Prod.mk.injEq] at h
        obtain ⟨rfl, rfl⟩ := h
        refine wpIn_seq (wpIn_region_list ?_)
        unfold wpListIn
        refine stepV g20 (by rw [a20]; simp) (by unfold execOp; simp only [a20]; rfl) ?_
        simp only [wpListIn]
        rw [d20]
        refine wpIn_ret ?_
        exact fin _ _ w (by rw [(put_tmps _ _ _).2]; exact hd3) (put_at (by rw [hs3]; decide)) (NRes.same hsr enc)
      | some ad =>
        refine wpIn_skip ?_
        have happ : appendN i.size i.bytes (.fv (.sl [] true)) rows b = some (v, objs) := by
          simp only [hro] at h
          cases rows with
          | nil => simpa [appendN] using h
          | cons r rs => exact h
        refine wpIn_seq (wpIn_region_list ?_)
        unfold wpListIn
        have hbs : opN P opt00 K0 8 o30.op (putT 8 (some 4) (putT 8 (some 3) (putT 8 (some 2) (frameOf [x]) (.fv (.sl [] true))) x) (.fv (.bool (some ad).isNone))) H b = some (.fv (.sl [] true), []) := by
          rw [a30]
          obtain ⟨zc, hzc⟩ : ∃ zc, zeroCells P e = some zc := by
            unfold appInfo at hai
            simp only [hu, hi] at hai
            cases hq : zeroCells P e with
            | none => simp [hq] at hai
            | some q => exact ⟨q, rfl⟩
          obtain ⟨esz, zz⟩ := zc
          simp only [opN, evParts, opt00, buildSliceS, hu, hzc, Nat.zero_mul]
          rfl
        refine stepN g30 hbs hfr3 hsr (fun r hr => by rw [a30] at hr; simp [readsOf] at hr) dead0 fun u5 w1 hn1 => ?_
        obtain ⟨O1, β1, hst1, hsr1, hrel1, hb1⟩ := hn1
        have hb1 : ∀ p, β1 p = β p := fun p => hb1 p (by simp; omega)
        rw [d30]
        have hfr5 := FrR.puts (hfr3.mono (hst1.still F) hst1.ext) hrel1 (some 5)
        have hs5 := hfr5.1
        have h50 : (B3.put (some 5) u5).tmps[0]? = some (.slice (some ad) rows.length cap) := by rw [put_ne (by decide)]; exact h30
        have hd5 : (B3.put (some 5) u5).defers = [] := by rw [(put_tmps _ _ _).2]; exact hd3
        generalize B3.put (some 5) u5 = B5 at hfr5 hs5 h50 hd5 ⊢
        unfold wpListIn
        refine stepV (u := .slice (some ad) rows.length cap) g31 (by rw [a31]; simp) (by unfold execOp; simp only [a31, eval_at h50]; rfl) ?_
        rw [d31]
        have hx1 := hx.mono (hst1.still F) hst1.ext
        have hfr6 := FrR.puts hfr5 hx1 (some 6)
        have hs6 := hfr6.1
        have hd6 : (B5.put (some 6) (.slice (some ad) rows.length cap)).defers = [] := by rw [(put_tmps _ _ _).2]; exact hd5
        generalize B5.put (some 6) (.slice (some ad) rows.length cap) = B6 at hfr6 hs6 hd6 ⊢
        unfold wpListIn
        generalize hT6 : putT 8 (some 6) (putT 8 (some 5) (putT 8 (some 4) (putT 8 (some 3) (putT 8 (some 2) (frameOf [x]) (.fv (.sl [] true))) x) (.fv (.bool (some ad).isNone))) (.fv (.sl [] true))) x = T6 at hfr6
        have t5 : T6 5 = .fv (.sl [] true) := by rw [← hT6, putT_other (by decide), putT_same (by decide)]
        have t6 : T6 6 = x := by rw [← hT6, putT_same (by decide)]
        have hop : opN P opt00 K0 8 o32.op T6 H b = some (v, objs) := by
          rw [a32]
          simp only [opN]
          have e1 : evOs 8 #[Operand.tmp 5, Operand.tmp 6].toList = some [fun T => T 5, fun T => T 6] := rfl
          simp only [e1, hai, t5, t6, appSrc, hu, hro]
          exact happ
        have hrd : ∀ r, r ∈ readsOf opt00 8 o32.op T6 H → G r = H.get r := fun r hr => by
          rw [a32] at hr
          simp only [readsOf] at hr
          have e3 : evO 8 (Operand.tmp 6) = some (fun T => T 6) := rfl
          simp only [readsArg, e3, t6] at hr
          exact hG r (by simpa [cloneR] using hr)
        refine stepN g32 hop hfr6 hsr1 hrd ⟨fun p hp hq => hole.dead p hp hq, fun p hp hq => by rw [hb1]; exact hole.none p hp hq⟩ fun u7 w2 hn2 => ?_
        rw [d32]
        unfold wpListIn
        have hs7 : (B6.put (some 7) u7).tmps.size = 8 := by rw [put_size]; exact hs6
        have h77 : (B6.put (some 7) u7).tmps[7]? = some u7 := put_at (by rw [hs6]; decide)
        refine stepV (u := u7) g33 (by rw [a33]; simp) (by unfold execOp; simp only [a33, eval_at h77]; rfl) ?_
        simp only [wpListIn]
        rw [d33]
        refine wpIn_ret ?_
        refine fin _ _ w2 (by rw [(put_tmps _ _ _).2, (put_tmps _ _ _).2]; exact hd6) (put_at (by rw [hs7]; decide)) ?_
        obtain ⟨O2, β2, hst2, hsr2, hrel2, hb2⟩ := hn2
        exact ⟨O2, β2, hst1.trans hst2, hsr2, hrel2, fun p hp => (hb2 p hp).trans (hb1 p)⟩
    · cases h
end
end Go.Gm
