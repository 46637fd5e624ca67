/- The law IncNone: whatever node and numbers come in, the call returns true, and each argument reads as before. No condition. -/
import Derived.Test.YtafggfmidkpnbaaGreatRows
import Derived.Test.YtafggfmidkpnbaaGreatLay
import Derived.ProofKit
namespace Go.Proofs.YtafggfmidkpnbaaGreat
open Go.Gm Go.ChangeShapes Go.WideShapes Go.ChangeAt Go.RowKit
theorem follows : Tryz.prog.follows .mixedOrders = true := by kernel_rfl
theorem shape17 : CloneShape 32 Tryz.f17 := ⟨⟨_, _, _, _, _, _, _, _, _, _, _, _, rfl, ⟨rfl, rfl, rfl⟩, ⟨rfl, rfl, rfl⟩, ⟨_, rfl⟩, ⟨rfl, rfl⟩, ⟨rfl, rfl, rfl⟩, ⟨rfl, rfl, rfl⟩, ⟨rfl, rfl, rfl⟩, ⟨rfl, rfl, rfl⟩, ⟨rfl, rfl, rfl⟩⟩, rfl, rfl⟩
theorem shape25 : CloneShape 34 Tryz.f25 := ⟨⟨_, _, _, _, _, _, _, _, _, _, _, _, rfl, ⟨rfl, rfl, rfl⟩, ⟨rfl, rfl, rfl⟩, ⟨_, rfl⟩, ⟨rfl, rfl⟩, ⟨rfl, rfl, rfl⟩, ⟨rfl, rfl, rfl⟩, ⟨rfl, rfl, rfl⟩, ⟨rfl, rfl, rfl⟩, ⟨rfl, rfl, rfl⟩⟩, rfl, rfl⟩
theorem shape29 : CloneShape 59 Tryz.f29 := ⟨⟨_, _, _, _, _, _, _, _, _, _, _, _, rfl, ⟨rfl, rfl, rfl⟩, ⟨rfl, rfl, rfl⟩, ⟨_, rfl⟩, ⟨rfl, rfl⟩, ⟨rfl, rfl, rfl⟩, ⟨rfl, rfl, rfl⟩, ⟨rfl, rfl, rfl⟩, ⟨rfl, rfl, rfl⟩, ⟨rfl, rfl, rfl⟩⟩, rfl, rfl⟩
theorem shape30 : CloneShape 60 Tryz.f30 := ⟨⟨_, _, _, _, _, _, _, _, _, _, _, _, rfl, ⟨rfl, rfl, rfl⟩, ⟨rfl, rfl, rfl⟩, ⟨_, rfl⟩, ⟨rfl, rfl⟩, ⟨rfl, rfl, rfl⟩, ⟨rfl, rfl, rfl⟩, ⟨rfl, rfl, rfl⟩, ⟨rfl, rfl, rfl⟩, ⟨rfl, rfl, rfl⟩⟩, rfl, rfl⟩
theorem shape42 : CloneShape 22 Tryz.f42 := ⟨⟨_, _, _, _, _, _, _, _, _, _, _, _, rfl, ⟨rfl, rfl, rfl⟩, ⟨rfl, rfl, rfl⟩, ⟨_, rfl⟩, ⟨rfl, rfl⟩, ⟨rfl, rfl, rfl⟩, ⟨rfl, rfl, rfl⟩, ⟨rfl, rfl, rfl⟩, ⟨rfl, rfl, rfl⟩, ⟨rfl, rfl, rfl⟩⟩, rfl, rfl⟩
theorem shape99 : CloneShape 52 Tryz.f99 := ⟨⟨_, _, _, _, _, _, _, _, _, _, _, _, rfl, ⟨rfl, rfl, rfl⟩, ⟨rfl, rfl, rfl⟩, ⟨_, rfl⟩, ⟨rfl, rfl⟩, ⟨rfl, rfl, rfl⟩, ⟨rfl, rfl, rfl⟩, ⟨rfl, rfl, rfl⟩, ⟨rfl, rfl, rfl⟩, ⟨rfl, rfl, rfl⟩⟩, rfl, rfl⟩
theorem shape126 : CloneShape 49 Tryz.f126 := ⟨⟨_, _, _, _, _, _, _, _, _, _, _, _, rfl, ⟨rfl, rfl, rfl⟩, ⟨rfl, rfl, rfl⟩, ⟨_, rfl⟩, ⟨rfl, rfl⟩, ⟨rfl, rfl, rfl⟩, ⟨rfl, rfl, rfl⟩, ⟨rfl, rfl, rfl⟩, ⟨rfl, rfl, rfl⟩, ⟨rfl, rfl, rfl⟩⟩, rfl, rfl⟩
theorem shape127 : CloneShape 44 Tryz.f127 := ⟨⟨_, _, _, _, _, _, _, _, _, _, _, _, rfl, ⟨rfl, rfl, rfl⟩, ⟨rfl, rfl, rfl⟩, ⟨_, rfl⟩, ⟨rfl, rfl⟩, ⟨rfl, rfl, rfl⟩, ⟨rfl, rfl, rfl⟩, ⟨rfl, rfl, rfl⟩, ⟨rfl, rfl, rfl⟩, ⟨rfl, rfl, rfl⟩⟩, rfl, rfl⟩
theorem shape128 : CloneShape 45 Tryz.f128 := ⟨⟨_, _, _, _, _, _, _, _, _, _, _, _, rfl, ⟨rfl, rfl, rfl⟩, ⟨rfl, rfl, rfl⟩, ⟨_, rfl⟩, ⟨rfl, rfl⟩, ⟨rfl, rfl, rfl⟩, ⟨rfl, rfl, rfl⟩, ⟨rfl, rfl, rfl⟩, ⟨rfl, rfl, rfl⟩, ⟨rfl, rfl, rfl⟩⟩, rfl, rfl⟩
theorem clones (f : FuncId) (t : TypeId) (h : tab.clone f = some t) : Go.Gm.Enters Tryz.prog f ∧ ∃ fn, Tryz.prog.funcs[f]? = some fn ∧ CloneShape t fn := by
  have h : cloneT f = some t := h
  unfold cloneT at h
  split at h
  · cases h; exact ⟨enters_mk Tryz.func17 rfl noNum, _, Tryz.func17, shape17⟩
  · cases h; exact ⟨enters_mk Tryz.func25 rfl noNum, _, Tryz.func25, shape25⟩
  · cases h; exact ⟨enters_mk Tryz.func29 rfl noNum, _, Tryz.func29, shape29⟩
  · cases h; exact ⟨enters_mk Tryz.func30 rfl noNum, _, Tryz.func30, shape30⟩
  · cases h; exact ⟨enters_mk Tryz.func42 rfl noNum, _, Tryz.func42, shape42⟩
  · cases h; exact ⟨enters_mk Tryz.func99 rfl noNum, _, Tryz.func99, shape99⟩
  · cases h; exact ⟨enters_mk Tryz.func126 rfl noNum, _, Tryz.func126, shape126⟩
  · cases h; exact ⟨enters_mk Tryz.func127 rfl noNum, _, Tryz.func127, shape127⟩
  · cases h; exact ⟨enters_mk Tryz.func128 rfl noNum, _, Tryz.func128, shape128⟩
  · cases h
theorem sums : SumOk Tryz.prog opt0 := ⟨sumN_ok sorted clones, fun f g h => by cases h⟩
theorem recs : RecOk Tryz.prog opt0 := fun f h => by cases h
theorem kOk : KOk Tryz.prog K1 := KA_sound follows sums recs noNum
theorem isTrue_eq {x : Option (AV × List AObj)} (h : isTrue x = true) : ∃ objs, x = some (.fv (.bool true), objs) := by
  unfold isTrue at h
  split at h
  · exact ⟨_, rfl⟩
  · cases h
theorem own : ownKnob Tryz.prog.godebug = none := by kernel_rfl
theorem laidOut : laidOutB Tryz.prog = true := by kernel_rfl
theorem c24 : Tryz.prog.cellsOf 24 = 6 := by kernel_rfl
theorem c3 : Tryz.prog.cellsOf 3 = 1 := by kernel_rfl
theorem c4 : Tryz.prog.cellsOf 4 = 1 := by kernel_rfl
theorem c22 : Tryz.prog.cellsOf 22 = 1 := by kernel_rfl
theorem five {α : Type} {xs : List α} (h : xs.length = 6) : ∃ a b c d e f, xs = [a, b, c, d, e, f] := by
  match xs, h with
  | [a, b, c, d, e, f], _ => exact ⟨a, b, c, d, e, f, rfl⟩
theorem node {n : Nat} {xs : List FV} (h : FT Tryz.prog n 24 xs) : ∃ a b c d r1 r2, xs = [.int .i64 a, .int .i64 b, .int .i64 c, .bool d, .sl r1 false, .sl r2 false] := by
  obtain ⟨hl, hf⟩ := FT.struct h Tryz.underlying24
  rw [c24] at hl
  obtain ⟨x0, x1, x2, x3, x4, x5, rfl⟩ := five hl
  have f0 := hf _ (List.mem_cons_self ..)
  have f1 := hf _ (List.mem_cons_of_mem _ (List.mem_cons_self ..))
  have f2 := hf _ (List.mem_cons_of_mem _ (List.mem_cons_of_mem _ (List.mem_cons_self ..)))
  have f3 := hf _ (List.mem_cons_of_mem _ (List.mem_cons_of_mem _ (List.mem_cons_of_mem _ (List.mem_cons_self ..))))
  have f4 := hf _ (List.mem_cons_of_mem _ (List.mem_cons_of_mem _ (List.mem_cons_of_mem _ (List.mem_cons_of_mem _ (List.mem_cons_self ..)))))
  have f5 := hf _ (List.mem_cons_of_mem _ (List.mem_cons_of_mem _ (List.mem_cons_of_mem _ (List.mem_cons_of_mem _ (List.mem_cons_of_mem _ (List.mem_cons_self ..))))))
  simp only [c3, c4, c22, List.drop_succ_cons, List.drop_zero, List.take_succ_cons, List.take_zero] at f0 f1 f2 f3 f4 f5
  obtain ⟨a, e0, _⟩ := FT.int f0 Tryz.underlying3
  obtain ⟨b, e1, _⟩ := FT.int f1 Tryz.underlying3
  obtain ⟨c, e2, _⟩ := FT.int f2 Tryz.underlying3
  obtain ⟨d, e3⟩ := FT.bool f3 Tryz.underlying4
  obtain ⟨r1, e4, _⟩ := FT.slice f4 Tryz.underlying22
  obtain ⟨r2, e5, _⟩ := FT.slice f5 Tryz.underlying22
  simp only [List.cons.injEq, and_true] at e0 e1 e2 e3 e4 e5
  subst e0; subst e1; subst e2; subst e3; subst e4; subst e5
  exact ⟨a, b, c, d, r1, r2, rfl⟩
set_option maxRecDepth 100000
theorem run3 (l : List (List FV)) (h : FTs Tryz.prog 6 Tryz.f3.params.toList l) : ∃ objs, K1.pf 3 (argsOf Tryz.prog Tryz.f3.params.toList l) = some (.fv (.bool true), objs) := by
  rw [show Tryz.f3.params.toList = [24, 3, 3] from rfl] at h ⊢
  cases h with
  | cons h1 h =>
    cases h with
    | cons h2 h =>
      cases h with
      | cons h3 h =>
        cases h
        obtain ⟨i, rfl, _⟩ := FT.int h2 Tryz.underlying3
        obtain ⟨k, rfl, _⟩ := FT.int h3 Tryz.underlying3
        obtain ⟨a, b, c, d, r1, r2, rfl⟩ := node h1
        have e : argsOf Tryz.prog [24, 3, 3] [[.int .i64 a, .int .i64 b, .int .i64 c, .bool d, .sl r1 false, .sl r2 false], [.int .i64 i], [.int .i64 k]] = [.fv (.agg [.int .i64 a, .int .i64 b, .int .i64 c, .bool d, .sl r1 false, .sl r2 false]), .fv (.int .i64 i), .fv (.int .i64 k)] := by
          simp only [argsOf, argOf, Tryz.underlying24, Tryz.underlying3]
        rw [e]
        exact isTrue_eq (all3 a b c d r1 r2 i k)
theorem mem3 {t : TypeId} (h : t ∈ Tryz.f3.params.toList) : t = 24 ∨ t = 3 := by
  rw [show Tryz.f3.params.toList = [24, 3, 3] from rfl] at h
  simp only [List.mem_cons, List.not_mem_nil, or_false] at h
  rcases h with h | h | h
  · exact .inl h
  · exact .inr h
  · exact .inr h
theorem reads (t : TypeId) (h : t ∈ Tryz.f3.params.toList) : Tryz.prog.readableRec t = true ∧ t < Tryz.prog.types.size := by
  rcases mem3 h with rfl | rfl
  · exact ⟨by kernel_rfl, of_decide_eq_true (by kernel_rfl)⟩
  · exact ⟨by kernel_rfl, of_decide_eq_true (by kernel_rfl)⟩
theorem plains (t : TypeId) (h : t ∈ Tryz.f3.params.toList) : PT Tryz.prog 6 t = true := by
  rcases mem3 h with rfl | rfl
  · kernel_rfl
  · kernel_rfl
theorem spec3 {H : Type} (ds : List (DataW H)) (h : ds.length = Tryz.f3.params.toList.length) : Rows.incNoneSpec.fn H ds = { results := [.lit (.bool true)], args := ds } := by
  have h : ds.length = 3 := h
  match ds, h with
  | [a, b, c], _ => rfl
theorem f_lifted (os : Os) (started : os.Started) (H : Type) (enc : TypeId × Value → H) :
    ReturnsInHanded {} Tryz.checked os 3 .any (Rows.incNoneSpec.pre6 enc Tryz.prog Tryz.f3 Rows.incNoneRow.domain false) (Rows.incNoneSpec.post enc Tryz.prog Tryz.f3 false true false false) :=
  law_lifted (C := Tryz.checked) (tb := 4) own started (by kernel_rfl) Tryz.func3
    (ChangeSpec.witness6 (enc := enc) (C := Tryz.checked) false ⟨#[], #[.agg #[.int .i64 0, .int .i64 0, .int .i64 0, .bool false, .slice none 0 0, .slice none 0 0], .int .i64 0, .int .i64 0], []⟩ 8 (by kernel_rfl) (by kernel_rfl) (by kernel_rfl) (by kernel_rfl))
    laidOut reads plains rfl (fun ds hd => spec3 ds hd) rfl Tryz.underlying4 kOk run3
theorem incNone_holds : Rows.IncNoneSaid :=
  OpenClaim.holds_of_wide 3 Tryz.f3 rfl rfl rfl rfl rfl rfl rfl ⟨rfl, rfl, rfl, rfl, rfl⟩ rfl rfl rfl rfl rfl (by kernel_rfl) Tryz.func3 (by kernel_rfl)
    (of_decide_eq_true (by kernel_rfl)) (by unfold Func.isWrapper; rw [if_neg (by decide +kernel)]; exact ⟨rfl, rfl⟩)
    (fun os started H enc _ => f_lifted os started H enc)
end Go.Proofs.YtafggfmidkpnbaaGreat
