/- The summaries of a seat. -/
import Derived.Test.YtafggfmidkpnbaaGreatAbsClone
import Derived.Test.YtafggfmidkpnbaaGreatAbsRow
namespace Go.Gm
theorem sumN_ok {P : Program} {tab : Tab} {own ownMake : TypeId → Bool} {kt : TypeId} {sumE : FuncId → Option (List AV → Heap → Option (AV × Heap))} {reco : FuncId → Bool} (hs : SortedOk P tab.sorted kt tab.keys)
    (hc : ∀ f t, tab.clone f = some t → Enters P f ∧ ∃ fn, P.funcs[f]? = some fn ∧ CloneShape t fn) : SumNOk P { optT P tab own ownMake with sumE := sumE, reco := reco } := by
  intro f g hg args H b v objs h
  simp only [optT] at hg
  cases hf : Nat.beq f tab.sorted with
  | true =>
    simp only [hf, cond_true, Option.some.injEq] at hg
    subst hg
    rw [beq_iff] at hf
    subst hf
    refine ⟨hs.enters, fun w O F β G vs hsr hargs hG hole => ?_⟩
    refine sortedS_sound hs h hsr hargs (fun o ho => hG o ?_) hole
    simp only [optT, Nat.beq_refl, cond_true]
    exact ho
  | false =>
    simp only [hf, cond_false] at hg
    cases ht : tab.clone f with
    | none => simp [ht] at hg
    | some t =>
      simp only [ht, Option.some.injEq] at hg
      subst hg
      obtain ⟨he, fn, hfn, hshape⟩ := hc f t ht
      refine ⟨he, fun w O F β G vs hsr hargs hG hole => ?_⟩
      refine cloneS_sound hfn hshape h hsr hargs (fun o ho => hG o ?_) hole
      simp only [optT, hf, cond_false]
      exact ho
theorem enters_mk {P : Program} {f : FuncId} {fn : Func} (h : P.funcs[f]? = some fn) (hb : fn.body.isSome = true) (hn : NoNum P) : Enters P f := ⟨fn, h, hb, hn f fn h⟩
theorem noNum_of {P : Program} (h : (P.funcs.toList.all fun fn => !(fn.name == "runtime.NumGoroutine")) = true) : NoNum P := fun f fn hf => by
  rw [List.all_eq_true] at h
  have := h fn (by rw [← Array.getElem?_toList] at hf; exact List.mem_of_getElem? hf)
  simpa using this
theorem KA_sound {P : Program} {opt : Opts} {L n : Nat} (hm : P.follows .mixedOrders = true) (hS : SumOk P opt) (hRec : RecOk P opt) (hN : NoNum P) : KOk P (KA P opt L n) :=
  KA_ok hS (fun _ hK => drawA_sound hm hK hS) hRec hN n
end Go.Gm
