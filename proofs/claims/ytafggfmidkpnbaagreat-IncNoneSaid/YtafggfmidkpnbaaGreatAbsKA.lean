/- The whole interpreter. -/
import Derived.Test.YtafggfmidkpnbaaGreatAbsExp
namespace Go.Gm
theorem KA_ok {P : Program} {opt : Opts} {L : Nat} (hS : SumOk P opt) (hD : ∀ K, KOk P K → DrawOk P opt K) (hRec : RecOk P opt) (hN : NoNum P) : ∀ n, KOk P (KA P opt L n)
  | 0 => ⟨fun f args v objs h => (by cases h), fun f args H v H' h => (by cases h), fun o args H v H' h => (by cases h)⟩
  | n + 1 => by
    have ih := KA_ok hS hD hRec hN (L := L) n
    have hd := hD _ ih
    have hr := rangeA_sound ih
    have e : KA P opt L (n + 1) = ⟨pfA P opt L (KA P opt L n), fnA P opt L (KA P opt L n), ylA P opt L (KA P opt L n)⟩ := rfl
    rw [e]
    refine ⟨fun f args v objs h => ?_, fun f args H v H' h => fnA_sound ih hS hd hr hRec hN h, fun o args H v H' h => ylA_sound ih hS hd hr h⟩
    obtain ⟨h1, h2⟩ := pfA_sound ih hS hd hr hRec hN h
    exact ⟨h1, fun w F vs hF hargs _ => h2 w F vs hF hargs⟩
end Go.Gm
