/- The run of the law, by the kernel. -/
import Derived.Test.YtafggfmidkpnbaaGreatProg
import Derived.Test.YtafggfmidkpnbaaGreatAbsDef
import Derived.KernelRfl
namespace Go.Proofs.YtafggfmidkpnbaaGreat
open Go.Gm
def isKeys (f : FuncId) : Bool := Nat.beq f 46
def cloneT (f : FuncId) : Option TypeId :=
  match f with
  | 17 => some 32 | 25 => some 34 | 29 => some 59 | 30 => some 60 | 42 => some 22 | 99 => some 52 | 126 => some 49 | 127 => some 44 | 128 => some 45 | _ => none
def tab : Tab := { clone := cloneT, keys := isKeys, sorted := 27, free := 0, recov := 0 }
noncomputable def opt0 : Opts := { optT Tryz.prog tab (fun _ => false) (fun t => !(Nat.beq t 49)) with sumE := fun _ => none, reco := fun _ => false }
noncomputable def K1 : Fns := KA Tryz.prog opt0 4611686018427387904 60
def isTrue (x : Option (AV × List AObj)) : Bool := match x with | some (.fv (.bool true), []) => true | _ => false
set_option maxRecDepth 100000
theorem all3 (a b c : Int) (d : Bool) (r1 r2 : List (List FV)) (i k : Int) : isTrue (K1.pf 3 [.fv (.agg [.int .i64 a, .int .i64 b, .int .i64 c, .bool d, .sl r1 false, .sl r2 false]), .fv (.int .i64 i), .fv (.int .i64 k)]) = true := by kernel_rfl
end Go.Proofs.YtafggfmidkpnbaaGreat
