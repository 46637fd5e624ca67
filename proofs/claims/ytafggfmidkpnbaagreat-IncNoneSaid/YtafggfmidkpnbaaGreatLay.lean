/- The contracts of the sort of a map's keys, laid at this program. -/
import Derived.Shelf.SlIterI.Nil
import Derived.Shelf.SortM.Plain
import Derived.Shelf.SortM.SortNone
import Derived.Test.YtafggfmidkpnbaaGreatProg
import Derived.Test.YtafggfmidkpnbaaGreatAbsOpt
import Derived.Test.YtafggfmidkpnbaaGreatRun
namespace Go.Proofs.YtafggfmidkpnbaaGreat
open Go.RowKit Go.Maps Go.Sort Go.Shelf
def Lay.keysA_ren : Go.Shelf.Ren := ⟨fun | 7 => 28 | 10 => 46 | n => n, fun | 23 => 75 | 26 => 3 | 3 => 4 | 28 => 78 | 0 => 0 | 27 => 77 | 33 => 29 | 4 => 4 | n => n, fun | n => n⟩
theorem Lay.keysA : Go.Proofs.SlLaysZI.n7 Tryz.prog Lay.keysA_ren := {
  mixed := by kernel_rfl,
  f7 := ⟨Tryz.f28.name, by decide, Tryz.func28.trans (congrArg some (by kernel_rfl))⟩,
  f10 := ⟨Tryz.f46.name, by decide, Tryz.func46.trans (congrArg some (by kernel_rfl))⟩,
  t0 := Tryz.underlying0,
  a0 := Tryz.isAgg0,
  z0 := Tryz.sizeOf0,
  v0 := Tryz.zeroValue0,
  t4 := Tryz.underlying4,
  a4 := Tryz.isAgg4,
  z4 := Tryz.sizeOf4,
  v4 := Tryz.zeroValue4,
  t23 := Tryz.underlying75,
  a23 := Tryz.isAgg75,
  z23 := Tryz.sizeOf75,
  v23 := Tryz.zeroValue75,
  t26 := Tryz.underlying3,
  a26 := Tryz.isAgg3,
  z26 := Tryz.sizeOf3,
  v26 := Tryz.zeroValue3,
  t27 := Tryz.underlying77,
  a27 := Tryz.isAgg77,
  z27 := Tryz.sizeOf77,
  v27 := Tryz.zeroValue77,
  t28 := Tryz.underlying78,
  a28 := Tryz.isAgg78,
  z28 := Tryz.sizeOf78,
  v28 := Tryz.zeroValue78,
  t33 := Tryz.underlying29,
  a33 := Tryz.isAgg29,
  z33 := Tryz.sizeOf29,
  v33 := Tryz.zeroValue29 }
def Lay.sortedA_ren : Go.Shelf.Ren := ⟨fun | 6 => 27 | 8 => 44 | 9 => 45 | 11 => 65 | 13 => 67 | 12 => 66 | 23 => 91 | 24 => 92 | 14 => 82 | 15 => 83 | 16 => 84 | 17 => 85 | 18 => 86 | 19 => 87 | 20 => 88 | 21 => 89 | 22 => 90 | 25 => 113 | 26 => 114 | 27 => 115 | 28 => 116 | 29 => 117 | 30 => 111 | 31 => 135 | n => n, fun | 26 => 3 | 28 => 78 | 24 => 34 | 0 => 0 | 3 => 3 | 37 => 122 | 48 => 144 | 50 => 72 | 4 => 4 | 40 => 137 | 39 => 136 | 45 => 141 | 5 => 5 | 9 => 9 | 51 => 164 | 55 => 168 | 57 => 189 | 58 => 130 | 33 => 29 | n => n, fun | n => n⟩
theorem Lay.sortedA : Go.Proofs.SlLaysZI.n6 Tryz.prog Lay.sortedA_ren := {
  mixed := by kernel_rfl,
  f6 := ⟨Tryz.f27.name, by decide, Tryz.func27.trans (congrArg some (by kernel_rfl))⟩,
  f8 := ⟨Tryz.f44.name, by decide, Tryz.func44.trans (congrArg some (by kernel_rfl))⟩,
  f11 := ⟨Tryz.f65.name, by decide, Tryz.func65.trans (congrArg some (by kernel_rfl))⟩,
  t0 := Tryz.underlying0,
  a0 := Tryz.isAgg0,
  z0 := Tryz.sizeOf0,
  v0 := Tryz.zeroValue0,
  t24 := Tryz.underlying34,
  a24 := Tryz.isAgg34,
  z24 := Tryz.sizeOf34,
  v24 := Tryz.zeroValue34,
  t26 := Tryz.underlying3,
  a26 := Tryz.isAgg3,
  z26 := Tryz.sizeOf3,
  v26 := Tryz.zeroValue3,
  t28 := Tryz.underlying78,
  a28 := Tryz.isAgg78,
  z28 := Tryz.sizeOf78,
  v28 := Tryz.zeroValue78,
  i26 := by kernel_rfl }
def Lay.sortA_ren : Go.Shelf.Ren := ⟨fun | 5 => 45 | 8 => 67 | 7 => 66 | 19 => 91 | 20 => 92 | 10 => 82 | 11 => 83 | 12 => 84 | 13 => 85 | 14 => 86 | 15 => 87 | 16 => 88 | 17 => 89 | 18 => 90 | 30 => 113 | 31 => 114 | 32 => 115 | 33 => 116 | 34 => 117 | 35 => 111 | 40 => 135 | n => n, fun | 23 => 34 | 25 => 3 | 3 => 3 | 32 => 122 | 22 => 34 | 0 => 0 | 44 => 144 | 46 => 72 | 4 => 4 | 36 => 137 | 35 => 136 | 41 => 141 | 5 => 5 | 9 => 9 | 53 => 164 | 57 => 168 | 63 => 189 | 64 => 130 | n => n, fun | n => n⟩
theorem Lay.sortA : Go.Proofs.SlLaysM.n5 Tryz.prog Lay.sortA_ren := {
  mixed := by kernel_rfl,
  f5 := ⟨Tryz.f45.name, by decide, Tryz.func45.trans (congrArg some (by kernel_rfl))⟩,
  f7 := ⟨Tryz.f66.name, by decide, Tryz.func66.trans (congrArg some (by kernel_rfl))⟩,
  f8 := Tryz.func67.trans (congrArg some (by kernel_rfl)),
  f10 := ⟨Tryz.f82.name, by decide, Tryz.func82.trans (congrArg some (by kernel_rfl))⟩,
  f11 := ⟨Tryz.f83.name, by decide, Tryz.func83.trans (congrArg some (by kernel_rfl))⟩,
  f12 := ⟨Tryz.f84.name, by decide, Tryz.func84.trans (congrArg some (by kernel_rfl))⟩,
  f13 := ⟨Tryz.f85.name, by decide, Tryz.func85.trans (congrArg some (by kernel_rfl))⟩,
  f14 := ⟨Tryz.f86.name, by decide, Tryz.func86.trans (congrArg some (by kernel_rfl))⟩,
  f15 := ⟨Tryz.f87.name, by decide, Tryz.func87.trans (congrArg some (by kernel_rfl))⟩,
  f16 := ⟨Tryz.f88.name, by decide, Tryz.func88.trans (congrArg some (by kernel_rfl))⟩,
  f17 := ⟨Tryz.f89.name, by decide, Tryz.func89.trans (congrArg some (by kernel_rfl))⟩,
  f18 := ⟨Tryz.f90.name, by decide, Tryz.func90.trans (congrArg some (by kernel_rfl))⟩,
  f19 := Tryz.func91.trans (congrArg some (by kernel_rfl)),
  f20 := Tryz.func92.trans (congrArg some (by kernel_rfl)),
  f30 := ⟨Tryz.f113.name, by decide, Tryz.func113.trans (congrArg some (by kernel_rfl))⟩,
  f31 := Tryz.func114.trans (congrArg some (by kernel_rfl)),
  f32 := Tryz.func115.trans (congrArg some (by kernel_rfl)),
  f33 := ⟨Tryz.f116.name, by decide, Tryz.func116.trans (congrArg some (by kernel_rfl))⟩,
  f34 := ⟨Tryz.f117.name, by decide, Tryz.func117.trans (congrArg some (by kernel_rfl))⟩,
  f35 := ⟨Tryz.f111.name, by decide, Tryz.func111.trans (congrArg some (by kernel_rfl))⟩,
  f40 := ⟨Tryz.f135.name, by decide, Tryz.func135.trans (congrArg some (by kernel_rfl))⟩,
  t0 := Tryz.underlying0,
  a0 := Tryz.isAgg0,
  z0 := Tryz.sizeOf0,
  v0 := Tryz.zeroValue0,
  t3 := Tryz.underlying3,
  a3 := Tryz.isAgg3,
  z3 := Tryz.sizeOf3,
  v3 := Tryz.zeroValue3,
  t4 := Tryz.underlying4,
  a4 := Tryz.isAgg4,
  z4 := Tryz.sizeOf4,
  v4 := Tryz.zeroValue4,
  t5 := Tryz.underlying5,
  a5 := Tryz.isAgg5,
  z5 := Tryz.sizeOf5,
  v5 := Tryz.zeroValue5,
  t9 := Tryz.underlying9,
  a9 := Tryz.isAgg9,
  z9 := Tryz.sizeOf9,
  v9 := Tryz.zeroValue9,
  t22 := Tryz.underlying34,
  a22 := Tryz.isAgg34,
  z22 := Tryz.sizeOf34,
  v22 := Tryz.zeroValue34,
  t23 := Tryz.underlying34,
  a23 := Tryz.isAgg34,
  z23 := Tryz.sizeOf34,
  v23 := Tryz.zeroValue34,
  t25 := Tryz.underlying3,
  a25 := Tryz.isAgg3,
  z25 := Tryz.sizeOf3,
  v25 := Tryz.zeroValue3,
  t32 := Tryz.underlying122,
  a32 := Tryz.isAgg122,
  z32 := Tryz.sizeOf122,
  v32 := Tryz.zeroValue122,
  t35 := Tryz.underlying136,
  a35 := Tryz.isAgg136,
  z35 := Tryz.sizeOf136,
  v35 := Tryz.zeroValue136,
  t36 := Tryz.underlying137,
  a36 := Tryz.isAgg137,
  z36 := Tryz.sizeOf137,
  v36 := Tryz.zeroValue137,
  t41 := Tryz.underlying141,
  a41 := Tryz.isAgg141,
  z41 := Tryz.sizeOf141,
  v41 := Tryz.zeroValue141,
  t44 := Tryz.underlying144,
  a44 := Tryz.isAgg144,
  z44 := Tryz.sizeOf144,
  v44 := Tryz.zeroValue144,
  t46 := Tryz.underlying72,
  a46 := Tryz.isAgg72,
  z46 := Tryz.sizeOf72,
  v46 := Tryz.zeroValue72,
  t53 := Tryz.underlying164,
  a53 := Tryz.isAgg164,
  z53 := Tryz.sizeOf164,
  v53 := Tryz.zeroValue164,
  t57 := Tryz.underlying168,
  a57 := Tryz.isAgg168,
  z57 := Tryz.sizeOf168,
  v57 := Tryz.zeroValue168,
  t63 := Tryz.underlying189,
  a63 := Tryz.isAgg189,
  z63 := Tryz.sizeOf189,
  v63 := Tryz.zeroValue189,
  t64 := Tryz.underlying130,
  a64 := Tryz.isAgg130,
  z64 := Tryz.sizeOf130,
  v64 := Tryz.zeroValue130 }

theorem Lay.sorts (m : Nat) : AnyZI.SortsIn Tryz.prog Lay.sortedA_ren Fence.wide m :=
  ⟨fun blk off cap ss W hH hblk hsz => callsIn_wide.2 (AnyM.slices_Sort_int Lay.sortA blk off cap ss W hH hblk hsz),
   fun p cap W => callsIn_wide.2 (AnyM.slices_Sort_int_none Lay.sortA p cap W)⟩
theorem Lay.enters {g : Nat} (h : isKeys g = true) (args : Array Value) (w : World) : (callFunc g args).run Tryz.prog w = .ok (.enter g args) w := by
  unfold isKeys at h
  rw [Go.Gm.beq_iff] at h
  subst h
  exact Go.Proofs.enters_of Tryz.func46 (by kernel_rfl) rfl args w
theorem Lay.haskeys (g : Nat) (h : isKeys g = true) (Bm b nn : Nat) (D0 : DataW Unit) (R : Value → Option (DataW Unit × List MemPlace)) (w : World) (hBm : Bm < w.heap.size) (hm : w.cell? ⟨Bm, 0, none⟩ = some (.map (some b))) (hown : w.ownsMap Tryz.prog 3 R b nn D0) :
    SeqGives Fence.wide 2 Tryz.prog g #[.pointer (some ⟨Bm, 0, none⟩)] encZ (fun ss => ss.Perm (intKeys D0)) (Maps.size D0) w := by
  unfold isKeys at h
  rw [Go.Gm.beq_iff] at h
  subst h
  exact AnyZI.keys_gives (ρ := Lay.keysA_ren) { Lay.keysA with } Fence.wide _ trivial rfl (by omega) Bm b nn D0 w hBm hm hown
theorem Lay.nokeys (g : Nat) (h : isKeys g = true) (Bm : Nat) (w : World) (hBm : Bm < w.heap.size) (hm : w.cell? ⟨Bm, 0, none⟩ = some (.map none)) :
    SeqGives Fence.wide 2 Tryz.prog g #[.pointer (some ⟨Bm, 0, none⟩)] encZ (fun ss => ss = []) 0 w := by
  unfold isKeys at h
  rw [Go.Gm.beq_iff] at h
  subst h
  exact AnyZI.keys_gives_nil (ρ := Lay.keysA_ren) { Lay.keysA with } Fence.wide _ trivial rfl Bm w hBm hm
theorem nums : (Tryz.prog.funcs.toList.all fun fn => !(fn.name == "runtime.NumGoroutine")) = true := by kernel_rfl
theorem noNum : Go.Gm.NoNum Tryz.prog := Go.Gm.noNum_of nums
theorem sorted : Go.Gm.SortedOk Tryz.prog 27 3 isKeys := ⟨Tryz.underlying3, Go.Gm.enters_mk Tryz.func27 rfl noNum,
  fun g lb S N w hk hN hseq => AnyZI.sorted_in Lay.sortedA Fence.wide 5 trivial trivial trivial trivial rfl (by omega) (Lay.sorts _) (Go.Proofs.enters_of Tryz.func45 (by kernel_rfl) rfl) g lb trivial (Lay.enters hk) S N
    (Nat.le_trans hN (by decide)) (by omega) w hseq,
  Lay.haskeys, Lay.nokeys⟩
end Go.Proofs.YtafggfmidkpnbaaGreat
