/-
  Levels: the library's slices.Sorted(maps.Keys(m)) at map[int]int: the shelf's contracts, laid at this program (the layings are printed by the kit's lay-plain.mjs).
-/
import Derived.Shelf.SlIterI.Nil
import Derived.Shelf.SortM.Plain
import Derived.Shelf.SortM.SortNone
import Derived.Test.YtbgiljognlbkhaaLvW
set_option linter.unusedSimpArgs false
set_option linter.unusedVariables false
namespace Go.Proofs.Ytbgiljognlbkhaa
open Go.Shelf Go.RowKit Go.Maps Go.Sort Go.Wx
def keysA_ren : Go.Shelf.Ren := ⟨fun | 7 => 43 | 10 => 49 | n => n, fun | 23 => 70 | 26 => 3 | 3 => 3 | 28 => 74 | 0 => 0 | 27 => 73 | 33 => 81 | 4 => 4 | n => n, fun | n => n⟩
theorem keysA : Go.Proofs.SlLaysZI.n7 Try.prog keysA_ren := {
  mixed := by kernel_rfl
  f7 := ⟨Try.f43.name, by decide, Try.func43.trans (congrArg some (by kernel_rfl))⟩
  f10 := ⟨Try.f49.name, by decide, Try.func49.trans (congrArg some (by kernel_rfl))⟩
  t0 := Try.underlying0
  a0 := Try.isAgg0
  z0 := Try.sizeOf0
  v0 := Try.zeroValue0
  t4 := Try.underlying4
  a4 := Try.isAgg4
  z4 := Try.sizeOf4
  v4 := Try.zeroValue4
  t23 := Try.underlying70
  a23 := Try.isAgg70
  z23 := Try.sizeOf70
  v23 := Try.zeroValue70
  t26 := Try.underlying3
  a26 := Try.isAgg3
  z26 := Try.sizeOf3
  v26 := Try.zeroValue3
  t27 := Try.underlying73
  a27 := Try.isAgg73
  z27 := Try.sizeOf73
  v27 := Try.zeroValue73
  t28 := Try.underlying74
  a28 := Try.isAgg74
  z28 := Try.sizeOf74
  v28 := Try.zeroValue74
  t33 := Try.underlying81
  a33 := Try.isAgg81
  z33 := Try.sizeOf81
  v33 := Try.zeroValue81 }
def sortedA_ren : Go.Shelf.Ren := ⟨fun | 6 => 42 | 8 => 47 | 9 => 48 | 11 => 50 | 13 => 52 | 12 => 51 | 23 => 62 | 24 => 63 | 14 => 53 | 15 => 54 | 16 => 55 | 17 => 56 | 18 => 57 | 19 => 58 | 20 => 59 | 21 => 60 | 22 => 61 | 25 => 64 | 26 => 65 | 27 => 66 | 28 => 67 | 29 => 68 | 30 => 69 | 31 => 70 | n => n, fun | 26 => 3 | 28 => 74 | 24 => 23 | 0 => 0 | 3 => 3 | 37 => 85 | 48 => 95 | 50 => 97 | 4 => 4 | 40 => 88 | 39 => 87 | 45 => 34 | 5 => 5 | 9 => 9 | 51 => 98 | 55 => 102 | 57 => 104 | 58 => 105 | 33 => 81 | n => n, fun | n => n⟩
theorem sortedA : Go.Proofs.SlLaysZI.n6 Try.prog sortedA_ren := {
  mixed := by kernel_rfl
  f6 := ⟨Try.f42.name, by decide, Try.func42.trans (congrArg some (by kernel_rfl))⟩
  f8 := ⟨Try.f47.name, by decide, Try.func47.trans (congrArg some (by kernel_rfl))⟩
  f11 := ⟨Try.f50.name, by decide, Try.func50.trans (congrArg some (by kernel_rfl))⟩
  t0 := Try.underlying0
  a0 := Try.isAgg0
  z0 := Try.sizeOf0
  v0 := Try.zeroValue0
  t24 := Try.underlying23
  a24 := Try.isAgg23
  z24 := Try.sizeOf23
  v24 := Try.zeroValue23
  t26 := Try.underlying3
  a26 := Try.isAgg3
  z26 := Try.sizeOf3
  v26 := Try.zeroValue3
  t28 := Try.underlying74
  a28 := Try.isAgg74
  z28 := Try.sizeOf74
  v28 := Try.zeroValue74
  i26 := by kernel_rfl }
def sortA_ren : Go.Shelf.Ren := ⟨fun | 5 => 48 | 8 => 52 | 7 => 51 | 19 => 62 | 20 => 63 | 10 => 53 | 11 => 54 | 12 => 55 | 13 => 56 | 14 => 57 | 15 => 58 | 16 => 59 | 17 => 60 | 18 => 61 | 30 => 64 | 31 => 65 | 32 => 66 | 33 => 67 | 34 => 68 | 35 => 69 | 40 => 70 | n => n, fun | 23 => 23 | 25 => 3 | 3 => 3 | 32 => 85 | 22 => 23 | 0 => 0 | 44 => 95 | 46 => 97 | 4 => 4 | 36 => 88 | 35 => 87 | 41 => 34 | 5 => 5 | 9 => 9 | 53 => 98 | 57 => 102 | 63 => 104 | 64 => 105 | n => n, fun | n => n⟩
theorem sortA : Go.Proofs.SlLaysM.n5 Try.prog sortA_ren := {
  mixed := by kernel_rfl
  f5 := ⟨Try.f48.name, by decide, Try.func48.trans (congrArg some (by kernel_rfl))⟩
  f7 := ⟨Try.f51.name, by decide, Try.func51.trans (congrArg some (by kernel_rfl))⟩
  f8 := Try.func52.trans (congrArg some (by kernel_rfl))
  f10 := ⟨Try.f53.name, by decide, Try.func53.trans (congrArg some (by kernel_rfl))⟩
  f11 := ⟨Try.f54.name, by decide, Try.func54.trans (congrArg some (by kernel_rfl))⟩
  f12 := ⟨Try.f55.name, by decide, Try.func55.trans (congrArg some (by kernel_rfl))⟩
  f13 := ⟨Try.f56.name, by decide, Try.func56.trans (congrArg some (by kernel_rfl))⟩
  f14 := ⟨Try.f57.name, by decide, Try.func57.trans (congrArg some (by kernel_rfl))⟩
  f15 := ⟨Try.f58.name, by decide, Try.func58.trans (congrArg some (by kernel_rfl))⟩
  f16 := ⟨Try.f59.name, by decide, Try.func59.trans (congrArg some (by kernel_rfl))⟩
  f17 := ⟨Try.f60.name, by decide, Try.func60.trans (congrArg some (by kernel_rfl))⟩
  f18 := ⟨Try.f61.name, by decide, Try.func61.trans (congrArg some (by kernel_rfl))⟩
  f19 := Try.func62.trans (congrArg some (by kernel_rfl))
  f20 := Try.func63.trans (congrArg some (by kernel_rfl))
  f30 := ⟨Try.f64.name, by decide, Try.func64.trans (congrArg some (by kernel_rfl))⟩
  f31 := Try.func65.trans (congrArg some (by kernel_rfl))
  f32 := Try.func66.trans (congrArg some (by kernel_rfl))
  f33 := ⟨Try.f67.name, by decide, Try.func67.trans (congrArg some (by kernel_rfl))⟩
  f34 := ⟨Try.f68.name, by decide, Try.func68.trans (congrArg some (by kernel_rfl))⟩
  f35 := ⟨Try.f69.name, by decide, Try.func69.trans (congrArg some (by kernel_rfl))⟩
  f40 := ⟨Try.f70.name, by decide, Try.func70.trans (congrArg some (by kernel_rfl))⟩
  t0 := Try.underlying0
  a0 := Try.isAgg0
  z0 := Try.sizeOf0
  v0 := Try.zeroValue0
  t3 := Try.underlying3
  a3 := Try.isAgg3
  z3 := Try.sizeOf3
  v3 := Try.zeroValue3
  t4 := Try.underlying4
  a4 := Try.isAgg4
  z4 := Try.sizeOf4
  v4 := Try.zeroValue4
  t5 := Try.underlying5
  a5 := Try.isAgg5
  z5 := Try.sizeOf5
  v5 := Try.zeroValue5
  t9 := Try.underlying9
  a9 := Try.isAgg9
  z9 := Try.sizeOf9
  v9 := Try.zeroValue9
  t22 := Try.underlying23
  a22 := Try.isAgg23
  z22 := Try.sizeOf23
  v22 := Try.zeroValue23
  t23 := Try.underlying23
  a23 := Try.isAgg23
  z23 := Try.sizeOf23
  v23 := Try.zeroValue23
  t25 := Try.underlying3
  a25 := Try.isAgg3
  z25 := Try.sizeOf3
  v25 := Try.zeroValue3
  t32 := Try.underlying85
  a32 := Try.isAgg85
  z32 := Try.sizeOf85
  v32 := Try.zeroValue85
  t35 := Try.underlying87
  a35 := Try.isAgg87
  z35 := Try.sizeOf87
  v35 := Try.zeroValue87
  t36 := Try.underlying88
  a36 := Try.isAgg88
  z36 := Try.sizeOf88
  v36 := Try.zeroValue88
  t41 := Try.underlying34
  a41 := Try.isAgg34
  z41 := Try.sizeOf34
  v41 := Try.zeroValue34
  t44 := Try.underlying95
  a44 := Try.isAgg95
  z44 := Try.sizeOf95
  v44 := Try.zeroValue95
  t46 := Try.underlying97
  a46 := Try.isAgg97
  z46 := Try.sizeOf97
  v46 := Try.zeroValue97
  t53 := Try.underlying98
  a53 := Try.isAgg98
  z53 := Try.sizeOf98
  v53 := Try.zeroValue98
  t57 := Try.underlying102
  a57 := Try.isAgg102
  z57 := Try.sizeOf102
  v57 := Try.zeroValue102
  t63 := Try.underlying104
  a63 := Try.isAgg104
  z63 := Try.sizeOf104
  v63 := Try.zeroValue104
  t64 := Try.underlying105
  a64 := Try.isAgg105
  z64 := Try.sizeOf105
  v64 := Try.zeroValue105 }

theorem sortsA (m : Nat) : AnyZI.SortsIn Try.prog sortedA_ren Fence.wide m :=
  ⟨fun blk off cap ss W hH hblk hsz => callsIn_wide.2 (AnyM.slices_Sort_int sortA blk off cap ss W hH hblk hsz),
   fun p cap W => callsIn_wide.2 (AnyM.slices_Sort_int_none sortA p cap W)⟩

theorem below_kp {w w' : World} (h : Below w.heap.size w w') : Kp [] w w' := ⟨h.os, h.tape, h.output, h.size, fun b hb _ => h.block b hb⟩

theorem keys_ct (b : Nat) (w : World) : CallOk Try.prog 43 ∧ Calls Try.prog 43 #[.map (some b)] w (fun e w' => e = .returned (.func (.func 49) #[] #[.pointer (some ⟨w.heap.size, 0, none⟩)]) ∧ w' = w.alloc (.cells #[.map (some b)] 70)) :=
  ⟨⟨_, Try.func43, rfl, by decide⟩, callsIn_wide.1 (AnyZI.keys_in keysA Fence.wide 5 trivial rfl (some b) w)⟩

theorem sorted_ct {H : Type} {b n : Nat} {D : DataW H} {R : Value → Option (DataW H × List MemPlace)} {w : World} (hown : w.ownsMap Try.prog 3 R b n D) (hmax : Maps.size D ≤ maxLen) (hbytes : Maps.size D * 8 ≤ 140737488355328) :
    CallOk Try.prog 42 ∧ Calls Try.prog 42 #[.func (.func 49) #[] #[.pointer (some ⟨w.heap.size, 0, none⟩)]] (w.alloc (.cells #[.map (some b)] 70)) (fun e w' => ∃ (v : Value) (ss : List Int), e = .returned v ∧ ss.Perm (intKeys D) ∧
      w'.ownsRow (w.heap.size + 1) 3 1 v ss.length ((ss.mergeSort (fun x y => decide (x ≤ y))).map (Value.int .i64)) ∧ Kp [] (w.alloc (.cells #[.map (some b)] 70)) w') := by
  refine ⟨⟨_, Try.func42, rfl, by decide⟩, ?_⟩
  have hbl := hown.lt
  have hseq : SeqGives Fence.wide 2 Try.prog 49 #[.pointer (some ⟨w.heap.size, 0, none⟩)] encZ (fun ss => ss.Perm (intKeys D)) (Maps.size D) (w.alloc (.cells #[.map (some b)] 70)) :=
    AnyZI.keys_gives (ρ := keysA_ren) { keysA with } Fence.wide _ trivial rfl (by omega) w.heap.size b n D _ (by simp) (by simp) (by
      obtain ⟨es, clock, hb, Ft, hs, hD⟩ := hown
      exact ⟨es, clock, (Below.heap_alloc _ _ b hbl).trans hb, Ft, hs, hD⟩)
  have cS := AnyZI.sorted_in sortedA Fence.wide 5 trivial trivial trivial trivial rfl (by omega) (sortsA _) (enters_of Try.func48 (by kernel_rfl) rfl) 49 #[.pointer (some ⟨w.heap.size, 0, none⟩)] trivial (enters_of Try.func49 (by kernel_rfl) rfl) _ _ hmax hbytes _ hseq
  change CallsIn _ _ Try.prog 42 _ _ _ at cS
  refine (callsIn_wide.1 cS).mono ?_
  rintro e w' ⟨v, ss, rfl, hS, hrow, _, hb⟩
  rw [World.size_alloc] at hrow
  exact ⟨v, ss, rfl, hS, hrow, below_kp hb⟩
end Go.Proofs.Ytbgiljognlbkhaa
