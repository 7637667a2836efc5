import Derived.Test.YtdfeclpphaccnaaGreatRows
import Derived.WalkKit
import Derived.JoinedCond
namespace Go.Proofs.YtdfeclpphaccnaaGreat
theorem ckI : Tryz.pinned.checked.prog.inPlace 4 = [] := by kernel_rfl
theorem ckU : Tryz.pinned.checked.prog.unfollowed 4 = true := by kernel_rfl
theorem ckR : Tryz.pinned.checked.prog.recurses 4 = true := by kernel_rfl
theorem ckN : Tryz.pinned.checked.prog.varsNamed 4 = [] := by kernel_rfl
theorem ckK : joinedFacts Tryz.pinned.checked.prog 4 Tryz.f4 (Rows.OpenSpec.upto Rows.eraseKeptSpec).bare Rows.eraseKeptUptoRow = true := by
  unfold joinedFacts
  rw [ckI, ckU, ckR, ckN]
  kernel_rfl
end Go.Proofs.YtdfeclpphaccnaaGreat
