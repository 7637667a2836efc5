import Derived.Test.YtdfeclpphaccnaaGreatRows
import Derived.WalkKit
import Derived.JoinedCond
namespace Go.Proofs.YtdfeclpphaccnaaGreat
theorem ckI : Tryz.pinned.checked.prog.inPlace 3 = [] := by kernel_rfl
theorem ckU : Tryz.pinned.checked.prog.unfollowed 3 = true := by kernel_rfl
theorem ckR : Tryz.pinned.checked.prog.recurses 3 = true := by kernel_rfl
theorem ckN : Tryz.pinned.checked.prog.varsNamed 3 = [] := by kernel_rfl
theorem ckK : joinedFacts Tryz.pinned.checked.prog 3 Tryz.f3 (Rows.OpenSpec.upto Rows.eraseSaysSpec).bare Rows.eraseSaysUptoRow = true := by
  unfold joinedFacts
  rw [ckI, ckU, ckR, ckN]
  kernel_rfl
end Go.Proofs.YtdfeclpphaccnaaGreat
