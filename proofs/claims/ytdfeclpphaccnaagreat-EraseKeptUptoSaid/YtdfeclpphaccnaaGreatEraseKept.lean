/-
  PROVED HERE: 'Rows.EraseKeptUptoSaid': whatever EraseKept is given of bulk at most 1048576, it returns true, and what it was given reads as it did.
  The theorem: 'eraseKept_said'. The walk is in the texts that this one imports.
-/
import Derived.Test.YtdfeclpphaccnaaGreatMk16
import Derived.Test.YtdfeclpphaccnaaGreatMk17
import Derived.WalkKit
set_option linter.unusedSimpArgs false
set_option linter.unusedVariables false
namespace Go.Proofs.YtdfeclpphaccnaaGreat
open Go.Q
open Go.Wx Cd Tm Lv Go.ChangeShapes Go.WideShapes Go.ChangeAt Go.RowKit

set_option maxRecDepth 100000 in
theorem QO (os : Os) (started : os.Started) (H : Type) (enc : TypeId × Value → H) (F : Stop.Interp) :
    ReturnsInHanded {} Tryz.checked os 4 .any ((Rows.OpenSpec.upto Rows.eraseKeptSpec).pre6 enc Tryz.prog Tryz.f4 Rows.eraseKeptUptoRow.domain false) (((Rows.OpenSpec.upto Rows.eraseKeptSpec).at F).post enc Tryz.prog Tryz.f4 false true false false) := by
  refine returnsInHanded_of_cond (C := Tryz.checked) (s := Rows.OpenSpec.upto Rows.eraseKeptSpec) (k := Rows.uptoSmall) rfl (by kernel_rfl) started (by kernel_rfl) Tryz.func4
    (OpenSpec.witness (enc := enc) (C := Tryz.checked) (s := Rows.OpenSpec.upto Rows.eraseKeptSpec) (k := Rows.uptoSmall) rfl false ⟨#[], #[.agg #[.int .i64 0, .slice none 0 0, .slice none 0 0, .int .i64 0, .slice none 0 0], .agg #[.int .i64 0, .int .i64 0], .int .i64 0], []⟩ 8 (by kernel_rfl) (by kernel_rfl) (by kernel_rfl)
      (x := ([.agg [.lit (.int .i64 0), .nil, .nil, .lit (.int .i64 0), .nil], .agg [.lit (.int .i64 0), .lit (.int .i64 0)], .lit (.int .i64 0)], [], [])) (by kernel_rfl) rfl (by kernel_rfl)) ?_
  intro W base args ds gs before hval0 hW _ hbig _
  have hval : ∀ (j : Nat) t v, Tryz.f4.params[j]? = some t → args[j]? = some v → Value.okWide Tryz.prog W .any base t v := hval0
  have hW' := hW
  obtain ⟨p, q, hA0, hV, rfl, hfz, hnd⟩ := hW
  have hA : DataW.TrodAll enc Tryz.prog W 0 (fun _ => true) true Tryz.f4.params.toList args.toList ds p := hA0
  rw [Tryz.params4] at hA hval
  obtain ⟨v0, v1, v2, d0, d1, d2, p0, p1, p2, rfl, rfl, rfl, h0, h1, h2⟩ := trodAll_three hA
  have hbulk : Rows.uptoBulk d0 ≤ 1048576 := by
    have := P9 hbig
    rw [Qa] at this
    have h2 := BS (d := d0) (l := [d0, d1, d2]) (by simp)
    omega
  obtain ⟨x, hx⟩ := QL (hval 0 26 v0 rfl rfl) h0 hbulk
  obtain ⟨a, b, rfl⟩ := QN (hval 1 39 v1 rfl rfl) h1
  obtain ⟨fu, rfl, rfl, rfl, wf⟩ := open_int Tryz.underlying3 (hval 2 3 v2 rfl rfl) h2
  refine (QM hx a b fu).mono fun e W' ⟨he, hk⟩ => ?_
  subst he
  exact ⟨_, rfl, P6 (by kernel_rfl) (by kernel_rfl) (by kernel_rfl) Tryz.underlying4 hW' rfl rfl rfl rfl hk⟩

theorem eraseKept_said : Rows.EraseKeptUptoSaid :=
  OpenClaim.holds_of_cond 4 Tryz.f4 rfl rfl rfl rfl rfl rfl rfl ⟨rfl, rfl, rfl, rfl, rfl⟩ rfl rfl rfl rfl rfl (by kernel_rfl) Tryz.func4 ckK
    (of_decide_eq_true (by kernel_rfl)) (by unfold Func.isWrapper; first | (rw [if_pos (by decide +kernel)]; kernel_rfl) | (rw [if_neg (by decide +kernel)]; exact ⟨rfl, rfl⟩))
    (fun os started H enc _ F => QO os started H enc F)

#print axioms eraseKept_said
end Go.Proofs.YtdfeclpphaccnaaGreat
