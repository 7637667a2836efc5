/-
  PROVED HERE: 'Rows.EraseSaysUptoSaid': whatever EraseSays is given of bulk at most 1048576, it returns true, and what it was given reads as it did.
  The theorem: 'eraseSays_said'. The walk is in the texts that this one imports.
-/
import Derived.Test.YtdfeclpphaccnaaGreatMs16
import Derived.Test.YtdfeclpphaccnaaGreatMs17
import Derived.WalkKit
set_option linter.unusedSimpArgs false
set_option linter.unusedVariables false
namespace Go.Proofs.YtdfeclpphaccnaaGreat
open Go.Q
open Go.Wx Cd Tm Lv Go.ChangeShapes Go.WideShapes Go.ChangeAt Go.RowKit

set_option maxRecDepth 100000 in
theorem QO (os : Os) (started : os.Started) (H : Type) (enc : TypeId × Value → H) (F : Stop.Interp) :
    ReturnsInHanded {} Tryz.checked os 3 .any ((Rows.OpenSpec.upto Rows.eraseSaysSpec).pre6 enc Tryz.prog Tryz.f3 Rows.eraseSaysUptoRow.domain false) (((Rows.OpenSpec.upto Rows.eraseSaysSpec).at F).post enc Tryz.prog Tryz.f3 false true false false) := by
  refine returnsInHanded_of_cond (C := Tryz.checked) (s := Rows.OpenSpec.upto Rows.eraseSaysSpec) (k := Rows.uptoSmall) rfl (by kernel_rfl) started (by kernel_rfl) Tryz.func3
    (OpenSpec.witness (enc := enc) (C := Tryz.checked) (s := Rows.OpenSpec.upto Rows.eraseSaysSpec) (k := Rows.uptoSmall) rfl false ⟨#[], #[.agg #[.int .i64 0, .slice none 0 0, .slice none 0 0, .int .i64 0, .slice none 0 0, .slice none 0 0, .slice none 0 0, .int .i64 0]], []⟩ 8 (by kernel_rfl) (by kernel_rfl) (by kernel_rfl)
      (x := ([.agg [.agg [.lit (.int .i64 0), .nil, .nil, .lit (.int .i64 0), .nil], .nil, .nil, .lit (.int .i64 0)]], [], [])) (by kernel_rfl) rfl (by kernel_rfl)) ?_
  intro W base args ds gs before hval0 hW _ hbig _
  have hval : ∀ (j : Nat) t v, Tryz.f3.params[j]? = some t → args[j]? = some v → Value.okWide Tryz.prog W .any base t v := hval0
  have hW' := hW
  obtain ⟨p, q, hA0, hV, rfl, hfz, hnd⟩ := hW
  have hA : DataW.TrodAll enc Tryz.prog W 0 (fun _ => true) true Tryz.f3.params.toList args.toList ds p := hA0
  rw [Tryz.params3] at hA hval
  obtain ⟨v0, d0, rfl, rfl, h0⟩ := trodAll_one hA
  have hbulk : Rows.uptoBulk d0 ≤ 1048576 := by
    have := Qc hbig
    rw [Qd] at this
    have h2 := B3 (d := d0) (l := [d0]) (by simp)
    omega
  obtain ⟨x, hx⟩ := QN (hval 0 31 v0 rfl rfl) h0 hbulk
  refine (QL hx).mono fun e W' ⟨he, hk⟩ => ?_
  subst he
  exact ⟨_, rfl, P9 (by kernel_rfl) (by kernel_rfl) (by kernel_rfl) Tryz.underlying4 hW' rfl rfl rfl rfl hk⟩

theorem eraseSays_said : Rows.EraseSaysUptoSaid :=
  OpenClaim.holds_of_cond 3 Tryz.f3 rfl rfl rfl rfl rfl rfl rfl ⟨rfl, rfl, rfl, rfl, rfl⟩ rfl rfl rfl rfl rfl (by kernel_rfl) Tryz.func3 ckK
    (of_decide_eq_true (by kernel_rfl)) (by unfold Func.isWrapper; first | (rw [if_pos (by decide +kernel)]; kernel_rfl) | (rw [if_neg (by decide +kernel)]; exact ⟨rfl, rfl⟩))
    (fun os started H enc _ F => QO os started H enc F)

#print axioms eraseSays_said
end Go.Proofs.YtdfeclpphaccnaaGreat
