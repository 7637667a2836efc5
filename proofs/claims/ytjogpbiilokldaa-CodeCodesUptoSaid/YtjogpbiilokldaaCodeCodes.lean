/-
  PROVED HERE: 'Rows.CodeCodesUptoSaid': whatever CodeCodes is given of bulk at most 1048576, it returns true, and what it was given reads as it did.
  The theorem: 'codeCodes_said'. The walk is in the texts that this one imports.
-/
import Derived.Test.YtjogpbiilokldaaCdZt
import Derived.WalkKit
set_option linter.unusedSimpArgs false
set_option linter.unusedVariables false
namespace Go.Proofs.Ytjogpbiilokldaa
open Go.Wx Cd Go.ChangeShapes Go.WideShapes Go.ChangeAt Go.RowKit

set_option maxRecDepth 100000 in
theorem codeCodes_lifted (os : Os) (started : os.Started) (H : Type) (enc : TypeId × Value → H) (F : Stop.Interp) :
    ReturnsInHanded {} Try.checked os 4 .any ((Rows.OpenSpec.upto Rows.codeCodesSpec).pre6 enc Try.prog Try.f4 Rows.codeCodesUptoRow.domain false) (((Rows.OpenSpec.upto Rows.codeCodesSpec).at F).post enc Try.prog Try.f4 false true false false) := by
  refine returnsInHanded_of_cond (C := Try.checked) (s := Rows.OpenSpec.upto Rows.codeCodesSpec) (k := Rows.uptoSmall) rfl (by kernel_rfl) started (by kernel_rfl) Try.func4
    (OpenSpec.witness (enc := enc) (C := Try.checked) (s := Rows.OpenSpec.upto Rows.codeCodesSpec) (k := Rows.uptoSmall) rfl false ⟨#[], #[.agg #[.int .i64 0, .slice none 0 0, .slice none 0 0, .slice none 0 0, .slice none 0 0], .slice none 0 0], []⟩ 8 (by kernel_rfl) (by kernel_rfl) (by kernel_rfl)
      (x := ([.agg [.lit (.int .i64 0), .nil, .nil, .nil, .nil], .nil], [], [])) (by kernel_rfl) rfl (by kernel_rfl)) ?_
  intro W base args ds gs before hval0 hW _ hbig _
  have hval : ∀ (j : Nat) t v, Try.f4.params[j]? = some t → args[j]? = some v → Value.okWide Try.prog W .any base t v := hval0
  have hW' := hW
  obtain ⟨p, q, hA0, hV, rfl, hfz, hnd⟩ := hW
  have hA : DataW.TrodAll enc Try.prog W 0 (fun _ => true) true Try.f4.params.toList args.toList ds p := hA0
  rw [Try.params4] at hA hval
  obtain ⟨v0, v1, d0, d1, p0, p1, rfl, rfl, rfl, h0, h1⟩ := trodAll_two hA
  have hbulk : ∀ (j : Nat) (d : DataW H), [d0, d1][j]? = some d → Rows.uptoBulk d ≤ 1048576 := fun j d hd => by
    have := bulk_of hbig
    rw [bulk_app] at this
    have h2 := bulk_part (List.mem_of_getElem? hd)
    omega
  obtain ⟨cs0, x0, rfl, hx0⟩ := open_cod (hval 0 28 v0 rfl rfl) h0 (hbulk 0 d0 rfl)
  obtain ⟨a1, l1, c1, rfl, hl1⟩ := open_bytes (hval 1 33 v1 rfl rfl) h1 (hbulk 1 d1 rfl)
  refine (codeCodes_ct (Old.sub W) hx0 l1 a1 c1 hl1).mono fun e W' ⟨he, hk⟩ => ?_
  subst he
  exact ⟨_, rfl, post_true (by kernel_rfl) (by kernel_rfl) (by kernel_rfl) Try.underlying4 hW' rfl rfl rfl rfl hk⟩

theorem codeCodes_said : Rows.CodeCodesUptoSaid :=
  OpenClaim.holds_of_cond 4 Try.f4 rfl rfl rfl rfl rfl rfl rfl ⟨rfl, rfl, rfl, rfl, rfl⟩ rfl rfl rfl rfl rfl (by kernel_rfl) Try.func4 (by kernel_rfl)
    (of_decide_eq_true (by kernel_rfl)) (by unfold Func.isWrapper; first | (rw [if_pos (by decide +kernel)]; kernel_rfl) | (rw [if_neg (by decide +kernel)]; exact ⟨rfl, rfl⟩))
    (fun os started H enc _ F => codeCodes_lifted os started H enc F)

#print axioms codeCodes_said
end Go.Proofs.Ytjogpbiilokldaa
