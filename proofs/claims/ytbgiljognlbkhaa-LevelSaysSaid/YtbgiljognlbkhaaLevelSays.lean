/-
  PROVED HERE: 'Rows.LevelSaysSaid': whatever LevelSays is given, it returns true, and what it was given reads as it did.
  The theorem: 'levelSays_said'. The walk is in the texts that this one imports.
-/
import Derived.Test.YtbgiljognlbkhaaLwE
import Derived.Test.YtbgiljognlbkhaaLvO
import Derived.WalkKit
set_option linter.unusedSimpArgs false
set_option linter.unusedVariables false
namespace Go.Proofs.Ytbgiljognlbkhaa
open Go.Wx Lv Go.ChangeShapes Go.WideShapes Go.ChangeAt Go.RowKit

set_option maxRecDepth 100000 in
theorem levelSays_lifted (os : Os) (started : os.Started) (H : Type) (enc : TypeId × Value → H) :
    ReturnsInHanded {} Try.checked os 10 .any (Rows.levelSaysSpec.pre6 enc Try.prog Try.f10 Rows.levelSaysRow.domain false) (Rows.levelSaysSpec.post enc Try.prog Try.f10 false true false false) := by
  refine returnsInHanded_of_change (C := Try.checked) (by kernel_rfl) started (by kernel_rfl) Try.func10
    (ChangeSpec.witness6 (enc := enc) (C := Try.checked) false ⟨#[], #[.agg #[.slice none 0 0, .slice none 0 0, .int .i64 0, .slice none 0 0], .int .i64 0], []⟩ 8 (by kernel_rfl) (by kernel_rfl) (by kernel_rfl) (by kernel_rfl)) ?_
  intro W base args ds gs before hval0 hW _ _
  have hval : ∀ (j : Nat) t v, Try.f10.params[j]? = some t → args[j]? = some v → Value.okWide Try.prog W .any base t v := hval0
  have hW' := hW
  obtain ⟨p, q, hA0, hV, rfl, hfz, hnd⟩ := hW
  have hA : DataW.TrodAll enc Try.prog W 0 (fun _ => true) true Try.f10.params.toList args.toList ds p := hA0
  rw [Try.params10] at hA hval
  obtain ⟨v0, v1, d0, d1, p0, p1, rfl, rfl, rfl, h0, h1⟩ := trodAll_two hA
  obtain ⟨la, lb, by0, vals, aa, ab, av, ca, cb, cv, rfl, ha, hb, hby, hv⟩ := open_two (hval 0 56 v0 rfl rfl) h0
  obtain ⟨vars, rfl, rfl, rfl, wvars⟩ := open_int Try.underlying3 (hval 1 3 v1 rfl rfl) h1
  refine (levelSays_ct la lb by0 vars vals aa ab av ca cb cv W ha hb hby hv).mono fun e W' ⟨he, hk⟩ => ?_
  subst he
  exact ⟨_, rfl, post_true (by kernel_rfl) (by kernel_rfl) (by kernel_rfl) Try.underlying4 hW' rfl rfl rfl rfl hk⟩

theorem levelSays_said : Rows.LevelSaysSaid :=
  OpenClaim.holds_of_wide 10 Try.f10 rfl rfl rfl rfl rfl rfl rfl ⟨rfl, rfl, rfl, rfl, rfl⟩ rfl rfl rfl rfl rfl (by kernel_rfl) Try.func10 (by kernel_rfl)
    (of_decide_eq_true (by kernel_rfl)) (by unfold Func.isWrapper; first | (rw [if_pos (by decide +kernel)]; kernel_rfl) | (rw [if_neg (by decide +kernel)]; exact ⟨rfl, rfl⟩))
    (fun os started H enc _ => levelSays_lifted os started H enc)

#print axioms levelSays_said
end Go.Proofs.Ytbgiljognlbkhaa
