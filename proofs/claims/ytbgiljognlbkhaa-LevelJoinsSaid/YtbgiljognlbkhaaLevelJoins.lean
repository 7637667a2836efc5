/-
  PROVED HERE: 'Rows.LevelJoinsSaid': whatever LevelJoins is given, it returns true, and what it was given reads as it did.
  The theorem: 'levelJoins_said'. The walk is in the texts that this one imports.
-/
import Derived.Test.YtbgiljognlbkhaaLwF
import Derived.Test.YtbgiljognlbkhaaLvO
import Derived.WalkKit
set_option linter.unusedSimpArgs false
set_option linter.unusedVariables false
namespace Go.Proofs.Ytbgiljognlbkhaa
open Go.Wx Lv Go.ChangeShapes Go.WideShapes Go.ChangeAt Go.RowKit

set_option maxRecDepth 100000 in
theorem levelJoins_lifted (os : Os) (started : os.Started) (H : Type) (enc : TypeId × Value → H) :
    ReturnsInHanded {} Try.checked os 8 .any (Rows.levelJoinsSpec.pre6 enc Try.prog Try.f8 Rows.levelJoinsRow.domain false) (Rows.levelJoinsSpec.post enc Try.prog Try.f8 false true false false) := by
  refine returnsInHanded_of_change (C := Try.checked) (by kernel_rfl) started (by kernel_rfl) Try.func8
    (ChangeSpec.witness6 (enc := enc) (C := Try.checked) false ⟨#[], #[.agg #[.int .i64 0, .slice none 0 0, .slice none 0 0, .int .i64 0, .int .i64 0], .slice none 0 0, .slice none 0 0, .slice none 0 0], []⟩ 8 (by kernel_rfl) (by kernel_rfl) (by kernel_rfl) (by kernel_rfl)) ?_
  intro W base args ds gs before hval0 hW _ _
  have hval : ∀ (j : Nat) t v, Try.f8.params[j]? = some t → args[j]? = some v → Value.okWide Try.prog W .any base t v := hval0
  have hW' := hW
  obtain ⟨p, q, hA0, hV, rfl, hfz, hnd⟩ := hW
  have hA : DataW.TrodAll enc Try.prog W 0 (fun _ => true) true Try.f8.params.toList args.toList ds p := hA0
  rw [Try.params8] at hA hval
  obtain ⟨v0, v1, v2, v3, d0, d1, d2, d3, p0, p1, p2, p3, rfl, rfl, rfl, h0, h1, h2, h3⟩ := trodAll_four hA
  obtain ⟨x, ao, av, co, cv, rfl, hx⟩ := open_ord5 (hval 0 25 v0 rfl rfl) h0
  obtain ⟨aa, la, ca, rfl, ha, na⟩ := open_level (hval 1 27 v1 rfl rfl) h1
  obtain ⟨ab, lb, cb, rfl, hb, nb⟩ := open_level (hval 2 27 v2 rfl rfl) h2
  obtain ⟨ac, lc, cc, rfl, hc, nc⟩ := open_level (hval 3 27 v3 rfl rfl) h3
  refine (levelJoins_ct x la lb lc ao av aa ab ac co cv ca cb cc W hx.list ha hb hc).mono fun e W' ⟨he, hk⟩ => ?_
  subst he
  exact ⟨_, rfl, post_true (by kernel_rfl) (by kernel_rfl) (by kernel_rfl) Try.underlying4 hW' rfl rfl rfl rfl hk⟩

theorem levelJoins_said : Rows.LevelJoinsSaid :=
  OpenClaim.holds_of_wide 8 Try.f8 rfl rfl rfl rfl rfl rfl rfl ⟨rfl, rfl, rfl, rfl, rfl⟩ rfl rfl rfl rfl rfl (by kernel_rfl) Try.func8 (by kernel_rfl)
    (of_decide_eq_true (by kernel_rfl)) (by unfold Func.isWrapper; first | (rw [if_pos (by decide +kernel)]; kernel_rfl) | (rw [if_neg (by decide +kernel)]; exact ⟨rfl, rfl⟩))
    (fun os started H enc _ => levelJoins_lifted os started H enc)

#print axioms levelJoins_said
end Go.Proofs.Ytbgiljognlbkhaa
