/-
  PROVED HERE: 'Rows.FamilySaysUptoSaid': whatever FamilySays is given of bulk at most 1048576, it returns true, and what it was given reads as it did.
  The theorem: 'familySays_said'. The walk is in the texts that this one imports.
-/
import Derived.Test.YtfjfpkkpfbadoaaGreatMf16
import Derived.WalkKit
set_option linter.unusedSimpArgs false
set_option linter.unusedVariables false
namespace Go.Proofs.YtfjfpkkpfbadoaaGreat
open Go.Q
open Go.Wx Cd Tm Lv Go.ChangeShapes Go.WideShapes Go.ChangeAt Go.RowKit

set_option maxRecDepth 100000 in
theorem QA (os : Os) (started : os.Started) (H : Type) (enc : TypeId × Value → H) (F : Stop.Interp) :
    ReturnsInHanded {} Tryz.checked os 3 .any ((Rows.OpenSpec.upto Rows.familySaysSpec).pre6 enc Tryz.prog Tryz.f3 Rows.familySaysUptoRow.domain false) (((Rows.OpenSpec.upto Rows.familySaysSpec).at F).post enc Tryz.prog Tryz.f3 false true false false) := by
  refine returnsInHanded_of_cond (C := Tryz.checked) (s := Rows.OpenSpec.upto Rows.familySaysSpec) (k := Rows.uptoSmall) rfl (by kernel_rfl) started (by kernel_rfl) Tryz.func3
    (OpenSpec.witness (enc := enc) (C := Tryz.checked) (s := Rows.OpenSpec.upto Rows.familySaysSpec) (k := Rows.uptoSmall) rfl false ⟨#[], #[.agg #[.int .i64 0, .slice none 0 0, .slice none 0 0, .int .i64 0, .slice none 0 0], .int .i64 0, .int .i64 0], []⟩ 8 (by kernel_rfl) (by kernel_rfl) (by kernel_rfl)
      (x := ([.agg [.lit (.int .i64 0), .nil, .nil, .lit (.int .i64 0), .nil], .lit (.int .i64 0), .lit (.int .i64 0)], [], [])) (by kernel_rfl) rfl (by kernel_rfl)) ?_
  intro W base args ds gs before hval0 hW _ hbig _
  have hval : ∀ (j : Nat) t v, Tryz.f3.params[j]? = some t → args[j]? = some v → Value.okWide Tryz.prog W .any base t v := hval0
  have hW' := hW
  obtain ⟨p, q, hA0, hV, rfl, hfz, hnd⟩ := hW
  have hA : DataW.TrodAll enc Tryz.prog W 0 (fun _ => true) true Tryz.f3.params.toList args.toList ds p := hA0
  rw [Tryz.params3] at hA hval
  obtain ⟨v0, v1, v2, d0, d1, d2, p0, p1, p2, rfl, rfl, rfl, h0, h1, h2⟩ := trodAll_three hA
  have hbulk : ∀ (j : Nat) (d : DataW H), [d0, d1, d2][j]? = some d → Rows.uptoBulk d ≤ 1048576 := fun j d hd => by
    have := PT hbig
    rw [PU] at this
    have h2 := BI (List.mem_of_getElem? hd)
    omega
  obtain ⟨x, hx⟩ := Qz (hval 0 26 v0 rfl rfl) h0 (hbulk 0 d0 rfl)
  obtain ⟨en, rfl, rfl, rfl, we⟩ := open_int Tryz.underlying3 (hval 1 3 v1 rfl rfl) h1
  obtain ⟨fu, rfl, rfl, rfl, wf⟩ := open_int Tryz.underlying3 (hval 2 3 v2 rfl rfl) h2
  refine (Qx hx en fu).mono fun e W' ⟨he, hk⟩ => ?_
  subst he
  exact ⟨_, rfl, PQ (by kernel_rfl) (by kernel_rfl) (by kernel_rfl) Tryz.underlying4 hW' rfl rfl rfl rfl hk⟩

theorem familySays_said : Rows.FamilySaysUptoSaid :=
  OpenClaim.holds_of_cond 3 Tryz.f3 rfl rfl rfl rfl rfl rfl rfl ⟨rfl, rfl, rfl, rfl, rfl⟩ rfl rfl rfl rfl rfl (by kernel_rfl) Tryz.func3 (by kernel_rfl)
    (of_decide_eq_true (by kernel_rfl)) (by unfold Func.isWrapper; first | (rw [if_pos (by decide +kernel)]; kernel_rfl) | (rw [if_neg (by decide +kernel)]; exact ⟨rfl, rfl⟩))
    (fun os started H enc _ F => QA os started H enc F)

#print axioms familySays_said
end Go.Proofs.YtfjfpkkpfbadoaaGreat
