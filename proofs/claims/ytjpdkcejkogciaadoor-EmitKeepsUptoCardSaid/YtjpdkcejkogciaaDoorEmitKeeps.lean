/-
  PROVED HERE: 'Rows.EmitKeepsUptoCardSaid': whatever EmitKeeps is given of bulk at most 1048576, it returns true, and what it was given reads as it did.
  The theorem: 'cardUpto'. The walk is in the texts that this one imports.
-/
import Derived.Test.YtjpdkcejkogciaaDoorCards
import Derived.Test.YtjpdkcejkogciaaDoorTie
import Derived.WalkKit
import Derived.ProofKit
import Derived.OpenShut
import Derived.Deep.DeepHandedRow
import Derived.Lib.LaidTab
import Derived.Test.YtjpdkcejkogciaaDoorMg25
set_option linter.unusedSimpArgs false
set_option linter.unusedVariables false
namespace Go.Proofs.YtjpdkcejkogciaaDoor.emitKeeps
open Go.Wx Cd Go.ChangeShapes Go.WideShapes Go.ChangeAt Go.RowKit

theorem own : ownKnob Tryd.prog.godebug = none := by kernel_rfl
theorem gTab : Tryd.prog.globalNamed "retort/emit.done" = some 0 := by kernel_rfl
theorem gTabType : (Tryd.prog.globals[0]?).map (·.type) = some 117 := by kernel_rfl
theorem cellsT : Tryd.prog.cellsOf 117 = 13 := by kernel_rfl
theorem cellsI : Tryd.prog.cellsOf 3 = 1 := by kernel_rfl
set_option maxRecDepth 100000 in
theorem table {W : World} (h : laidMetH Tryd.prog Rows.emitKeepsUptoRow.laid W) : Lib.TabIs Tryd.prog W "retort/emit.done" .i64 doneL :=
  Lib.tabIs_of_head (rest := []) gTab gTabType Tryd.underlying117 Tryd.underlying3 cellsI cellsT h
set_option maxRecDepth 100000 in
theorem tab {W : World} (h : laidMetH Tryd.prog Rows.emitKeepsUptoRow.laid W) : Tab (Old W) := fun j v hj => by
  have hl := get_lt hj
  have := (table h).cell gTab j hl
  rw [List.getD_eq_getElem?_getD, hj] at this
  exact Cl.of this

set_option maxRecDepth 100000 in
theorem contract (H : Type) (enc : TypeId × Value → H) (W : World) (base : Nat) (args : Array Value) (ds gs : List (DataW H)) (before : List MemPlace)
    (hval0 : ∀ (j : Nat) t v, Tryd.f6.params[j]? = some t → args[j]? = some v → Value.okWide Tryd.prog W .any base t v)
    (hW : DataW.Whole enc Tryd.prog Tryd.f6.params.toList Rows.emitKeepsSpec.vars false W args.toList ds gs before) (hL : laidMetH Tryd.prog Rows.emitKeepsUptoRow.laid W) (hbig : Rows.uptoSmall H (ds ++ gs) = true) :
    Calls Tryd.prog 6 args W fun e W' => ∃ v, e = .returned v ∧ Rows.emitKeepsSpec.post enc Tryd.prog Tryd.f6 false true false false W args v W' := by
  have hval : ∀ (j : Nat) t v, Tryd.f6.params[j]? = some t → args[j]? = some v → Value.okWide Tryd.prog W .any base t v := hval0
  have hW' := hW
  obtain ⟨p, q, hA0, hV, rfl, hfz, hnd⟩ := hW
  have hA : DataW.TrodAll enc Tryd.prog W 0 (fun _ => true) true Tryd.f6.params.toList args.toList ds p := hA0
  rw [Tryd.params6] at hA hval
  obtain ⟨v0, v1, d0, d1, p0, p1, rfl, rfl, rfl, h0, h1⟩ := trodAll_two hA
  have hbulk : ∀ (j : Nat) (d : DataW H), [d0, d1][j]? = some d → Rows.uptoBulk d ≤ 1048576 := fun j d hd => by
    have := bulk_of hbig
    rw [bulk_app] at this
    have h2 := bulk_part (List.mem_of_getElem? hd)
    omega
  obtain ⟨cf, p, rfl, hp⟩ := open_flt (hval 0 27 v0 rfl rfl) h0 (hbulk 0 d0 rfl)
  obtain ⟨cg, q, rfl, hq⟩ := open_brd (hval 1 33 v1 rfl rfl) h1 (hbulk 1 d1 rfl)
  refine (emitKeeps_ct (Old.sub W) (tab hL) hp hq).2.mono fun e W' ⟨he, hk⟩ => ?_
  subst he
  exact ⟨_, rfl, post_true (by kernel_rfl) (by kernel_rfl) (by kernel_rfl) Tryd.underlying4 hW' rfl rfl rfl rfl hk⟩

def wit : Array Value := #[.agg #[.slice none 0 0, .slice none 0 0, .slice none 0 0], .agg #[.slice none 0 0, .slice none 0 0, .slice none 0 0, .int .i64 0, .slice none 0 0]]
noncomputable def laidWorld (os : Os) : World :=
  { World.holding Tryd.prog os ⟨#[], #[], []⟩ with heap := (World.holding Tryd.prog os ⟨#[], #[], []⟩).heap.modify 0 fun
      | .cells _ t frozen => .cells #[.int .i64 0, .int .i64 1, .int .i64 2, .int .i64 7, .int .i64 4, .int .i64 5, .int .i64 0, .int .i64 8, .int .i64 0, .int .i64 0, .int .i64 10, .int .i64 0, .int .i64 12] t frozen
      | o => o }
theorem laid_met (os : Os) : laidMet Tryd.prog Rows.emitKeepsUptoRow.laid ((laidWorld os).forCall (fun _ _ => 0) ⟨#[], wit, []⟩).memory :=
  laidMet_of_run' 8 (by kernel_rfl) (by kernel_rfl)
theorem reads (os : Os) {H : Type} (enc : TypeId × Value → H) : ∃ places, DataW.whole enc Tryd.prog ((laidWorld os).forCall (fun _ _ => 0) ⟨#[], wit, []⟩).memory Tryd.f6.params.toList Rows.emitKeepsSpec.vars false wit.toList 8 = some ([.agg [.nil, .nil, .nil], .agg [.nil, .nil, .nil, .lit (.int .i64 0), .nil]], [], places) :=
  ⟨[], by kernel_rfl⟩

set_option maxRecDepth 100000 in
theorem liftedUpto (os : Os) (started : os.Started) (H : Type) (enc : TypeId × Value → H) (F : Stop.Interp) :
    ReturnsInHanded {} Tryd.checked os 6 .any ((Rows.OpenSpec.upto Rows.emitKeepsSpec).preRow enc Tryd.prog Tryd.f6 Rows.emitKeepsUptoRow.domain false Rows.emitKeepsUptoRow.laid) (((Rows.OpenSpec.upto Rows.emitKeepsSpec).at F).post enc Tryd.prog Tryd.f6 false true false false) := by
  obtain ⟨places, hx⟩ := reads os enc
  refine returnsInHanded_of_row (C := Tryd.checked) (s := Rows.OpenSpec.upto Rows.emitKeepsSpec) own started (by kernel_rfl) Tryd.func6
    (witness_row_at (enc := enc) (C := Tryd.checked) false (laidWorld os) wit rfl (by kernel_rfl) (by kernel_rfl) (by kernel_rfl)
      (OpenSpec.preRow_of_cond 8 hx (by kernel_rfl) (fun k hk => by cases hk; kernel_rfl) (by kernel_rfl) (laid_met os))) ?_
  intro W base args ds gs before hval hW _ hcond _ hL _ _
  exact contract H enc W base args ds gs before hval hW hL (hcond _ rfl)

theorem saidUpto : Rows.EmitKeepsUptoSaid :=
  OpenClaim.holds_of_cond 6 Tryd.f6 rfl rfl rfl rfl rfl rfl rfl ⟨rfl, rfl, rfl, rfl, rfl⟩ rfl rfl rfl rfl rfl (by kernel_rfl) Tryd.func6 (by kernel_rfl)
    (of_decide_eq_true (by kernel_rfl)) (by unfold Func.isWrapper; first | (rw [if_pos (by decide +kernel)]; kernel_rfl) | (rw [if_neg (by decide +kernel)]; exact ⟨rfl, rfl⟩))
    (fun os started H enc _ F => by rw [OpenClaim.pre_eq_preRow]; exact liftedUpto os started H enc F)

theorem plain (f : FuncId) (fn : Func) (hf : Tryd.pinned.checked.prog.funcNamed "retort/retortlaw21.EmitKeeps" = some f) (hfn : Tryd.pinned.checked.prog.funcs[f]? = some fn) :
    false = Tryd.pinned.checked.prog.looks [] ∧ ∀ (j : Nat) t, fn.params[j]? = some t → Tryd.pinned.checked.prog.wantsStandIn t = false := by
  obtain rfl : f = 6 := Option.some.inj ((show Tryd.prog.funcNamed "retort/retortlaw21.EmitKeeps" = some 6 by kernel_rfl).symm.trans hf) |>.symm
  obtain rfl : fn = Tryd.f6 := (Option.some.inj (Tryd.func6.symm.trans hfn)).symm
  refine ⟨by kernel_rfl, fun j t ht => ?_⟩
  rw [Tryd.params6] at ht
  have ht := Array.mem_of_getElem? ht
  have ht : t = 27 ∨ t = 33 := by simpa using ht
  rcases ht with rfl | rfl
  · exact (show Tryd.prog.wantsStandIn 27 = false by kernel_rfl)
  · exact (show Tryd.prog.wantsStandIn 33 = false by kernel_rfl)

theorem cardUpto : Rows.EmitKeepsUptoCardSaid :=
  Claim7.holds_tied_plain_at .later [] _ _ _ _ saidUpto (fun _ h => by cases h) (by kernel_rfl) (fun _ h => by cases h) emitKeepsUpto_row_tie rfl ⟨rfl, rfl⟩ (by kernel_rfl) rfl plain (by kernel_rfl)

#print axioms cardUpto
end Go.Proofs.YtjpdkcejkogciaaDoor.emitKeeps
