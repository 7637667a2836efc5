/-
  PROVED HERE: 'Rows.VmCountsCardSaid': whatever VmCounts is given, it returns true, and what it was given reads as it did (the package variable heap.kinds as the program's text lays it).
  The theorem: 'card'. The walk is in the texts that this one imports.
-/
import Derived.Test.YtbggaljmollhmaaGreatDoorCards
import Derived.Test.YtbggaljmollhmaaGreatDoorTie
import Derived.WalkKit
import Derived.ProofKit
import Derived.OpenShut
import Derived.Deep.DeepHandedRow
import Derived.Deep.Strs
import Derived.Lib.LaidTab
import Derived.Test.YtbggaljmollhmaaGreatDoorMg15
set_option linter.unusedSimpArgs false
set_option linter.unusedVariables false
namespace Go.Proofs.YtbggaljmollhmaaGreatDoor.vmCounts
open Go.Wx Cd Go.ChangeShapes Go.WideShapes Go.ChangeAt Go.RowKit

theorem own : ownKnob Tryz.prog.godebug = none := by kernel_rfl
theorem gTab : Tryz.prog.globalNamed "retort/heap.kinds" = some 0 := by kernel_rfl
theorem gTabType : (Tryz.prog.globals[0]?).map (·.type) = some 253 := by kernel_rfl
theorem cellsT : Tryz.prog.cellsOf 253 = 9 := by kernel_rfl
theorem cellsB : Tryz.prog.cellsOf 252 = 3 := by kernel_rfl
theorem cellsI : Tryz.prog.cellsOf 3 = 1 := by kernel_rfl
section
variable {H : Type} {enc : TypeId × Value → H} {W : World} {base : Nat} {sp : Nat → Bool} {held : Bool}
/-- one row of the table -/
theorem three {fuel : Nat} {c0 c1 c2 : Value} {x : DataW H × List MemPlace} (h : DataW.trod enc Tryz.prog W base sp held fuel 252 [c0, c1, c2] = some x) :
    ∃ k0 k1 k2, c0 = .int .i64 k0 ∧ c1 = .int .i64 k1 ∧ c2 = .int .i64 k2 ∧ x.1 = .agg [.lit (.int .i64 k0), .lit (.int .i64 k1), .lit (.int .i64 k2)] := by
  obtain ⟨y0, y1, y2, n, rfl, _, h0, h1, h2⟩ := Go.Deep.trod_struct3 Tryz.underlying252 h
  rw [cellsI] at h0 h1 h2
  obtain ⟨k0, e0, rfl, _⟩ := DataW.trod_int Tryz.underlying3 h0
  obtain ⟨k1, e1, rfl, _⟩ := DataW.trod_int Tryz.underlying3 h1
  obtain ⟨k2, e2, rfl, _⟩ := DataW.trod_int Tryz.underlying3 h2
  simp at e0 e1 e2
  exact ⟨k0, k1, k2, e0, e1, e2, rfl⟩
end
theorem list9 {α : Type} {l : List α} (h : l.length = 9) : ∃ c0 c1 c2 c3 c4 c5 c6 c7 c8, l = [c0, c1, c2, c3, c4, c5, c6, c7, c8] := by
  match l, h with
  | [c0, c1, c2, c3, c4, c5, c6, c7, c8], _ => exact ⟨c0, c1, c2, c3, c4, c5, c6, c7, c8, rfl⟩
theorem list3 {α : Type} {l : List α} (h : l.length = 3) : ∃ c0 c1 c2, l = [c0, c1, c2] := by
  match l, h with
  | [c0, c1, c2], _ => exact ⟨c0, c1, c2, rfl⟩
set_option maxRecDepth 100000 in
theorem kd {W : World} (h : laidMetH Tryz.prog Rows.vmCountsRow.laid W) : Wx.Sub Kd W := by
  obtain ⟨ps, ⟨g0, t0, cs0, f0, p0, q0, hg0, ht0, hv0, hd0, _, _⟩, _⟩ := (show laidMet Tryz.prog [("retort/heap.kinds", Rows.laid_retort_heap_kinds)] W from h)
  obtain rfl := Option.some.inj (gTab.symm.trans hg0)
  obtain rfl := Option.some.inj (gTabType.symm.trans ht0)
  obtain ⟨xs, m, rfl, hx, hl, hxl, hel⟩ := DataW.trod_array Tryz.underlying253 hd0
  rw [cellsT] at hl
  obtain ⟨c0, c1, c2, c3, c4, c5, c6, c7, c8, hcs⟩ := list9 hl
  obtain ⟨x0, x1, x2, rfl⟩ := list3 hxl
  rw [hcs, cellsB] at hel
  obtain ⟨k0, k1, k2, rfl, rfl, rfl, e0⟩ := three (show _ = some x0 from hel 0 (by decide))
  obtain ⟨k3, k4, k5, rfl, rfl, rfl, e1⟩ := three (show _ = some x1 from hel 1 (by decide))
  obtain ⟨k6, k7, k8, rfl, rfl, rfl, e2⟩ := three (show _ = some x2 from hel 2 (by decide))
  have hx := congrArg Prod.fst hx
  simp only [List.map_cons, List.map_nil, e0, e1, e2, Rows.laid_retort_heap_kinds] at hx
  simp only [DataW.agg.injEq, List.cons.injEq, DataW.lit.injEq, Lit.int.injEq, and_true, true_and] at hx
  obtain ⟨⟨rfl, rfl, rfl⟩, ⟨rfl, rfl, rfl⟩, rfl, rfl, rfl⟩ := hx
  rintro b o v ⟨rfl, ho⟩
  have hc := World.var?_cell hg0 hv0 o
  have hk : cs0.toList[o]? = some v := by rw [hcs]; exact ho
  refine Cl.of (hc.trans ?_)
  rw [← hk]
  simp

set_option maxRecDepth 100000 in
theorem contract (H : Type) (enc : TypeId × Value → H) (W : World) (base : Nat) (args : Array Value) (ds gs : List (DataW H)) (before : List MemPlace)
    (hval0 : ∀ (j : Nat) t v, Tryz.f5.params[j]? = some t → args[j]? = some v → Value.okWide Tryz.prog W .any base t v)
    (hW : DataW.Whole enc Tryz.prog Tryz.f5.params.toList Rows.vmCountsSpec.vars false W args.toList ds gs before) (hL : laidMetH Tryz.prog Rows.vmCountsRow.laid W) :
    Calls Tryz.prog 5 args W fun e W' => ∃ v, e = .returned v ∧ Rows.vmCountsSpec.post enc Tryz.prog Tryz.f5 false true false false W args v W' := by
  have hval : ∀ (j : Nat) t v, Tryz.f5.params[j]? = some t → args[j]? = some v → Value.okWide Tryz.prog W .any base t v := hval0
  have hW' := hW
  obtain ⟨p, q, hA0, hV, rfl, hfz, hnd⟩ := hW
  have hA : DataW.TrodAll enc Tryz.prog W 0 (fun _ => true) true Tryz.f5.params.toList args.toList ds p := hA0
  rw [Tryz.params5] at hA hval
  obtain ⟨v0, v1, v2, d0, d1, d2, p0, p1, p2, rfl, rfl, rfl, h0, h1, h2⟩ := trodAll_three hA
  obtain ⟨a, rfl, rfl, rfl, wa⟩ := open_int Tryz.underlying40 (hval 0 40 v0 rfl rfl) h0
  obtain ⟨b, rfl, rfl, rfl, wb⟩ := open_int Tryz.underlying40 (hval 1 40 v1 rfl rfl) h1
  obtain ⟨id, rfl, rfl, rfl, wi⟩ := open_int Tryz.underlying3 (hval 2 3 v2 rfl rfl) h2
  have ha : 0 ≤ a ∧ a ≤ 4294967295 := by simpa [Lit.wf, IntKind.min, IntKind.max, IntKind.signed, IntKind.bits] using wa
  have hb : 0 ≤ b ∧ b ≤ 4294967295 := by simpa [Lit.wf, IntKind.min, IntKind.max, IntKind.signed, IntKind.bits] using wb
  have hi : I64 id := by simpa [Lit.wf, I64, IntKind.min, IntKind.max, IntKind.signed, IntKind.bits] using wi
  obtain ⟨a, rfl⟩ : ∃ n : Nat, a = n := ⟨a.toNat, by omega⟩
  obtain ⟨b, rfl⟩ : ∃ n : Nat, b = n := ⟨b.toNat, by omega⟩
  refine (vmCounts_ct (kd hL) a b (by omega) (by omega) id hi).2.mono fun e W' ⟨he, hk⟩ => ?_
  subst he
  exact ⟨_, rfl, post_true (by kernel_rfl) (by kernel_rfl) (by kernel_rfl) Tryz.underlying4 hW' rfl rfl rfl rfl hk⟩

def wit : Array Value := #[.int .u32 0, .int .u32 0, .int .i64 0]
noncomputable def laidWorld (os : Os) : World :=
  { World.holding Tryz.prog os ⟨#[], #[], []⟩ with heap := (World.holding Tryz.prog os ⟨#[], #[], []⟩).heap.modify 0 fun
      | .cells _ t frozen => .cells #[.int .i64 1023, .int .i64 1, .int .i64 16, .int .i64 4095, .int .i64 0, .int .i64 255, .int .i64 0, .int .i64 1, .int .i64 65535] t frozen
      | o => o }
theorem laid_met (os : Os) : laidMet Tryz.prog Rows.vmCountsRow.laid ((laidWorld os).forCall (fun _ _ => 0) ⟨#[], wit, []⟩).memory :=
  laidMet_of_run' 8 (by kernel_rfl) (by kernel_rfl)
theorem reads (os : Os) {H : Type} (enc : TypeId × Value → H) : ∃ places, DataW.whole enc Tryz.prog ((laidWorld os).forCall (fun _ _ => 0) ⟨#[], wit, []⟩).memory Tryz.f5.params.toList Rows.vmCountsSpec.vars false wit.toList 8 = some ([.lit (.int .u32 0), .lit (.int .u32 0), .lit (.int .i64 0)], [], places) :=
  ⟨[], by kernel_rfl⟩

set_option maxRecDepth 100000 in
theorem lifted (os : Os) (started : os.Started) (H : Type) (enc : TypeId × Value → H) (F : Stop.Interp) :
    ReturnsInHanded {} Tryz.checked os 5 .any ((OpenSpec.ofChange Rows.vmCountsSpec).preRow enc Tryz.prog Tryz.f5 Rows.vmCountsRow.domain false Rows.vmCountsRow.laid) (((OpenSpec.ofChange Rows.vmCountsSpec).at F).post enc Tryz.prog Tryz.f5 false true false false) := by
  obtain ⟨places, hx⟩ := reads os enc
  refine returnsInHanded_of_row (C := Tryz.checked) (s := OpenSpec.ofChange Rows.vmCountsSpec) own started (by kernel_rfl) Tryz.func5
    (witness_row_at (enc := enc) (C := Tryz.checked) false (laidWorld os) wit rfl (by kernel_rfl) (by kernel_rfl) (by kernel_rfl)
      (OpenSpec.preRow_of_cond 8 hx (by kernel_rfl) (fun k hk => by cases hk) (by kernel_rfl) (laid_met os))) ?_
  intro W base args ds gs before hval hW _ _ _ hL _ _
  exact contract H enc W base args ds gs before hval hW hL

theorem said : Rows.VmCountsSaid :=
  OpenClaim.holds_of_cond 5 Tryz.f5 rfl rfl rfl rfl rfl rfl rfl ⟨rfl, rfl, rfl, rfl, rfl⟩ rfl rfl rfl rfl rfl (by kernel_rfl) Tryz.func5 (by kernel_rfl)
    (of_decide_eq_true (by kernel_rfl)) (by unfold Func.isWrapper; first | (rw [if_pos (by decide +kernel)]; kernel_rfl) | (rw [if_neg (by decide +kernel)]; exact ⟨rfl, rfl⟩))
    (fun os started H enc _ F => by rw [OpenClaim.pre_eq_preRow]; exact lifted os started H enc F)

theorem plain (f : FuncId) (fn : Func) (hf : Tryz.pinned.checked.prog.funcNamed "retort/retortlaw22.VmCounts" = some f) (hfn : Tryz.pinned.checked.prog.funcs[f]? = some fn) :
    true = Tryz.pinned.checked.prog.looks [] ∧ ∀ (j : Nat) t, fn.params[j]? = some t → Tryz.pinned.checked.prog.wantsStandIn t = false := by
  obtain rfl : f = 5 := Option.some.inj ((show Tryz.prog.funcNamed "retort/retortlaw22.VmCounts" = some 5 by kernel_rfl).symm.trans hf) |>.symm
  obtain rfl : fn = Tryz.f5 := (Option.some.inj (Tryz.func5.symm.trans hfn)).symm
  refine ⟨by kernel_rfl, fun j t ht => ?_⟩
  rw [Tryz.params5] at ht
  have ht := Array.mem_of_getElem? ht
  have ht : t = 40 ∨ t = 40 ∨ t = 3 := by simpa using ht
  rcases ht with rfl | rfl | rfl
  · exact (show Tryz.prog.wantsStandIn 40 = false by kernel_rfl)
  · exact (show Tryz.prog.wantsStandIn 40 = false by kernel_rfl)
  · exact (show Tryz.prog.wantsStandIn 3 = false by kernel_rfl)

theorem card : Rows.VmCountsCardSaid :=
  Claim7.holds_tied_plain_at .later [] _ _ _ _ said (fun _ h => by cases h) (by kernel_rfl) (fun _ h => by cases h) vmCounts_row_tie rfl ⟨rfl, rfl⟩ (by kernel_rfl) rfl plain (by kernel_rfl)

#print axioms card
end Go.Proofs.YtbggaljmollhmaaGreatDoor.vmCounts
