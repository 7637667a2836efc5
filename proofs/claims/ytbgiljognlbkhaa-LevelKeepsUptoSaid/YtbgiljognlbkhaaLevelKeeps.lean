/-
  PROVED HERE: 'Rows.LevelKeepsUptoSaid': whatever LevelKeeps is given of bulk at most 1048576, it returns true, and what it was given reads as it did.
  The theorem: 'levelKeeps_said'. The walk is in the texts that this one imports.
-/
import Derived.Test.YtbgiljognlbkhaaLwG
import Derived.Test.YtbgiljognlbkhaaLvO
import Derived.Test.YtbgiljognlbkhaaWxO
import Derived.WalkKit
set_option linter.unusedSimpArgs false
set_option linter.unusedVariables false
set_option maxRecDepth 100000
namespace Go.Proofs.Ytbgiljognlbkhaa
open Go.Wx Lv Go.ChangeShapes Go.WideShapes Go.ChangeAt Go.RowKit

section
variable {H : Type} {enc : TypeId × Value → H} {w : World} {spare : Nat → Bool} {held : Bool}
theorem open_lvl' {fuel : Nat} {v : Value} {x : DataW H × List MemPlace} (h : DataW.trod enc Try.prog w 0 spare held fuel 27 [v] = some x) (hB : Rows.uptoBulk x.1 ≤ 1048576) : ∃ (a : Option Addr) (l : List Atom) (c : Nat), v = .slice a l.length c ∧ Sl rAt (Old w) a l := by
  obtain ⟨l, a, c, h1, h2⟩ := open_sl rAt (by decide) Try.underlying27 (by kernel_rfl) (fun cs n y hl hn _ => by
    obtain ⟨xs, m, rfl, rfl, _, hxl, hf⟩ := DataW.trod_struct Try.underlying52 hn
    match cs, hl, xs, hxl with
    | [c0, c1], _, [x0, x1], _ =>
      have g0 := hf 0 _ rfl
      have g1 := hf 1 _ rfl
      simp [show Try.prog.cellsOf 3 = 1 by kernel_rfl] at g0 g1
      obtain ⟨z0, e0, _, w0⟩ := DataW.trod_int Try.underlying3 g0
      obtain ⟨z1, e1, _, w1⟩ := DataW.trod_int Try.underlying3 g1
      simp at e0 e1
      subst e0 e1
      exact ⟨⟨z0, z1⟩, rfl, i64_wf w0, i64_wf w1⟩) h hB
  exact ⟨a, l, c, by simpa using h1, h2⟩
theorem open_lvl {r : Reach} {b0 : Nat} {v : Value} {d : DataW H} {ps : List MemPlace} (hval : Value.okWide Try.prog w r b0 27 v) (h : DataW.Trod enc Try.prog w 0 spare held 27 v d ps) (hB : Rows.uptoBulk d ≤ 1048576) : ∃ (a : Option Addr) (l : List Atom) (c : Nat), v = .slice a l.length c ∧ Sl rAt (Old w) a l := by
  obtain ⟨fuel, h⟩ := h
  cases v <;> first | exact open_lvl' h hB | (exfalso; simp [Value.okWide, Try.underlying27, Cell.okWide, Cell.ok] at hval)
end

set_option maxRecDepth 100000 in
theorem levelKeeps_lifted (os : Os) (started : os.Started) (H : Type) (enc : TypeId × Value → H) (F : Stop.Interp) :
    ReturnsInHanded {} Try.checked os 9 .any ((Rows.OpenSpec.upto Rows.levelKeepsSpec).pre6 enc Try.prog Try.f9 Rows.levelKeepsUptoRow.domain false) (((Rows.OpenSpec.upto Rows.levelKeepsSpec).at F).post enc Try.prog Try.f9 false true false false) := by
  refine returnsInHanded_of_cond (C := Try.checked) (s := Rows.OpenSpec.upto Rows.levelKeepsSpec) (k := Rows.uptoSmall) rfl (by kernel_rfl) started (by kernel_rfl) Try.func9
    (OpenSpec.witness (enc := enc) (C := Try.checked) (s := Rows.OpenSpec.upto Rows.levelKeepsSpec) (k := Rows.uptoSmall) rfl false ⟨#[], #[.slice none 0 0, .slice none 0 0, .agg #[.int .i64 0, .slice none 0 0, .slice none 0 0, .int .i64 0, .int .i64 0]], []⟩ 8 (by kernel_rfl) (by kernel_rfl) (by kernel_rfl)
      (x := ([.nil, .nil, .agg [.lit (.int .i64 0), .nil, .nil, .lit (.int .i64 0), .lit (.int .i64 0)]], [], [])) (by kernel_rfl) rfl (by kernel_rfl)) ?_
  intro W base args ds gs before hval0 hW _ hbig _
  have hval : ∀ (j : Nat) t v, Try.f9.params[j]? = some t → args[j]? = some v → Value.okWide Try.prog W .any base t v := hval0
  have hW' := hW
  obtain ⟨p, q, hA0, hV, rfl, hfz, hnd⟩ := hW
  have hA : DataW.TrodAll enc Try.prog W 0 (fun _ => true) true Try.f9.params.toList args.toList ds p := hA0
  rw [Try.params9] at hA hval
  obtain ⟨v0, v1, v2, d0, d1, d2, p0, p1, p2, rfl, rfl, rfl, h0, h1, h2⟩ := trodAll_three hA
  have hbulk : ∀ (j : Nat) (d : DataW H), [d0, d1, d2][j]? = some d → Rows.uptoBulk d ≤ 1048576 := fun j d hd => by
    have := bulk_of hbig
    rw [bulk_app] at this
    have h2 := bulk_part (List.mem_of_getElem? hd)
    omega
  obtain ⟨aa, la, ca, rfl, ha⟩ := open_lvl (hval 0 27 v0 rfl rfl) h0 (hbulk 0 d0 rfl)
  obtain ⟨ab, lb, cb, rfl, hb⟩ := open_lvl (hval 1 27 v1 rfl rfl) h1 (hbulk 1 d1 rfl)
  obtain ⟨x, ao, av, co, cv, rfl, hx⟩ := open_ord5 (hval 2 25 v2 rfl rfl) h2
  refine (levelKeeps_ct x la lb ao av aa ab co cv ca cb W hx.list ha hb).mono fun e W' ⟨he, hk⟩ => ?_
  subst he
  exact ⟨_, rfl, post_true (by kernel_rfl) (by kernel_rfl) (by kernel_rfl) Try.underlying4 hW' rfl rfl rfl rfl hk⟩

theorem levelKeeps_said : Rows.LevelKeepsUptoSaid :=
  OpenClaim.holds_of_cond 9 Try.f9 rfl rfl rfl rfl rfl rfl rfl ⟨rfl, rfl, rfl, rfl, rfl⟩ rfl rfl rfl rfl rfl (by kernel_rfl) Try.func9 (by kernel_rfl)
    (of_decide_eq_true (by kernel_rfl)) (by unfold Func.isWrapper; first | (rw [if_pos (by decide +kernel)]; kernel_rfl) | (rw [if_neg (by decide +kernel)]; exact ⟨rfl, rfl⟩))
    (fun os started H enc _ F => levelKeeps_lifted os started H enc F)

#print axioms levelKeeps_said
end Go.Proofs.Ytbgiljognlbkhaa
