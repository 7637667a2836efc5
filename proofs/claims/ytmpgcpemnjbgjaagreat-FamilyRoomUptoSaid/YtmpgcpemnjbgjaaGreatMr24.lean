import Derived.Test.YtmpgcpemnjbgjaaGreatMr23
import Derived.Carry
set_option linter.unusedVariables false
set_option linter.unusedSimpArgs false
set_option maxRecDepth 100000
set_option maxHeartbeats 4000000
namespace Go.Proofs.YtmpgcpemnjbgjaaGreat
open Go.Wx Cd Tm Lv Go.ChangeShapes Go.WideShapes Go.ChangeAt Go.RowKit
section
variable {H : Type} {enc : TypeId × Value -> H} {w : World} {spare : Nat -> Bool} {held : Bool}
theorem qd' {r : Reach} {b0 : Nat} {v : Value} {d : DataW H} {ps : List MemPlace} (hval : Value.okWide Tryz.prog w r b0 26 v) (h : DataW.Trod enc Tryz.prog w 0 spare held 26 v d ps) (hB : Rows.uptoBulk d <= 1048576) :
  ∃ x, BoV (Im [] w) x v := by
 obtain ⟨cs, rfl, hs⟩ := okWide_struct Tryz.underlying26 hval;obtain ⟨fuel, hf0⟩ := h;have hsz : cs.size = 5 := by rw [hs]; kernel_rfl
 obtain ⟨x, v1, v2, v3, e0, i0, i1, h1, h2, h3⟩ := tU' (cs := cs.toList) (by simpa using hsz) (by simpa [Value.cells] using hf0) hB;have e1 : cs = #[.int .i64 x.vars, v1, v2, .int .i64 x.nat, v3] := by
  have := congrArg List.toArray e0
  simpa using this
 subst e1;exact ⟨x, BoV.mono (C := Old w) ⟨v1, v2, v3, rfl, h1, h2, h3⟩ fun b o v h => ⟨Old.sub w _ _ _ h, by simp⟩⟩
end
end Go.Proofs.YtmpgcpemnjbgjaaGreat
