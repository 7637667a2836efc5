/-
  Wx: rules for numbers: greatest, least, quotients.
-/
import Derived.Test.YtbgiljognlbkhaaWxF
set_option linter.unusedSimpArgs false
set_option linter.unusedVariables false
namespace Go.Wx
section
variable {P : Program} {w : World} {k : Value → World → Prop} {kq : Value → Prop} {C : World → Prop} {ts : Array TypeId} {t : TypeId} {x y : Int}
theorem runQ {m : Sem Value} {v : Value} (h : ∀ w, C w → m.run P w = .ok v w) (hk : kq v) : EvRunQ P C m kq := by unfold EvRunQ; exact ⟨v, h, hk⟩
theorem max_run (w : World) : (Builtin.max_ ts t #[.int .i64 x, .int .i64 y]).run P w = .ok (.int .i64 (max x y)) w := by
  rw [run_max_int2]
  congr 2
  split <;> omega
theorem min_run (w : World) : (Builtin.min_ ts t #[.int .i64 x, .int .i64 y]).run P w = .ok (.int .i64 (min x y)) w := by
  rw [run_min_int2]
  congr 2
  split <;> omega
theorem max64 (h : k (.int .i64 (max x y)) w) : EvRun P (Builtin.max_ ts t #[.int .i64 x, .int .i64 y]) w k := run (max_run w) h
theorem min64 (h : k (.int .i64 (min x y)) w) : EvRun P (Builtin.min_ ts t #[.int .i64 x, .int .i64 y]) w k := run (min_run w) h
theorem max64Q (h : kq (.int .i64 (max x y))) : EvRunQ P C (Builtin.max_ ts t #[.int .i64 x, .int .i64 y]) kq := runQ (fun w _ => max_run w) h
theorem min64Q (h : kq (.int .i64 (min x y))) : EvRunQ P C (Builtin.min_ ts t #[.int .i64 x, .int .i64 y]) kq := runQ (fun w _ => min_run w) h
theorem quo_run (hx : 0 ≤ x) (hx' : x ≤ 9223372036854775807) (hy : 0 < y) (w : World) : (binOp .quo t (.int .i64 x) (.int .i64 y)).run P w = .ok (.int .i64 (x / y)) w := by
  have h0 : 0 ≤ x / y := Int.ediv_nonneg hx (by omega)
  have h1 : x / y ≤ x := Int.ediv_le_self y hx
  have hw := IntWalk.i64_in (x / y) (by omega)
  simp [binOp_quo, Op.intDiv, Int.tdiv_eq_ediv_of_nonneg hx, hw, show ¬ y = 0 by omega]
theorem rem_run' (hx : 0 ≤ x) (hy : 0 < y) (w : World) : (binOp .rem t (.int .i64 x) (.int .i64 y)).run P w = .ok (.int .i64 (x % y)) w := by
  simp [binOp_rem, Op.intDiv, Int.tmod_eq_emod_of_nonneg hx, show ¬ y = 0 by omega]
theorem quo64 (hx : 0 ≤ x) (hx' : x ≤ 9223372036854775807) (hy : 0 < y) (h : k (.int .i64 (x / y)) w) : EvRun P (binOp .quo t (.int .i64 x) (.int .i64 y)) w k := run (quo_run hx hx' hy w) h
theorem rem64 (hx : 0 ≤ x) (hy : 0 < y) (h : k (.int .i64 (x % y)) w) : EvRun P (binOp .rem t (.int .i64 x) (.int .i64 y)) w k := run (rem_run' hx hy w) h
theorem quo64Q (hx : 0 ≤ x) (hx' : x ≤ 9223372036854775807) (hy : 0 < y) (h : kq (.int .i64 (x / y))) : EvRunQ P C (binOp .quo t (.int .i64 x) (.int .i64 y)) kq := runQ (fun w _ => quo_run hx hx' hy w) h
theorem rem64Q (hx : 0 ≤ x) (hy : 0 < y) (h : kq (.int .i64 (x % y))) : EvRunQ P C (binOp .rem t (.int .i64 x) (.int .i64 y)) kq := runQ (fun w _ => rem_run' hx hy w) h
end
end Go.Wx
