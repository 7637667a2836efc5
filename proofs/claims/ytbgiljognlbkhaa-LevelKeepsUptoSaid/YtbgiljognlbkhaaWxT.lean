/-
  Wx: more rules: slicing.
-/
import Derived.Test.YtbgiljognlbkhaaWxS
namespace Go.Wx

/-! ### s[l:], s[:h], s[l:h] -/
section
variable {P : Program} {τ : Tau} (hτ : TauOk P τ) {T e sz bs : Nat} (hs : look τ.slcs T = some (e, sz, bs)) {w : World} {k : Value → World → Prop} {a : Option Addr} {len cap : Nat}
include hτ hs
theorem slc_elem : P.underlying T = some (.slice (P.elem T)) ∧ ∀ w, (sizeOf (P.elem T)).run P w = .ok sz w := by
  obtain ⟨hu, i, hi, hsz, _⟩ := hτ.slcs T e sz bs hs
  have he : P.elem T = e := by simp [Program.elem, hu]
  rw [he]
  exact ⟨hu, fun w => by simp [sizeOf, typeInfo, hi, hsz]⟩

theorem slcL {j : IntKind} {i : Int} (l : Nat) (hi : i = l) (hl : l ≤ len) (hk : k (sliced a l len cap sz) w) : EvRun P (Instr.sliceAt T (.slice a len cap) (some (.int j i)) none none) w k := by
  obtain ⟨hu, hz⟩ := slc_elem hτ hs
  subst hi
  refine run ?_ hk
  rw [run_sliceAt_slice w T _ _ _ _ hu, run_slice_l w T a len cap hu j l (by omega) (by omega), hz]
  simp
theorem slcH {j : IntKind} {i : Int} (h : Nat) (hi : i = h) (hl : h ≤ cap) (hk : k (sliced a 0 h cap sz) w) : EvRun P (Instr.sliceAt T (.slice a len cap) none (some (.int j i)) none) w k := by
  obtain ⟨hu, hz⟩ := slc_elem hτ hs
  subst hi
  refine run ?_ hk
  rw [run_sliceAt_slice w T _ _ _ _ hu, run_slice_h w T a len cap hu j h (by omega) (by omega), hz]
  simp
theorem slcLH {j j' : IntKind} {i i' : Int} (l h : Nat) (hi : i = l) (hi' : i' = h) (h1 : l ≤ h) (h2 : h ≤ cap) (hk : k (sliced a l h cap sz) w) : EvRun P (Instr.sliceAt T (.slice a len cap) (some (.int j i)) (some (.int j' i')) none) w k := by
  obtain ⟨hu, hz⟩ := slc_elem hτ hs
  subst hi hi'
  refine run ?_ hk
  rw [run_sliceAt_slice w T _ _ _ _ hu, run_slice_lh w T a len cap hu j j' l h (by omega) (by omega) (by omega), hz]
  simp
end

end Go.Wx
