/-
  Code: appending a row whose elements are flat.
-/
import Derived.Test.YtjogpbiilokldaaCdX
import Derived.Test.YtjogpbiilokldaaCdY
set_option linter.unusedSimpArgs false
set_option linter.unusedVariables false
namespace Go.Wx
/-- readings that look at no other cell -/
def Flat {α : Type} (R : Rd α) : Prop := ∀ (C C' : Mem) (cs : List Value) (x : α), R.den C cs x → R.den C' cs x
theorem flat8 : Flat rU8 := fun _ _ _ _ h => h
theorem flatI : Flat rInt := fun _ _ _ _ h => h
theorem flatB : Flat rBool := fun _ _ _ _ h => h

theorem cells_of {α : Type} {R : Rd α} {C : Mem} {b : Nat} : ∀ (l : List α) (o : Nat), (∀ i x, l[i]? = some x → R.At C b (o + i * R.sz) x) → ∃ css, All2 (R.den C) css l ∧ ∀ i x j u, css[i]? = some x → x[j]? = some u → C b (o + i * R.sz + j) u
  | [], o, h => ⟨[], trivial, fun i x j u hi => by simp at hi⟩
  | y :: r, o, h => by
    obtain ⟨cs, h1, h2⟩ := h 0 y rfl
    obtain ⟨css, h3, h4⟩ := cells_of r (o + R.sz) (fun i x hi => by
      have := h (i + 1) x (by simpa using hi)
      rwa [show o + (i + 1) * R.sz = o + R.sz + i * R.sz by rw [Nat.add_mul]; omega] at this)
    refine ⟨cs :: css, ⟨h1, h3⟩, fun i x j u hi hj => ?_⟩
    match i with
    | 0 =>
      simp at hi
      subst hi
      exact h2 j u hj
    | i + 1 =>
      have := h4 i x j u (by simpa using hi) hj
      rwa [show o + (i + 1) * R.sz + j = o + R.sz + i * R.sz + j by rw [Nat.add_mul]; omega]

theorem Own.apF {α : Type} {R : Rd α} {e lo : Nat} {w : World} {v : Value} {l : List α} {P : Program} {τ : Tau} (hτ : TauOk P τ) {T bs : Nat} (hs : look τ.slcs T = some (e, R.sz, bs)) {z : List Value} (hz : τ.zero e = some z) (hsz : 0 < R.sz) {k : Value → World → Prop} {c ty : Nat} {a : Option Addr}
    (h : Own R e lo w v l) (hf : Flat R) {C : Mem} (hS : Sub C w) (xs : List α) (hx : Sl R C a xs)
    (hbytes : (l.length + xs.length) * bs ≤ 140737488355328) (h63 : l.length + xs.length ≤ maxLen)
    (hk : ∀ v' w', Own R e lo w' v' (l ++ xs) → Kp v.ownBlock.toList w w' → (v'.ownBlock = v.ownBlock ∨ v'.ownBlock = some w.heap.size) → k v' w') : EvRun P (Builtin.append_ #[T, T] ty #[v, .slice a xs.length c]) w k := by
  rcases hx.2 with h0 | ⟨b, o, rfl, h2⟩
  · have : xs = [] := List.length_eq_zero_iff.1 h0
    subst this
    exact h.ap hτ hs hz hsz [] [] rfl trivial (.inl rfl) hbytes h63 hk
  · obtain ⟨css, h3, h4⟩ := cells_of xs o h2
    exact h.ap hτ hs hz hsz xs css rfl (h3.mono fun cs x hx => hf _ _ _ _ hx) (.inr ⟨b, o, rfl, fun i x j u hi hj => hS _ _ _ (h4 i x j u hi hj)⟩) hbytes h63 hk
end Go.Wx
