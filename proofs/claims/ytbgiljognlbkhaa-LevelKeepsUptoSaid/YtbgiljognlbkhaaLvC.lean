/-
  Levels, in plain Lean: the numbers in the graph stay small.
-/
import Derived.Test.YtbgiljognlbkhaaLvB
set_option linter.unusedVariables false
namespace Lv

def BdG (B : Int) (g : G) : Prop := ∀ x y v, g x y = some v → -B ≤ v ∧ v ≤ B

theorem BdG.mono {B B' : Int} {g : G} (h : BdG B g) (hB : B ≤ B') : BdG B' g := fun x y v hv => by
  have := h x y v hv; omega

theorem raise_bd {B : Int} {g : G} (h : BdG B g) {x y v : Int} (h1 : -B ≤ v) (h2 : v ≤ B) : BdG B (raise g x y v) := fun a b u hu => by
  rcases raise_cases g x y v a b u hu with h3 | ⟨_, _, rfl⟩
  · exact h a b u h3
  · exact ⟨h1, h2⟩

/-- what holds in the middle of a round over m, at (low, high) -/
def J (B : Int) (m low high : Nat) (g : G) : Prop := ∀ x y v, g x y = some v →
  (-(6 * B) ≤ v ∧ v ≤ 6 * B) ∧ ((x = m ∨ y = m) → -(3 * B) ≤ v ∧ v ≤ 3 * B) ∧ ((x = m ∧ y = m) → -(2 * B) ≤ v ∧ v ≤ 2 * B) ∧ (((low : Int) < x ∨ ((low : Int) = x ∧ (high : Int) ≤ y)) → -B ≤ v ∧ v ≤ B)

theorem J_start {B : Int} {g : G} (hB : 0 ≤ B) (h : BdG B g) (m : Nat) : J B m 0 0 g := fun x y v hv => by
  have := h x y v hv
  refine ⟨by omega, fun _ => by omega, fun _ => by omega, fun _ => this⟩

theorem J_step {B : Int} {m low high : Nat} {g : G} (h : J B m low high g) : J B m low (high + 1) (step m low high g) := by
  rcases step_cases m low high g with ⟨a, b, ha, hb, e⟩ | e
  · rw [e]
    intro x y v hv
    obtain ⟨a1, a2, a3, a4⟩ := h _ _ _ ha
    obtain ⟨b1, b2, b3, b4⟩ := h _ _ _ hb
    rcases raise_cases _ _ _ _ _ _ _ hv with h3 | ⟨rfl, rfl, rfl⟩
    · obtain ⟨c1, c2, c3, c4⟩ := h x y v h3
      refine ⟨c1, c2, c3, fun hc => c4 (by omega)⟩
    · have a2' := a2 (.inr rfl)
      have b2' := b2 (.inl rfl)
      refine ⟨by omega, fun hc => ?_, fun hc => ?_, fun hc => by omega⟩
      · by_cases hh : (high : Int) = m
        · have a4' := a4 (.inr ⟨rfl, by omega⟩)
          have b3' := b3 ⟨rfl, hh⟩
          omega
        · have hl : (low : Int) = m := hc.resolve_right hh
          have b4' := b4 (.inr ⟨by omega, by omega⟩)
          have a3' := a3 ⟨hl, rfl⟩
          omega
      · have a4' := a4 (.inr ⟨rfl, by omega⟩)
        have b4' := b4 (.inr ⟨by omega, by omega⟩)
        omega
  · rw [e]
    intro x y v hv
    obtain ⟨c1, c2, c3, c4⟩ := h x y v hv
    exact ⟨c1, c2, c3, fun hc => c4 (by omega)⟩

theorem J_row {B : Int} {m low n : Nat} {g : G} (h : J B m low n g) : J B m (low + 1) 0 g := fun x y v hv => by
  obtain ⟨c1, c2, c3, c4⟩ := h x y v hv
  exact ⟨c1, c2, c3, fun hc => c4 (by omega)⟩

theorem J_rng {B : Int} {m low : Nat} {g : G} (h : J B m low 0 g) (k : Nat) : J B m low k (rng (step m low) k g) :=
  rng_ind (f := step m low) (fun k g => J B m low k g) h k fun _ _ _ hx => J_step hx
theorem J_rows {B : Int} {m n : Nat} {g : G} (h : J B m 0 0 g) (k : Nat) : J B m k 0 (rng (passRow n m) k g) :=
  rng_ind (f := passRow n m) (fun k g => J B m k 0 g) h k fun _ _ _ hx => J_row (J_rng hx n)

/-- the sum that is made at (low, high) -/
theorem J_sum {B : Int} {m low high : Nat} {g : G} (h : J B m low high g) {a b : Int} (ha : g low m = some a) (hb : g m high = some b) : -(6 * B) ≤ a + b ∧ a + b ≤ 6 * B := by
  have a2 := (h _ _ _ ha).2.1 (.inr rfl)
  have b2 := (h _ _ _ hb).2.1 (.inl rfl)
  omega
theorem J_end {B : Int} {m low high : Nat} {g : G} (h : J B m low high g) : BdG (6 * B) g := fun x y v hv => (h x y v hv).1

theorem initG_bd (n : Nat) : BdG 1000 (initG n) := fun x y v hv => by
  obtain ⟨rfl, _⟩ := (initG_eq n n (Nat.le_refl _) x y v).1 hv
  omega

/-- how great a number can be ahead of round m -/
def pw : Nat → Int
  | 0 => 1000
  | m + 1 => 6 * pw m
theorem pw_le : ∀ m, m ≤ 17 → 0 ≤ pw m ∧ 6 * pw m ≤ 9000000000000000000 := by
  intro m hm
  match m, hm with
  | 0, _ => decide
  | 1, _ => decide
  | 2, _ => decide
  | 3, _ => decide
  | 4, _ => decide
  | 5, _ => decide
  | 6, _ => decide
  | 7, _ => decide
  | 8, _ => decide
  | 9, _ => decide
  | 10, _ => decide
  | 11, _ => decide
  | 12, _ => decide
  | 13, _ => decide
  | 14, _ => decide
  | 15, _ => decide
  | 16, _ => decide
  | 17, _ => decide
  | m + 18, h => omega

theorem pass_bd {B : Int} {n m : Nat} {g : G} (hB : 0 ≤ B) (h : BdG B g) : BdG (6 * B) (pass n m g) := J_end (J_rows (n := n) (J_start hB h m) n)
end Lv
