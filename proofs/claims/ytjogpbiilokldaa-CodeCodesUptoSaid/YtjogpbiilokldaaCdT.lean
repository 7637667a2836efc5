/-
  Code, in plain Lean: rows of instructions that only push and pop.
-/
import Derived.Test.YtjogpbiilokldaaCdS
set_option linter.unusedVariables false
set_option linter.unusedSimpArgs false
namespace Cd
open Go Go.Wx

def insS (x : Nat) : Ins :=
  if x % 5 = 0 ∨ x % 5 = 1 then ⟨1, 0, 0, []⟩
  else if x % 5 = 2 then ⟨5, 0, 0, []⟩
  else if x % 5 = 3 then ⟨14, 1 + ((x / 5 % 3 : Nat) : Int), 0, []⟩
  else ⟨3, ((x / 5 % 4 : Nat) : Int), 0, []⟩
def condS (x : Nat) (h : Int) : Bool :=
  if x % 5 = 0 ∨ x % 5 = 1 then true
  else if x % 5 = 2 then decide (2 ≤ h)
  else if x % 5 = 3 then decide (2 + ((x / 5 % 3 : Nat) : Int) ≤ h)
  else decide (((x / 5 % 4 : Nat) : Int) < h)
def stepS (x : Nat) (h : Int) : Int :=
  if x % 5 = 0 ∨ x % 5 = 1 then h + 1
  else if x % 5 = 2 then h - 1
  else if x % 5 = 3 then h - 1 - ((x / 5 % 3 : Nat) : Int)
  else h + 1
def strM : List Nat → Int → Bool
  | [], h => decide (h = 1)
  | x :: r, h => condS x h && strM r (stepS x h)
def insR : Ins := ⟨6, 0, 0, []⟩
def codS (l : List Nat) : Cod := ⟨-1, [], [], [], l.map insS ++ [insR]⟩

theorem nextS {c : Cod} {i : Int} {x : Nat} {h : Int} (hh : 0 ≤ h) : nextM c i (insS x) h 0 = if condS x h then some [(i + 1, stepS x h)] else none := by
  unfold insS condS stepS
  by_cases h0 : x % 5 = 0 ∨ x % 5 = 1
  · simp only [if_pos h0]
    unfold nextM plainM
    simp [Ins.zero, hh]
  simp only [if_neg h0]
  by_cases h2 : x % 5 = 2
  · simp only [if_pos h2]
    unfold nextM plainM
    simp only [Ins.zero]
    by_cases h3 : 2 ≤ h
    · simp [h3]; omega
    · simp [h3]
  simp only [if_neg h2]
  by_cases h3 : x % 5 = 3
  · simp only [if_pos h3]
    obtain ⟨k, hk⟩ : ∃ k : Nat, x / 5 % 3 = k := ⟨_, rfl⟩
    rw [hk]
    unfold nextM plainM
    by_cases h4 : 2 + (k : Int) ≤ h
    · have e1 : min (1 + (k : Int)) h = 1 + k := by omega
      simp [h4, e1, show (1 : Int) ≤ 1 + k by omega, show 1 + (k : Int) + 1 ≤ h by omega]
      omega
    · have e2 : ¬ min (1 + (k : Int)) h + 1 ≤ h := by omega
      simp [h4, e2, show (1 : Int) ≤ 1 + k by omega]
  simp only [if_neg h3]
  obtain ⟨k, hk⟩ : ∃ k : Nat, x / 5 % 4 = k := ⟨_, rfl⟩
  rw [hk]
  unfold nextM plainM
  by_cases h4 : (k : Int) < h
  · simp [inM, h4, show (0 : Int) ≤ k by omega, show (k : Int) ≤ h - 1 by omega, hh]
  · simp [inM, h4, show (0 : Int) ≤ k by omega, show ¬ (k : Int) ≤ h - 1 by omega]

theorem stepS_pos {x : Nat} {h : Int} (hh : 0 ≤ h) (hc : condS x h = true) : 0 ≤ stepS x h ∧ stepS x h ≤ h + 1 := by
  unfold condS at hc
  unfold stepS
  split at hc
  · rename_i h0; rw [if_pos h0]; omega
  rename_i h0
  rw [if_neg h0]
  split at hc
  · rename_i h2; rw [if_pos h2]; simp at hc; omega
  rename_i h2
  rw [if_neg h2]
  split at hc
  · rename_i h3; rw [if_pos h3]; simp at hc; omega
  rename_i h3
  rw [if_neg h3]
  omega

theorem blkS {c : Cod} {len : Nat} : ∀ (r : List Nat) (i : Nat) (h : Int) (s : List Int × Int), i + r.length + 1 = len → s.1.length = len → 0 ≤ h → s.1.getD i 0 = h → (∀ j, i < j → j < len → s.1.getD j 0 = -1) → s.2 ≤ i → h ≤ i →
    (strM r h = true → ∃ m, blkM c len 0 i (r.map insS ++ [insR]) s = some m ∧ m ≤ len) ∧ (strM r h = false → blkM c len 0 i (r.map insS ++ [insR]) s = none)
  | [], i, h, s, hi, hs, hh, hg, hm, hs2, hhi => by
    simp only [List.map_nil, List.nil_append, blkM, hg, oneM]
    rw [if_neg (by omega)]
    have : nextM c i insR h 0 = if h = 1 then some [] else none := by
      unfold nextM insR
      by_cases h1 : h = 1 <;> simp [Ins.zero, h1]
    rw [this]
    constructor
    · intro h1
      have h1 : h = 1 := by simpa [strM] using h1
      refine ⟨s.2, ?_, by omega⟩
      simp [h1, goM, blkM]
    · intro h1
      have h1 : ¬ h = 1 := by simpa [strM] using h1
      simp [h1]
  | x :: r, i, h, s, hi, hs, hh, hg, hm, hs2, hhi => by
    simp only [List.map_cons, List.cons_append, blkM, hg, oneM]
    rw [if_neg (by omega), nextS hh]
    simp only [strM]
    by_cases hc : condS x h = true
    · rw [if_pos hc, hc, Bool.true_and]
      have hsp := stepS_pos hh hc
      have hgo : goM len i [((i : Int) + 1, stepS x h)] s = some (s.1.set (i + 1) (stepS x h), max s.2 (stepS x h)) := by
        have hl : i + 1 < len := by simp at hi; omega
        have e1 : ((i : Int) + 1).toNat = i + 1 := by omega
        simp only [goM, goesM, e1]
        rw [if_neg (by omega), if_pos (hm (i + 1) (by omega) hl)]
        rfl
      simp only [Option.bind_some, hgo]
      refine blkS r (i + 1) (stepS x h) _ (by simp at hi; omega) (by simpa using hs) hsp.1 ?_ ?_ (by simp only; omega) (by omega)
      · have : i + 1 < s.1.length := by simp at hi; omega
        simp [List.getD, this]
      · intro j h1 h2
        have := hm j (by omega) h2
        simp only [List.getD_eq_getElem?_getD] at this ⊢
        rw [List.getElem?_set_ne (by omega)]
        exact this
    · rw [if_neg hc, show condS x h = false by simpa using hc, Bool.false_and]
      exact ⟨fun h => (by cases h), fun _ => rfl⟩

theorem checkS (l : List Nat) (hl : l.length ≤ 2000) : checkM (codS l) = if strM l 0 then 0 else 27 := by
  have hb : blockM (codS l) (codS l).main 0 = blkM (codS l) (l.length + 1) 0 0 (l.map insS ++ [insR]) (0 :: List.replicate l.length (-1), 0) := by
    unfold blockM
    rw [if_neg (by simp [codS])]
    simp [codS]
  have hk := blkS (c := codS l) (len := l.length + 1) l 0 0 (0 :: List.replicate l.length (-1), 0) (by omega) (by simp) (Int.le_refl _) (by simp) (fun j h1 h2 => by
    simp only [List.getD_eq_getElem?_getD]
    match j with
    | j + 1 =>
      rw [List.getElem?_cons_succ, List.getElem?_replicate, if_pos (by omega)]
      rfl) (by simp) (by simp)
  have hbl : blocksM (codS l) = ((blockM (codS l) (codS l).main 0).isSome, (blockM (codS l) (codS l).main 0).getD 0) := by
    unfold blocksM
    simp [codS]
  unfold checkM
  rw [if_neg (by simp [codS, sizeM]; omega), if_neg (by simp [codS]), if_neg (by simp [codS, boxes, rightM, entsOk, natOk]), hbl, hb]
  cases hs : strM l 0 with
  | true =>
    obtain ⟨m, h1, h2⟩ := hk.1 hs
    rw [h1]
    simp
    omega
  | false =>
    rw [hk.2 hs]
    simp
end Cd
