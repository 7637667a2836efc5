/-
  Code: the reference's Next: plain parts, and the walk.
-/
import Derived.Test.YtjogpbiilokldaaCdZe
set_option linter.unusedSimpArgs false
set_option linter.unusedVariables false
namespace Cd
theorem nxt {c : Cod} {i : Int} {n : Ins} {h fl p : Int} {q : Bool} (o6 : ¬ n.op = 6) (o9 : ¬ n.op = 9) (o11 : ¬ n.op = 11) (o13 : ¬ n.op = 13) (hp : plainM c n h = if q then some p else none) :
    nextM c i n h fl = if (decide (n.to.length = 0) && q) then (if p ≤ h - fl then some [(i + 1, h - p + 1)] else none) else none := by
  unfold nextM
  rw [if_neg o6, if_neg o13, if_neg o11, if_neg o9, hp]
  cases q <;> by_cases hl : n.to.length = 0 <;> simp [hl]
section
variable {c : Cod} {n : Ins} {h : Int}
theorem pl1 (o : n.op = 1) : plainM c n h = if n.zero then some 0 else none := by unfold plainM; rw [if_pos o]
theorem pl2 (o : n.op = 2) : plainM c n h = if inM n.a 0 1048576 && decide (n.b = 0) then some 0 else none := by unfold plainM; rw [if_neg (by omega), if_pos o]
theorem pl3 (o : n.op = 3) : plainM c n h = if inM n.a 0 (h - 1) && decide (n.b = 0) then some 0 else none := by unfold plainM; rw [if_neg (by omega), if_neg (by omega), if_pos o]
theorem pl4 (o : n.op = 4) : plainM c n h = if inM n.a 0 (c.funs.length - 1) && decide (some n.b = (c.funs[n.a.toNat]?).map Fn.caps) then some n.b else none := by unfold plainM; rw [if_neg (by omega), if_neg (by omega), if_neg (by omega), if_pos o]
theorem pl5 (o : n.op = 5) : plainM c n h = if n.zero then some 2 else none := by unfold plainM; rw [if_neg (by omega), if_neg (by omega), if_neg (by omega), if_neg (by omega), if_pos o]
theorem pl7 (o : n.op = 7) : plainM c n h = if inM n.a 0 (c.bodies.length - 1) && decide (0 < ((c.bodies[n.a.toNat]?).getD []).length) && decide (n.b = 0) then some 0 else none := by
  unfold plainM; rw [if_neg (by omega), if_neg (by omega), if_neg (by omega), if_neg (by omega), if_neg (by omega), if_pos o]
theorem pl8 (o : n.op = 8) : plainM c n h = if ctorM c n.a n.b then some n.b else none := by
  unfold plainM; rw [if_neg (by omega), if_neg (by omega), if_neg (by omega), if_neg (by omega), if_neg (by omega), if_neg (by omega), if_pos o]
theorem pl10 (o : n.op = 10) : plainM c n h = if n.zero then some 1 else none := by
  unfold plainM; rw [if_neg (by omega), if_neg (by omega), if_neg (by omega), if_neg (by omega), if_neg (by omega), if_neg (by omega), if_neg (by omega), if_pos o]
theorem pl12 (o : n.op = 12) : plainM c n h = if inM n.a 1 3 && decide (n.b = 0) then some 2 else none := by
  unfold plainM; rw [if_neg (by omega), if_neg (by omega), if_neg (by omega), if_neg (by omega), if_neg (by omega), if_neg (by omega), if_neg (by omega), if_neg (by omega), if_pos o]
theorem pl14 (o : n.op = 14) : plainM c n h = if decide (1 ≤ n.a) && decide (n.b = 0) then some (min n.a h + 1) else none := by
  unfold plainM; rw [if_neg (by omega), if_neg (by omega), if_neg (by omega), if_neg (by omega), if_neg (by omega), if_neg (by omega), if_neg (by omega), if_neg (by omega), if_neg (by omega), if_pos o]
theorem nx14 {i fl : Int} (o : n.op = 14) (hh : 0 ≤ h) (hf : 0 ≤ fl) : nextM c i n h fl = if (decide (n.to.length = 0) && (inM n.a 1 h && decide (n.b = 0))) then (if n.a + 1 ≤ h - fl then some [(i + 1, h - (n.a + 1) + 1)] else none) else none := by
  rw [nxt (by omega) (by omega) (by omega) (by omega) (pl14 o)]
  by_cases ha : n.a ≤ h
  · have : min n.a h = n.a := by omega
    rw [this]
    by_cases h1 : 1 ≤ n.a <;> simp [inM, ha, h1]
  · have : min n.a h = h := by omega
    rw [this]
    have h2 : ¬ h + 1 ≤ h - fl := by omega
    simp [inM, ha, h2]
theorem pl0 (h1 : ¬ n.op = 1) (h2 : ¬ n.op = 2) (h3 : ¬ n.op = 3) (h4 : ¬ n.op = 4) (h5 : ¬ n.op = 5) (h7 : ¬ n.op = 7) (h8 : ¬ n.op = 8) (h10 : ¬ n.op = 10) (h12 : ¬ n.op = 12) (h14 : ¬ n.op = 14) : plainM c n h = if false then some 0 else none := by
  unfold plainM; rw [if_neg h1, if_neg h2, if_neg h3, if_neg h4, if_neg h5, if_neg h7, if_neg h8, if_neg h10, if_neg h12, if_neg h14]; rfl
end
end Cd

namespace Go.Proofs.Ytjogpbiilokldaa
open Go.Wx Cd

def NextPost (c : Cod) (i : Int) (n : Ins) (h fl : Int) (w : World) (e : Ending) (w' : World) : Prop :=
  ∃ v ok, e = .returned (.tuple #[v, .bool ok]) ∧ Kp [] w w' ∧ match nextM c i n h fl with
    | some l => ok = true ∧ ∃ a cap, v = .slice a l.length cap ∧ Sl rPair (New w.heap.size w') a l
    | none => ok = false

theorem next_no {c : Cod} {i : Int} {n : Ins} {h fl : Int} {w w' : World} (v : Value) (hk : Kp [] w w') (e : nextM c i n h fl = none) : NextPost c i n h fl w (.returned (.tuple #[v, .bool false])) w' := ⟨v, false, rfl, hk, by rw [e]⟩
theorem next_yes {c : Cod} {i : Int} {n : Ins} {h fl : Int} {w w' : World} {l : List (Int × Int)} {a : Option Addr} {cap : Nat} (hk : Kp [] w w') (e : nextM c i n h fl = some l) (hs : Sl rPair (New w.heap.size w') a l) : NextPost c i n h fl w (.returned (.tuple #[.slice a l.length cap, .bool true])) w' := ⟨_, true, rfl, hk, by rw [e]; exact ⟨rfl, a, cap, rfl, hs⟩⟩

theorem pairs_row {w : World} {b n : Nat} {l : List (Int × Int)} (hn : n ≤ b) (h : Bk w.heap b (l.flatMap fun x => [.int .i64 x.1, .int .i64 x.2]) 108) (h64 : ∀ x ∈ l, I64 x.1 ∧ I64 x.2) (hl : l.length ≤ 2) : Sl rPair (New n w) (some ⟨b, 0, none⟩) l := by
  refine ⟨by omega, .inr ⟨b, 0, rfl, fun i x hi => ⟨[.int .i64 x.1, .int .i64 x.2], ⟨rfl, h64 x (List.mem_of_getElem? hi)⟩, fun j v hj => ⟨hn, h.cu ?_⟩⟩⟩⟩
  match l, hl, i with
  | [y], _, 0 =>
    simp at hi
    subst hi
    simpa using hj
  | [y, z], _, 0 =>
    simp at hi
    subst hi
    match j with
    | 0 => simpa using hj
    | 1 => simpa using hj
    | j + 2 => simp at hj
  | [y, z], _, 1 =>
    simp at hi
    subst hi
    match j with
    | 0 => exact hj
    | 1 => exact hj
    | j + 2 => simp at hj
  | [y], _, i + 1 => simp at hi
  | [y, z], _, i + 2 => simp at hi
  | [], _, i => simp at hi
end Go.Proofs.Ytjogpbiilokldaa
