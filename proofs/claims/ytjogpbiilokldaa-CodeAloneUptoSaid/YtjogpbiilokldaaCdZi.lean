/-
  Code, in plain Lean: blocks beside others; a store into a row of one's own.
-/
import Derived.Test.YtjogpbiilokldaaCdZh
set_option linter.unusedSimpArgs false
set_option linter.unusedVariables false
namespace Go.Wx
theorem flat_set {α : Type} {k : Nat} : ∀ (css : List (List α)), (∀ cs ∈ css, cs.length = k) → ∀ (i j : Nat) (cs : List α) (u : α), css[i]? = some cs → j < k → (css.set i (cs.set j u)).flatten = css.flatten.set (i * k + j) u
  | [], _, i, j, cs, u, h1, _ => by simp at h1
  | c :: r, h, 0, j, cs, u, h1, h2 => by
    simp at h1
    subst h1
    have hc := h c (by simp)
    rw [List.set_cons_zero, List.flatten_cons, List.flatten_cons, Nat.zero_mul, Nat.zero_add, List.set_append_left _ _ (by omega)]
  | c :: r, h, i + 1, j, cs, u, h1, h2 => by
    have hc := h c (by simp)
    have := flat_set r (fun c hc => h c (by simp [hc])) i j cs u (by simpa using h1) h2
    rw [List.set_cons_succ, List.flatten_cons, List.flatten_cons, this, List.set_append_right _ _ (by rw [hc, Nat.add_mul]; omega)]
    rw [show (i + 1) * k + j - c.length = i * k + j by rw [hc, Nat.add_mul]; omega]
theorem All2.set {α β : Type} {p : β → α → Prop} {b : β} {a : α} (h0 : p b a) : ∀ {l : List β} {m : List α} {i : Nat}, All2 p l m → All2 p (l.set i b) (m.set i a)
  | [], [], _, _ => trivial
  | _ :: _, _ :: _, 0, h => ⟨h0, h.2⟩
  | _ :: _, _ :: _, i + 1, h => ⟨h.1, All2.set h0 h.2⟩
  | [], _ :: _, _, h => h.elim
  | _ :: _, [], _, h => h.elim

/-- a cell of an element of a row of one's own -/
theorem Own.st {α : Type} {R : Rd α} {e lo : Nat} {w : World} {v : Value} {l : List α} (h : Own R e lo w v l) {i j : Nat} {x y : α} (hi : l[i]? = some x) (hj : j < R.sz) {u : Value} (hu : u.oneCell' = true)
    (hy : ∀ cs, R.den (Dn lo v w) cs x → R.den (Dn lo v w) (cs.set j u) y) :
    ∃ g cap, v = .slice (some ⟨g, 0, none⟩) l.length cap ∧ lo ≤ g ∧
      ∀ {K : World → Prop}, (∀ w', Own R e lo w' v (l.set i y) → w'.heap.size = w.heap.size → Kp [g] w w' → K w') → EvSt w ⟨g, 0 + i * R.sz + j, none⟩ u K := by
  obtain ⟨⟨css, h1, h2⟩, h3⟩ := h
  have hil := get_lt hi
  have hlen := h2.length
  have hk : ∀ cs ∈ css, cs.length = R.sz := by
    intro cs hcs
    obtain ⟨i, hi⟩ := List.getElem?_of_mem hcs
    have hil := (List.getElem?_eq_some_iff.1 hi).1
    obtain ⟨cs', h4, h5⟩ := h2.get (i := i) (a := l[i]'(by omega)) (by simp)
    rw [hi] at h4
    obtain rfl := Option.some.inj h4
    exact R.len h5
  rcases h1 with ⟨hl1, ⟨rfl, h0⟩ | ⟨g, cap, cur, rfl, hb, hg, hn, hm, hc, ht⟩⟩
  · omega
  refine ⟨g, cap, rfl, hb, fun {K} hK => ?_⟩
  obtain ⟨cs, hcs, hden⟩ := h2.get hi
  have hB : Bk w.heap g cur.toList e := by unfold Bk; simpa using hg
  have hlt : i * R.sz + j < l.length * R.sz := by
    have : (i + 1) * R.sz ≤ l.length * R.sz := Nat.mul_le_mul_right _ (by omega)
    rw [Nat.add_mul] at this
    omega
  have hle : l.length * R.sz ≤ cap * R.sz := Nat.mul_le_mul_right _ hn
  rw [Nat.zero_add]
  refine Go.Wx.st hB (by simp; omega) hu fun w' hB' hs hkp => hK w' ?_ hs hkp
  refine ⟨⟨css.set i (cs.set j u), ⟨?_, .inr ⟨g, cap, (cur.toList.set (i * R.sz + j) u).toArray, by simp, hb, ?_, by simpa using hn, hm, by simp [hc], ?_⟩⟩, ?_⟩, by omega⟩
  · rw [flat_set css hk i j cs u hcs hj]
    simpa using hl1
  · simpa [Bk] using hB'
  · rw [flat_set css hk i j cs u hcs hj]
    simp only [List.length_set]
    rw [List.take_set, ht]
  · have step : ∀ b o u, Dn lo (.slice (some ⟨g, 0, none⟩) l.length cap) w b o u → Dn lo (.slice (some ⟨g, 0, none⟩) l.length cap) w' b o u := fun b o u hu => ⟨hu.1, hu.2.1, hu.2.2.kp hkp (by
      have h := hu.2.1
      simp [Value.ownBlock] at h
      simpa using h)⟩
    exact All2.set (R.mono step (hy cs hden)) (h2.mono fun cs x hx => R.mono step hx)

/-- another reading of the same cells -/
theorem Own.rd {α : Type} {R R' : Rd α} {e lo : Nat} {w : World} {v : Value} {l : List α} (h : Own R e lo w v l) (hz : R'.sz = R.sz) (hr : ∀ cs x, R.den (Dn lo v w) cs x → R'.den (Dn lo v w) cs x) : Own R' e lo w v l := by
  obtain ⟨⟨css, h1, h2⟩, h3⟩ := h
  exact ⟨⟨css, by rw [hz]; exact h1, h2.mono hr⟩, h3⟩
end Go.Wx

namespace Cd
open Go Go.Wx

theorem blkM_mono {c d : Cod} (hn : ∀ i n h fl l, nextM c i n h fl = some l → nextM d i n h fl = some l) {len : Nat} {fl r : Int} : ∀ {code : List Ins} {i : Nat} {s : List Int × Int}, blkM c len fl i code s = some r → blkM d len fl i code s = some r
  | [], i, s, h => h
  | n :: code, i, s, h => by
    simp only [blkM] at h ⊢
    split at h
    · cases h
    rename_i h0
    rw [if_neg h0]
    unfold oneM at h ⊢
    cases h1 : nextM c i n (s.1.getD i 0) fl with
    | none => rw [h1] at h; cases h
    | some l =>
      rw [h1] at h
      rw [hn _ _ _ _ _ h1]
      cases h2 : goM len i l s with
      | none =>
        simp [h2] at h
      | some s' =>
        have h3 : blkM c len fl (i + 1) code s' = some r := by simpa [h2] using h
        simpa [h2] using blkM_mono hn h3
theorem blockM_mono {c d : Cod} (hn : ∀ i n h fl l, nextM c i n h fl = some l → nextM d i n h fl = some l) {code : List Ins} {fl r : Int} (h : blockM c code fl = some r) : blockM d code fl = some r := by
  unfold blockM at h ⊢
  split at h
  · cases h
  rename_i h0
  rw [if_neg h0]
  exact blkM_mono hn h
theorem blockM_eq {c d : Cod} (hn : ∀ i n h fl, nextM c i n h fl = nextM d i n h fl) (code : List Ins) (fl : Int) : blockM c code fl = blockM d code fl := by
  cases h : blockM c code fl with
  | some r => exact (blockM_mono (fun i n h fl l e => by rw [← hn]; exact e) h).symm
  | none =>
    cases h' : blockM d code fl with
    | none => rfl
    | some r =>
      have := blockM_mono (d := c) (fun i n h fl l e => by rw [hn]; exact e) h'
      rw [h] at this
      cases this

theorem next_funs {c d : Cod} (h1 : d.shapes = c.shapes) (h2 : d.nat = c.nat) (h3 : d.bodies = c.bodies) (h4 : ∀ (k : Nat) (f : Cd.Fn), c.funs[k]? = some f → (d.funs[k]?).map Fn.caps = some f.caps) (i : Int) (n : Ins) (h fl : Int) (l : List (Int × Int)) (e : nextM c i n h fl = some l) : nextM d i n h fl = some l := by
  have hle : c.funs.length ≤ d.funs.length := by
    cases hl : c.funs.length with
    | zero => omega
    | succ m =>
      have := h4 m (c.funs[m]'(by omega)) (by simp)
      cases hd : d.funs[m]? with
      | none => rw [hd] at this; cases this
      | some f => have := get_lt hd; omega
  have hfam : ∀ x, famM d x = famM c x := fun x => by unfold famM; rw [h1, h3]
  have hkept : ∀ x, keptM d x = keptM c x := fun x => by unfold keptM; rw [h1]
  have hctor : ∀ x y, ctorM d x y = ctorM c x y := fun x y => by unfold ctorM; rw [hfam, hkept]
  have hpl : ∀ p, plainM c n h = some p → plainM d n h = some p := fun p e => by
    unfold plainM at e ⊢
    rw [hctor, h3]
    by_cases h4' : n.op = 4
    · rw [if_neg (by omega), if_neg (by omega), if_neg (by omega), if_pos h4'] at e ⊢
      split at e
      · rename_i hc
        simp only [Bool.and_eq_true, decide_eq_true_eq, inM] at hc
        cases hf : c.funs[n.a.toNat]? with
        | none => rw [hf] at hc; simp at hc
        | some f =>
          rw [hf] at hc
          rw [if_pos]
          · exact e
          · simp only [Bool.and_eq_true, decide_eq_true_eq, inM, h4 _ f hf]
            exact ⟨⟨hc.1.1, by omega⟩, hc.2⟩
      · cases e
    · rw [if_neg (c := n.op = 4) h4'] at e ⊢
      exact e
  unfold nextM at e ⊢
  unfold armsM at e ⊢
  rw [hfam, hkept, h2]
  by_cases g6 : n.op = 6
  · rw [if_pos g6] at e ⊢; exact e
  rw [if_neg g6] at e ⊢
  by_cases g13 : n.op = 13
  · rw [if_pos g13] at e ⊢; exact e
  rw [if_neg g13] at e ⊢
  by_cases g11 : n.op = 11
  · rw [if_pos g11] at e ⊢; exact e
  rw [if_neg g11] at e ⊢
  by_cases g9 : n.op = 9
  · rw [if_pos g9] at e ⊢; exact e
  rw [if_neg g9] at e ⊢
  cases hp : plainM c n h with
  | none => rw [hp] at e; cases e
  | some p => rw [hp] at e; rw [hpl p hp]; exact e

/-- the shortest block -/
def boxI : List Ins := [⟨1, 0, 0, []⟩, ⟨6, 0, 0, []⟩]
theorem boxI_ok (c : Cod) {fl : Int} (hf : 0 ≤ fl) : blockM c boxI fl = some (fl + 1) := by
  have h1 : ¬ fl = -1 := by omega
  have h2 : ¬ fl + 1 = -1 := by omega
  have h3 : fl + 1 - fl = 1 := by omega
  have h4 : max fl (fl + 1) = fl + 1 := by omega
  simp [blockM, boxI, blkM, oneM, nextM, plainM, Ins.zero, goM, goesM, h1, h2, h3, h4]

theorem nextM_ne {c : Cod} {i : Int} {n : Ins} {h fl : Int} (e : nextM c i n h fl = some []) : h - fl = 1 := by
  unfold nextM at e
  split at e
  · split at e
    · rename_i hb
      simp only [Bool.and_eq_true, decide_eq_true_eq] at hb
      exact hb.2
    · cases e
  split at e
  · split at e <;> cases e
  split at e
  · split at e <;> cases e
  split at e
  · split at e
    · unfold armsM at e
      split at e
      · rename_i hb
        simp only [Bool.and_eq_true, decide_eq_true_eq] at hb
        cases hk : keptM c n.a with
        | nil => rw [hk] at hb; simp at hb; omega
        | cons k r =>
          rw [hk] at e
          match hto : n.to with
          | [] => rw [hto] at e; simp [armsL] at e
          | [_] => rw [hto] at e; simp [armsL] at e
          | x :: m :: to =>
            rw [hto] at e
            simp only [armsL] at e
            split at e
            · cases h1 : armsL r to h with
              | none => rw [h1] at e; cases e
              | some l => rw [h1] at e; cases e
            · cases e
      · cases e
    · cases e
  split at e
  · split at e <;> cases e
  · cases e

theorem blockM_two {c : Cod} {code : List Ins} {fl r : Int} (h : blockM c code fl = some r) : 2 ≤ code.length := by
  match code with
  | [] => simp [blockM] at h
  | _ :: _ :: _ => simp
  | [n] =>
    exfalso
    simp only [blockM, List.length_singleton, Nat.one_ne_zero, if_false, blkM] at h
    split at h
    · cases h
    unfold oneM at h
    simp only [Nat.sub_self, List.replicate_zero] at h
    cases h1 : nextM c (0 : Nat) n ([fl].getD 0 0) fl with
    | none => rw [h1] at h; cases h
    | some l =>
      rw [h1] at h
      cases l with
      | nil =>
        have := nextM_ne h1
        simp at this
      | cons t l =>
        have : goesM 1 (0 : Nat) t ([fl], fl) = none := by
          unfold goesM
          rw [if_pos (by omega)]
        simp only [Option.bind_some, goM, this] at h
        cases h

/-! ### all blocks -/
theorem foldF1 {c : Cod} : ∀ (l : List Cd.Fn) (s : Bool × Int), (l.foldl (stepF c) s).1 = (s.1 && l.all fun f => (blockM c f.code (f.caps + 1)).isSome)
  | [], s => by simp
  | f :: l, s => by rw [List.foldl_cons, foldF1 l]; simp [stepF, stepB, Bool.and_assoc]
theorem foldY1 {c : Cod} : ∀ (l : List (List Ins)) (s : Bool × Int), (l.foldl (stepY c) s).1 = (s.1 && l.all fun b => decide (b.length = 0) || (blockM c b 0).isSome)
  | [], s => by simp
  | b :: l, s => by
    rw [List.foldl_cons, foldY1 l]
    by_cases hb : 0 < b.length
    · have e : stepY c s b = stepB c s b 0 := by unfold stepY; rw [if_pos hb]
      rw [e, List.all_cons, decide_eq_false (by omega)]
      simp [stepB, Bool.and_assoc]
    · have e : stepY c s b = s := by unfold stepY; rw [if_neg hb]
      rw [e, List.all_cons, decide_eq_true (by omega)]
      simp
theorem foldF2 {c : Cod} {M : Int} : ∀ (l : List Cd.Fn) (s : Bool × Int), s.2 ≤ M → (∀ f ∈ l, (blockM c f.code (f.caps + 1)).getD 0 ≤ M) → (l.foldl (stepF c) s).2 ≤ M
  | [], s, h, _ => h
  | f :: l, s, h, hl => by
    rw [List.foldl_cons]
    refine foldF2 l _ ?_ fun g hg => hl g (by simp [hg])
    have := hl f (by simp)
    simp only [stepF, stepB]
    omega
theorem foldY2 {c : Cod} {M : Int} : ∀ (l : List (List Ins)) (s : Bool × Int), s.2 ≤ M → (∀ b ∈ l, 0 < b.length → (blockM c b 0).getD 0 ≤ M) → (l.foldl (stepY c) s).2 ≤ M
  | [], s, h, _ => h
  | b :: l, s, h, hl => by
    rw [List.foldl_cons]
    refine foldY2 l _ ?_ fun g hg => hl g (by simp [hg])
    unfold stepY
    split
    · rename_i h0
      have := hl b (by simp) h0
      simp only [stepB]
      omega
    · exact h

structure Ok0 (c : Cod) : Prop where
  len : c.bodies.length ≤ 64 ∧ c.shapes.length ≤ 64 ∧ c.funs.length ≤ 4096 ∧ sizeM c ≤ 16384
  caps : ∀ f ∈ c.funs, 0 ≤ f.caps ∧ f.caps ≤ 255
  right : rightM (boxes c) c.shapes c.nat = true
  main : ∃ r, blockM c c.main 0 = some r ∧ r ≤ 4096
  funs : ∀ f ∈ c.funs, ∃ r, blockM c f.code (f.caps + 1) = some r ∧ r ≤ 4096
  bodies : ∀ b ∈ c.bodies, 0 < b.length → ∃ r, blockM c b 0 = some r ∧ r ≤ 4096

theorem caps_any {l : List Cd.Fn} : l.any (fun f => !inM f.caps 0 255) = false ↔ ∀ f ∈ l, 0 ≤ f.caps ∧ f.caps ≤ 255 := by
  rw [List.any_eq_false]
  refine forall_congr' fun f => forall_congr' fun _ => ?_
  simp [inM]

theorem not5 {c : Cod} (h : checkM c ≠ 5) : (c.bodies.length ≤ 64 ∧ c.shapes.length ≤ 64 ∧ c.funs.length ≤ 4096 ∧ sizeM c ≤ 16384) ∧ (∀ f ∈ c.funs, 0 ≤ f.caps ∧ f.caps ≤ 255) ∧
    checkM c = if rightM (boxes c) c.shapes c.nat = false then 27 else if (blocksM c).1 = false then 27 else if 4096 < (blocksM c).2 then 5 else 0 := by
  unfold checkM at h ⊢
  by_cases g1 : 64 < c.bodies.length ∨ 64 < c.shapes.length ∨ 4096 < c.funs.length ∨ 16384 < sizeM c
  · rw [if_pos g1] at h; exact absurd rfl h
  rw [if_neg g1] at h ⊢
  by_cases g2 : c.funs.any (fun f => !inM f.caps 0 255) = true
  · rw [if_pos g2] at h; exact absurd rfl h
  rw [if_neg g2]
  exact ⟨by omega, caps_any.1 (by simpa using g2), rfl⟩

theorem check0 {c : Cod} (h : checkM c = 0) : Ok0 c := by
  obtain ⟨h1, h2, h3⟩ := not5 (c := c) (by omega)
  rw [h3] at h
  split at h
  · cases h
  rename_i g3
  split at h
  · cases h
  rename_i g4
  split at h
  · cases h
  rename_i g5
  have hok : (blocksM c).1 = true := by simpa using g4
  obtain ⟨y1, y2, y3⟩ := foldY c.bodies _ hok
  obtain ⟨f1, f2, f3⟩ := foldF c.funs _ y1
  have e : blocksM c = c.bodies.foldl (stepY c) (c.funs.foldl (stepF c) ((blockM c c.main 0).isSome, (blockM c c.main 0).getD 0)) := rfl
  rw [e] at g5
  refine ⟨h1, h2, by simpa using g3, ?_, fun f hf => ?_, fun b hb h0 => ?_⟩
  · have f1 : (blockM c c.main 0).isSome = true := f1
    cases hb : blockM c c.main 0 with
    | none => rw [hb] at f1; simp at f1
    | some r =>
      rw [hb] at f2 y2 g5
      simp only [Option.getD_some] at f2 y2 g5
      exact ⟨r, rfl, by omega⟩
  · obtain ⟨r, g1, g2⟩ := f3 f hf
    exact ⟨r, g1, by omega⟩
  · obtain ⟨r, g1, g2⟩ := y3 b hb h0
    exact ⟨r, g1, by omega⟩

theorem check0_of {c : Cod} (h : Ok0 c) : checkM c = 0 := by
  obtain ⟨⟨l1, l2, l3, l4⟩, h2, h3, ⟨r, h4, h4'⟩, h5, h6⟩ := h
  unfold checkM
  rw [if_neg (by omega), if_neg (by rw [caps_any.2 h2]; simp), if_neg (by rw [h3]; simp)]
  have e : blocksM c = c.bodies.foldl (stepY c) (c.funs.foldl (stepF c) ((blockM c c.main 0).isSome, (blockM c c.main 0).getD 0)) := rfl
  rw [if_neg, if_neg]
  · have := foldY2 (c := c) (M := 4096) c.bodies (c.funs.foldl (stepF c) ((blockM c c.main 0).isSome, (blockM c c.main 0).getD 0)) (foldF2 _ _ (by rw [h4]; exact h4') fun f hf => by
      obtain ⟨r, g1, g2⟩ := h5 f hf
      rw [g1]; exact g2) fun b hb h0 => by
      obtain ⟨r, g1, g2⟩ := h6 b hb h0
      rw [g1]; exact g2
    rw [e]
    omega
  · rw [e, foldY1, foldF1, h4]
    have a1 : c.funs.all (fun f => (blockM c f.code (f.caps + 1)).isSome) = true := List.all_eq_true.2 fun f hf => by
      obtain ⟨r, g1, g2⟩ := h5 f hf
      rw [g1]; rfl
    have a2 : c.bodies.all (fun b => decide (b.length = 0) || (blockM c b 0).isSome) = true := List.all_eq_true.2 fun b hb => by
      by_cases h0 : b.length = 0
      · simp [h0]
      · obtain ⟨r, g1, g2⟩ := h6 b hb (by omega)
        rw [g1]; simp
    rw [a1, a2]
    simp

/-- the main block put aside -/
theorem alone_main {c : Cod} (h : checkM c = 0) : checkM { c with main := boxI } = 0 := by
  obtain ⟨⟨l1, l2, l3, l4⟩, h2, h3, ⟨r, h4, h4'⟩, h5, h6⟩ := check0 h
  have hb : ∀ code fl, blockM { c with main := boxI } code fl = blockM c code fl := fun code fl => blockM_eq (c := { c with main := boxI }) (d := c) (fun _ _ _ _ => rfl) code fl
  have h2' := blockM_two h4
  refine check0_of ⟨⟨l1, l2, l3, ?_⟩, h2, h3, ⟨1, boxI_ok _ (Int.le_refl _), by omega⟩, fun f hf => by rw [hb]; exact h5 f hf, fun b hb' h0 => by rw [hb]; exact h6 b hb' h0⟩
  unfold sizeM at l4 ⊢
  simp only [boxI, List.length_cons, List.length_nil]
  omega

def boxF (f : Cd.Fn) : Cd.Fn := { f with code := boxI }
/-- the functions' blocks put aside -/
theorem alone_funs {c : Cod} (h : checkM c = 0) : checkM { c with funs := c.funs.map boxF } = 0 := by
  obtain ⟨⟨l1, l2, l3, l4⟩, h2, h3, h4, h5, h6⟩ := check0 h
  have hb : ∀ code fl r, blockM c code fl = some r → blockM { c with funs := c.funs.map boxF } code fl = some r := fun code fl r hr => blockM_mono (c := c) (d := { c with funs := c.funs.map boxF }) (next_funs rfl rfl rfl fun k f hf => by simp [hf, boxF]) hr
  refine check0_of ⟨⟨l1, l2, by simpa using l3, ?_⟩, fun f hf => ?_, h3, ?_, fun f hf => ?_, fun b hb' h0 => ?_⟩
  · have : ∀ l : List Cd.Fn, (∀ f ∈ l, 2 ≤ f.code.length) → ((l.map boxF).map fun f => f.code.length).sum ≤ (l.map fun f => f.code.length).sum := by
      intro l
      induction l with
      | nil => simp
      | cons f r ih =>
        intro hl
        have := ih fun g hg => hl g (by simp [hg])
        have := hl f (by simp)
        simp only [List.map_cons, List.sum_cons, boxF, boxI, List.length_cons, List.length_nil] at *
        omega
    have := this c.funs fun f hf => by
      obtain ⟨r, g1, _⟩ := h5 f hf
      exact blockM_two g1
    unfold sizeM at l4 ⊢
    simp only at *
    omega
  · obtain ⟨g, hg, rfl⟩ := List.mem_map.1 hf
    exact h2 g hg
  · obtain ⟨r, g1, g2⟩ := h4
    exact ⟨r, hb _ _ _ g1, g2⟩
  · obtain ⟨g, hg, rfl⟩ := List.mem_map.1 hf
    have := h2 g hg
    exact ⟨g.caps + 1 + 1, boxI_ok _ (by simp [boxF]; omega), by omega⟩
  · obtain ⟨r, g1, g2⟩ := h6 b hb' h0
    exact ⟨r, hb _ _ _ g1, g2⟩

/-- a function more -/
theorem alone_more {c : Cod} {f : Cd.Fn} (h : checkM c = 0) (h5 : checkM { c with funs := c.funs ++ [f] } ≠ 5) : decide (checkM { c with funs := c.funs ++ [f] } = 0) = (blockM { c with funs := c.funs ++ [f] } f.code (f.caps + 1)).isSome := by
  obtain ⟨d, hd⟩ : ∃ d : Cod, d = { c with funs := c.funs ++ [f] } := ⟨_, rfl⟩
  rw [← hd] at h5 ⊢
  obtain ⟨⟨l1, l2, l3, l4⟩, h2, h3, h4, hf, h6⟩ := check0 h
  have hb : ∀ code fl r, blockM c code fl = some r → blockM d code fl = some r := fun code fl r hr => blockM_mono (next_funs (by rw [hd]) (by rw [hd]) (by rw [hd]) fun k g hg => by
    rw [hd]
    simp only
    rw [List.getElem?_append_left (get_lt hg), hg]
    rfl) hr
  obtain ⟨_, _, e⟩ := not5 h5
  cases hb' : blockM d f.code (f.caps + 1) with
  | none =>
    simp only [Option.isSome_none]
    refine decide_eq_false fun h0 => ?_
    obtain ⟨r, g1, _⟩ := (check0 h0).funs f (by rw [hd]; simp)
    rw [hb'] at g1
    cases g1
  | some r =>
    simp only [Option.isSome_some]
    refine decide_eq_true ?_
    rw [e] at h5 ⊢
    have hr : rightM (boxes d) d.shapes d.nat = true := by rw [hd]; exact h3
    rw [if_neg (by rw [hr]; simp)] at h5 ⊢
    have hok : (blocksM d).1 = true := by
      have e : blocksM d = d.bodies.foldl (stepY d) (d.funs.foldl (stepF d) ((blockM d d.main 0).isSome, (blockM d d.main 0).getD 0)) := rfl
      rw [e, foldY1, foldF1]
      simp only [Bool.and_eq_true]
      refine ⟨⟨?_, List.all_eq_true.2 fun g hg => ?_⟩, List.all_eq_true.2 fun b hbm => ?_⟩
      · obtain ⟨r, g1, _⟩ := h4
        have := hb _ _ _ g1
        rw [show d.main = c.main by rw [hd], this]
        rfl
      · rw [hd] at hg
        rcases List.mem_append.1 hg with hg | hg
        · obtain ⟨r, g1, _⟩ := hf g hg
          rw [hb _ _ _ g1]
          rfl
        · simp at hg
          subst hg
          rw [hb']
          rfl
      · by_cases h0 : b.length = 0
        · simp [h0]
        · obtain ⟨r, g1, _⟩ := h6 b (by rw [hd] at hbm; exact hbm) (by omega)
          rw [hb _ _ _ g1]
          simp
    rw [if_neg (by rw [hok]; simp)] at h5 ⊢
    split at h5
    · exact absurd rfl h5
    · rename_i h9
      rw [if_neg h9]
end Cd
