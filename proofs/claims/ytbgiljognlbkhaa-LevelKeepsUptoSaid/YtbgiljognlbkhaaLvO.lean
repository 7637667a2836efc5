/-
  Levels: the arguments opened: orders, atoms, numbers.
-/
import Derived.Test.YtbgiljognlbkhaaLvU
import Derived.Test.YtbgiljognlbkhaaWxE
import Derived.Deep.Slices
set_option linter.unusedSimpArgs false
set_option linter.unusedVariables false
set_option maxRecDepth 100000
namespace Go.Proofs.Ytbgiljognlbkhaa
open Go.Wx Lv Go.ChangeShapes Go.WideShapes Go.ChangeAt Go.RowKit

theorem i64_wf {n : Int} (h : (Lit.int .i64 n).wf = true) : I64 n := by
  have := bounds_i64 h
  exact this

section
variable {H : Type} {enc : TypeId × Value → H} {w : World} {spare : Nat → Bool} {held : Bool}

theorem addr_plain {a : Addr} {v : Value} (h : w.cell? a = some v) : ∃ b o, a = ⟨b, o, none⟩ ∧ b < w.heap.size := by
  obtain ⟨b, o, s⟩ := a
  unfold World.cell? at h
  split at h
  · rename_i c T fz hb
    have hlt : b < w.heap.size := (Array.getElem?_eq_some_iff.1 hb).1
    cases s with
    | none => exact ⟨b, o, rfl, hlt⟩
    | some _ => simp at h
  · cases h

/-- rows of k cells -/
theorem open_rw {t e : TypeId} {k : Nat} (hk : 0 < k) {α : Type} [Inhabited α] (cell : α → Nat → Value) (good : α → Prop) (ht : Try.prog.underlying t = some (.slice e)) (hc : Try.prog.cellsOf e = k)
    (one : ∀ (cs : List Value) (n : Nat) (y : DataW H × List MemPlace), cs.length = k → DataW.trod enc Try.prog w 0 spare held n e cs = some y → ∃ x : α, good x ∧ ∀ j, j < k → cs[j]? = some (cell x j))
    {fuel : Nat} {v : Value} {x : DataW H × List MemPlace} (h : DataW.trod enc Try.prog w 0 spare held fuel t [v] = some x) :
    ∃ (a : Option Addr) (l : List α) (cap : Nat), v = .slice a l.length cap ∧ Rw w.heap.size w.heap a k l.length (fun i j => cell (l.getD i default) j) ∧ (∀ x ∈ l, good x) ∧ (l.length : Int) ≤ 9223372036854775807 := by
  rcases Go.Deep.open_slice ht h with ⟨h1, rfl⟩ | ⟨a, len, cap, m, n, D, Pl, h1, hb, hl, hm, hmm, rfl, hx⟩
  · simp only [List.cons.injEq, and_true] at h1
    subst h1
    exact ⟨none, [], 0, rfl, .inl rfl, by simp, by simp⟩
  simp only [List.cons.injEq, and_true] at h1
  subst h1
  have hlm : len ≤ m := by rw [hmm]; split <;> omega
  rw [hc] at hx
  have each : ∀ i, i < len → ∃ x : α, good x ∧ ∀ j, j < k → w.cell? (a.add (i * k + j)) = some (cell x j) := by
    intro i hi
    obtain ⟨cs', h1, h2⟩ := hx i (by omega)
    obtain ⟨_, hlen, hcell⟩ := World.cells?_some h1
    obtain ⟨x, hg, hx⟩ := one cs' n _ hlen h2
    refine ⟨x, hg, fun j hj => ?_⟩
    rw [← hx j hj, ← hcell j hj, Go.Deep.add_add]
  obtain ⟨q, hq⟩ := Go.Deep.choose_lt each
  refine ⟨some a, (List.range len).map q, cap, by simp, ?_, fun x hx => ?_, ?_⟩
  · by_cases h0 : len = 0
    · exact .inl (by simp [h0])
    have hz := (hq 0 (by omega)).2 0 hk
    simp only [Nat.zero_mul, Nat.add_zero] at hz
    have hz' : w.cell? a = some (cell (q 0) 0) := by simpa [Addr.add] using hz
    obtain ⟨b, o, rfl, hlt⟩ := addr_plain hz'
    refine .inr ⟨b, o, rfl, hlt, fun i j hi hj => ?_⟩
    have hi' : i < len := by simpa using hi
    have := (hq i hi').2 j hj
    rw [add_plain] at this
    show Cl w.heap b (o + i * k + j) (cell ((List.map q (List.range len)).getD i default) j)
    rw [show (List.map q (List.range len)).getD i default = q i by simp [List.getD, hi']]
    exact Cl.of (by rw [Nat.add_assoc]; exact this)
  · obtain ⟨i, hi, rfl⟩ := List.mem_map.1 hx
    exact (hq i (by simpa using hi)).1
  · simp only [List.length_map, List.length_range]
    have : maxLen ≤ 9223372036854775807 := by decide
    omega

theorem open_ints' {fuel : Nat} {v : Value} {x : DataW H × List MemPlace} (h : DataW.trod enc Try.prog w 0 spare held fuel 23 [v] = some x) :
    ∃ (a : Option Addr) (l : List Int) (cap : Nat), v = .slice a l.length cap ∧ Ints w.heap.size w.heap a l ∧ (l.length : Int) ≤ 9223372036854775807 := by
  obtain ⟨a, l, cap, h1, h2, h3, h4⟩ := open_rw (k := 1) (by omega) (fun (x : Int) _ => .int .i64 x) I64 Try.underlying23 (by kernel_rfl) (fun cs n y hl hn => by
    obtain ⟨z, rfl, rfl, hw⟩ := DataW.trod_int Try.underlying3 hn
    exact ⟨z, i64_wf hw, fun j hj => by simp [show j = 0 by omega]⟩) h
  exact ⟨a, l, cap, h1, ⟨h2, h3⟩, h4⟩

theorem open_atoms {fuel : Nat} {v : Value} {x : DataW H × List MemPlace} (h : DataW.trod enc Try.prog w 0 spare held fuel 27 [v] = some x) :
    ∃ (a : Option Addr) (l : List Atom) (cap : Nat), v = .slice a l.length cap ∧ Atoms w.heap.size w.heap a l ∧ (l.length : Int) ≤ 9223372036854775807 := by
  obtain ⟨a, l, cap, h1, h2, h3, h4⟩ := open_rw (k := 2) (by omega) (fun (x : Atom) j => .int .i64 (if j = 0 then x.var else x.add)) (fun x => I64 x.var ∧ I64 x.add) Try.underlying27 (by kernel_rfl) (fun cs n y hl hn => by
    obtain ⟨xs, m, rfl, rfl, _, hxl, hf⟩ := DataW.trod_struct Try.underlying52 hn
    match cs, hl, xs, hxl with
    | [c0, c1], _, [x0, x1], _ =>
      have g0 := hf 0 _ rfl
      have g1 := hf 1 _ rfl
      simp [show Try.prog.cellsOf 3 = 1 by kernel_rfl] at g0 g1
      obtain ⟨z0, e0, _, w0⟩ := DataW.trod_int Try.underlying3 g0
      obtain ⟨z1, e1, _, w1⟩ := DataW.trod_int Try.underlying3 g1
      simp at e0 e1
      subst e0 e1
      refine ⟨⟨z0, z1⟩, ⟨i64_wf w0, i64_wf w1⟩, fun j hj => ?_⟩
      match j, hj with
      | 0, _ => rfl
      | 1, _ => rfl) h
  exact ⟨a, l, cap, h1, ⟨h2, h3⟩, h4⟩

theorem open_orders {fuel : Nat} {v : Value} {x : DataW H × List MemPlace} (h : DataW.trod enc Try.prog w 0 spare held fuel 22 [v] = some x) :
    ∃ (a : Option Addr) (l : List Order) (cap : Nat), v = .slice a l.length cap ∧ Orders w.heap.size w.heap a l ∧ (l.length : Int) ≤ 9223372036854775807 := by
  obtain ⟨a, l, cap, h1, h2, h3, h4⟩ := open_rw (k := 3) (by omega) (fun (x : Order) j => .int .i64 (if j = 0 then x.low else if j = 1 then x.add else x.high)) (fun x => I64 x.low ∧ I64 x.add ∧ I64 x.high) Try.underlying22 (by kernel_rfl) (fun cs n y hl hn => by
    obtain ⟨xs, m, rfl, rfl, _, hxl, hf⟩ := DataW.trod_struct Try.underlying37 hn
    match cs, hl, xs, hxl with
    | [c0, c1, c2], _, [x0, x1, x2], _ =>
      have g0 := hf 0 _ rfl
      have g1 := hf 1 _ rfl
      have g2 := hf 2 _ rfl
      simp [show Try.prog.cellsOf 3 = 1 by kernel_rfl] at g0 g1 g2
      obtain ⟨z0, e0, _, w0⟩ := DataW.trod_int Try.underlying3 g0
      obtain ⟨z1, e1, _, w1⟩ := DataW.trod_int Try.underlying3 g1
      obtain ⟨z2, e2, _, w2⟩ := DataW.trod_int Try.underlying3 g2
      simp at e0 e1 e2
      subst e0 e1 e2
      refine ⟨⟨z0, z1, z2⟩, ⟨i64_wf w0, i64_wf w1, i64_wf w2⟩, fun j hj => ?_⟩
      match j, hj with
      | 0, _ => rfl
      | 1, _ => rfl
      | 2, _ => rfl) h
  exact ⟨a, l, cap, h1, ⟨h2, h3⟩, h4⟩

structure Ord5Ok (w : World) (x : Ord5) (ao av : Option Addr) : Prop where
  vars : I64 x.vars
  low : I64 x.low
  high : I64 x.high
  list : Orders w.heap.size w.heap ao x.list
  vals : Ints w.heap.size w.heap av x.vals
  listLen : (x.list.length : Int) ≤ 9223372036854775807
  valsLen : (x.vals.length : Int) ≤ 9223372036854775807

theorem open_ord5 {r : Reach} {b0 : Nat} {v : Value} {d : DataW H} {ps : List MemPlace} (hval : Value.okWide Try.prog w r b0 25 v) (h : DataW.Trod enc Try.prog w 0 spare held 25 v d ps) :
    ∃ (x : Ord5) (ao av : Option Addr) (co cv : Nat), v = .agg #[.int .i64 x.vars, .slice ao x.list.length co, .slice av x.vals.length cv, .int .i64 x.low, .int .i64 x.high] ∧ Ord5Ok w x ao av := by
  obtain ⟨cs, rfl, hs⟩ := okWide_struct Try.underlying25 hval
  obtain ⟨fuel, hf0⟩ := h
  obtain ⟨xs, m, rfl, hx, hl, hxl, hf⟩ := DataW.trod_struct Try.underlying25 hf0
  have hsz : cs.size = 5 := by rw [hs]; kernel_rfl
  obtain ⟨cs⟩ := cs
  match cs, hsz, xs, hxl with
  | [c0, c1, c2, c3, c4], _, [x0, x1, x2, x3, x4], _ =>
    have g0 := hf 0 _ rfl
    have g1 := hf 1 _ rfl
    have g2 := hf 2 _ rfl
    have g3 := hf 3 _ rfl
    have g4 := hf 4 _ rfl
    simp [Value.cells, show Try.prog.cellsOf 3 = 1 by kernel_rfl, show Try.prog.cellsOf 22 = 1 by kernel_rfl, show Try.prog.cellsOf 23 = 1 by kernel_rfl] at g0 g1 g2 g3 g4
    obtain ⟨z0, e0, _, w0⟩ := DataW.trod_int Try.underlying3 g0
    obtain ⟨z3, e3, _, w3⟩ := DataW.trod_int Try.underlying3 g3
    obtain ⟨z4, e4, _, w4⟩ := DataW.trod_int Try.underlying3 g4
    obtain ⟨ao, l, co, rfl, ho, hol⟩ := open_orders g1
    obtain ⟨av, vl, cv, rfl, hv, hvl⟩ := open_ints' g2
    simp at e0 e3 e4
    subst e0 e3 e4
    exact ⟨⟨z0, l, vl, z3, z4⟩, ao, av, co, cv, rfl, ⟨i64_wf w0, i64_wf w3, i64_wf w4, ho, hv, hol, hvl⟩⟩
theorem open_level {v : Value} {r : Reach} {b0 : Nat} {d : DataW H} {ps : List MemPlace} (hval : Value.okWide Try.prog w r b0 27 v) (h : DataW.Trod enc Try.prog w 0 spare held 27 v d ps) :
    ∃ (a : Option Addr) (l : List Atom) (cap : Nat), v = .slice a l.length cap ∧ Atoms w.heap.size w.heap a l ∧ (l.length : Int) ≤ 9223372036854775807 := by
  obtain ⟨fuel, hf⟩ := h
  cases v <;> first | exact open_atoms hf | (exfalso; simp [Value.okWide, Try.underlying27, Cell.okWide, Cell.ok] at hval)
end
end Go.Proofs.Ytbgiljognlbkhaa
