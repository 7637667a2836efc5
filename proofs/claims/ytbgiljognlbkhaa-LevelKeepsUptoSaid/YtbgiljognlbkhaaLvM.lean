/-
  The program's graph in memory: a map whose keys are pairs of numbers.
-/
import Derived.Test.YtbgiljognlbkhaaTau
import Derived.Test.YtbgiljognlbkhaaWxQ
import Derived.Test.YtbgiljognlbkhaaLvB
set_option linter.unusedSimpArgs false
set_option linter.unusedVariables false
namespace Go.Proofs.Ytbgiljognlbkhaa
open Go.Wx
theorem held65 : Try.prog.stoodInHeld 65 = false := by kernel_rfl
theorem eq65 (a b c d : Int) (w : World) : (Op.equal 65 (.agg #[.int .i64 a, .int .i64 b]) (.agg #[.int .i64 c, .int .i64 d])).run Try.prog w = .ok (decide (a = c ∧ b = d)) w := by
  have hf : Try.prog.underlying 65 = some (.struct (Try.prog.fieldsOf 65)) := by rw [Program.fieldsOf, Try.underlying65]
  have h := run_equalIn_struct (P := Try.prog) w 9999 65 #[.int .i64 a, .int .i64 b] #[.int .i64 c, .int .i64 d] hf held65
  show (Op.equalIn 10000 65 _ _).run Try.prog w = _
  rw [h]
  simp [Program.fieldsOf, Try.underlying65, Op.eqFields, part, go_sem, Try.underlying3]
  by_cases h1 : a = c <;> by_cases h2 : b = d <;> simp [h1, h2, go_sem]
theorem ck3 (e : Bool) (d : Nat) (n : Int) (w : World) : (Instr.checkKey e (d + 1) 3 (.int .i64 n)).run Try.prog w = .ok () w := by
  simp only [Instr.checkKey, Sem.run_bind, run_underlying Try.underlying3, Result.andThen_ok]
  rfl
theorem ck65n (e : Bool) (d : Nat) (a b : Int) (w : World) : (Instr.checkKey e (d + 1 + 1) 65 (.agg #[.int .i64 a, .int .i64 b])).run Try.prog w = .ok () w := by
  rw [Instr.checkKey]
  simp only [Sem.run_bind, run_underlying Try.underlying65, Result.andThen_ok]
  rw [← Array.forIn_toList]
  simp [part, go_sem, ck3]
theorem ck65 (e : Bool) (a b : Int) (w : World) : (Instr.checkKey e 10000 65 (.agg #[.int .i64 a, .int .i64 b])).run Try.prog w = .ok () w := ck65n e 9998 a b w

/-- a map's entries, as edges with their weights -/
def Ents (es : List MapEntry) (l : List (Int × Int × Int)) : Prop := es.map (fun e => (e.key, e.val)) = l.map fun t => (Value.agg #[.int .i64 t.1, .int .i64 t.2.1], Value.int .i64 t.2.2)

def lkI (x y : Int) : List (Int × Int × Int) → Nat → Option (Nat × Int)
  | [], _ => none
  | t :: r, i => if x = t.1 ∧ y = t.2.1 then some (i, t.2.2) else lkI x y r (i + 1)

theorem findAsk (x y : Int) (w : World) : ∀ (es : List MapEntry) (l : List (Int × Int × Int)) (i : Nat), Ents es l →
    (Instr.findAsking 65 (.agg #[.int .i64 x, .int .i64 y]) es i).run Try.prog w = .ok ((lkI x y l i).map fun p => (p.1, Value.int .i64 p.2)) w
  | [], [], i, _ => by simp [Instr.findAsking, lkI]
  | e :: es, t :: l, i, h => by
    simp only [Ents, List.map_cons, List.cons.injEq, Prod.mk.injEq] at h
    obtain ⟨⟨h1, h2⟩, h3⟩ := h
    have ih := findAsk x y w es l (i + 1) h3
    simp only [Instr.findAsking, Sem.run_bind, h1, eq65, Result.andThen_ok, lkI]
    by_cases hc : x = t.1 ∧ y = t.2.1
    · simp [hc, h2]
    · simp [hc, ih]
  | [], _ :: _, _, h => by simp [Ents] at h
  | _ :: _, [], _, h => by simp [Ents] at h

theorem findK (x y : Int) (w : World) (es : List MapEntry) (l : List (Int × Int × Int)) (h : Ents es l) :
    (Instr.findKey 65 (.agg #[.int .i64 x, .int .i64 y]) es).run Try.prog w = .ok ((lkI x y l 0).map fun p => (p.1, Value.int .i64 p.2)) w := by
  simp only [Instr.findKey, Sem.run_bind, run_underlying Try.underlying65, Result.andThen_ok]
  match es, l, h with
  | [], [], _ => simp [Instr.findNow, lkI]
  | e :: es, t :: l, h =>
    simp only [Instr.findNow, Instr.sameNow]
    exact findAsk x y w _ _ 0 h
  | [], _ :: _, h => simp [Ents] at h
  | _ :: _, [], h => simp [Ents] at h

/-- block b is a map that holds g -/
def Gr (h : Array Obj) (b : Nat) (g : Lv.G) : Prop := ∃ es clock l, h[b]? = some (.map es clock) ∧ Ents es.toList l ∧ ∀ x y, g x y = (lkI x y l 0).map (·.2)

theorem Gr.lt {h : Array Obj} {b : Nat} {g : Lv.G} (hb : Gr h b g) : b < h.size := by
  obtain ⟨es, clock, l, h1, _⟩ := hb
  rcases Nat.lt_or_ge b h.size with h' | h'
  · exact h'
  · simp [Array.getElem?_eq_none h'] at h1
theorem Gr.kp {X : List Nat} {w w' : World} {b : Nat} {g : Lv.G} (hb : Gr w.heap b g) (h : Kp X w w') (hx : b ∉ X) : Gr w'.heap b g := by
  have hl := hb.lt
  obtain ⟨es, clock, l, h1, h2⟩ := hb
  exact ⟨es, clock, l, by rw [h.block b hl hx]; exact h1, h2⟩

theorem gr_look {w : World} {b : Nat} {g : Lv.G} (hg : Gr w.heap b g) (x y : Int) (ok : Bool) :
    (Instr.lookup 60 (.map (some b)) (.agg #[.int .i64 x, .int .i64 y]) ok).run Try.prog w = .ok (if ok then .tuple #[.int .i64 ((g x y).getD 0), .bool (g x y).isSome] else .int .i64 ((g x y).getD 0)) w := by
  obtain ⟨es, clock, l, h1, h2, h3⟩ := hg
  have hobj : (getObj b).run Try.prog w = .ok (.map es clock) w := by simp [getObj, Sem.run, h1]
  have hz : (zeroValue 3).run Try.prog w = .ok (.int .i64 0) w := by kernel_rfl
  have hfk := findK x y w es.toList l h2
  simp only [Instr.lookup, Sem.run_bind, run_underlying Try.underlying60, Result.andThen_ok, hobj, ck65, h3]
  cases hl : lkI x y l 0 with
  | none => rw [hl] at hfk; simp [hfk, hz]
  | some p => rw [hl] at hfk; simp [hfk]

theorem lkI_ge (x y : Int) : ∀ (l : List (Int × Int × Int)) (i : Nat) (p : Nat × Int), lkI x y l i = some p → i ≤ p.1 ∧ ∃ t, l[p.1 - i]? = some t ∧ t.1 = x ∧ t.2.1 = y ∧ t.2.2 = p.2
  | [], i, p, h => by simp [lkI] at h
  | t :: l, i, p, h => by
    simp only [lkI] at h
    split at h
    · rename_i hc
      have : (i, t.2.2) = p := by simpa using h
      subst this
      exact ⟨Nat.le_refl _, t, by simp, hc.1.symm, hc.2.symm, rfl⟩
    · obtain ⟨h1, u, h2, h3⟩ := lkI_ge x y l (i + 1) p h
      refine ⟨by omega, u, ?_, h3⟩
      rw [show p.1 - i = (p.1 - (i + 1)) + 1 by omega]
      simpa using h2

theorem lkI_set (x y v : Int) : ∀ (l : List (Int × Int × Int)) (i : Nat) (p : Nat × Int), lkI x y l i = some p → ∀ a b, (lkI a b (l.set (p.1 - i) (x, y, v)) i).map (·.2) = if a = x ∧ b = y then some v else (lkI a b l i).map (·.2)
  | [], i, p, h => by simp [lkI] at h
  | t :: l, i, p, h => by
    intro a b
    simp only [lkI] at h
    split at h
    · rename_i hc
      have : (i, t.2.2) = p := by simpa using h
      subst this
      simp only [Nat.sub_self, List.set_cons_zero, lkI]
      by_cases hab : a = x ∧ b = y
      · simp [hab]
      · rw [if_neg hab, if_neg hab, if_neg (by rw [← hc.1, ← hc.2]; exact hab)]
    · rename_i hc
      obtain ⟨h1, _⟩ := lkI_ge x y l (i + 1) p h
      have ih := lkI_set x y v l (i + 1) p h a b
      rw [show p.1 - i = (p.1 - (i + 1)) + 1 by omega]
      simp only [List.set_cons_succ, lkI]
      by_cases hab : a = t.1 ∧ b = t.2.1
      · rw [if_pos hab, if_pos hab, if_neg]
        · rintro ⟨rfl, rfl⟩; exact hc hab
      · rw [if_neg hab, if_neg hab]; exact ih

theorem lkI_push (x y v : Int) : ∀ (l : List (Int × Int × Int)) (i : Nat), lkI x y l i = none → ∀ a b, (lkI a b (l ++ [(x, y, v)]) i).map (·.2) = if a = x ∧ b = y then some v else (lkI a b l i).map (·.2)
  | [], i, _ => by intro a b; simp only [List.nil_append, lkI]; split <;> simp
  | t :: l, i, h => by
    intro a b
    simp only [lkI] at h
    split at h
    · cases h
    · rename_i hc
      have ih := lkI_push x y v l (i + 1) h a b
      simp only [List.cons_append, lkI]
      by_cases hab : a = t.1 ∧ b = t.2.1
      · rw [if_pos hab, if_pos hab, if_neg]
        rintro ⟨rfl, rfl⟩; exact hc hab
      · rw [if_neg hab, if_neg hab]; exact ih

theorem same2 (d : Nat) (x y : Int) : Instr.sameBits (d + 1) (.agg #[.int .i64 x, .int .i64 y]) (.agg #[.int .i64 x, .int .i64 y]) = true := by
  simp [Instr.sameBits]

theorem gr_put {w : World} {b : Nat} {g : Lv.G} (hg : Gr w.heap b g) (x y v : Int) {k : World → Prop} (hk : ∀ w', Gr w'.heap b (Lv.putG g x y v) → w'.heap.size = w.heap.size → Kp [b] w w' → k w') :
    EvRunU Try.prog (Instr.mapUpdate 60 (.map (some b)) (.agg #[.int .i64 x, .int .i64 y]) (.int .i64 v)) w k := by
  have hlt := hg.lt
  obtain ⟨es, clock, l, h1, h2, h3⟩ := hg
  have hobj : (getObj b).run Try.prog w = .ok (.map es clock) w := by simp [getObj, Sem.run, h1]
  have hfk := findK x y w es.toList l h2
  have hset : ∀ o, (setObj b o).run Try.prog w = .ok () { w with heap := w.heap.setIfInBounds b o } := fun o => by simp [setObj, Sem.run, h1]
  have hkp : ∀ o, Kp [b] w { w with heap := w.heap.setIfInBounds b o } := fun o => ⟨rfl, rfl, rfl, by simp, fun i _ hx => by
    have : b ≠ i := fun e => hx (by simp [e])
    simp [Array.getElem?_setIfInBounds_ne this]⟩
  have hat : ∀ o, (w.heap.setIfInBounds b o)[b]? = some o := fun o => by simp [hlt]
  have hlen : es.size = l.length := by
    have := congrArg List.length h2
    simpa using this
  cases hl : lkI x y l 0 with
  | none =>
    rw [hl] at hfk
    refine runU (w' := { w with heap := w.heap.setIfInBounds b (.map (es.push { key := .agg #[.int .i64 x, .int .i64 y], val := .int .i64 v, born := clock }) (clock + 1)) }) ?_ (hk _ ?_ (by simp) (hkp _))
    · simp [Instr.mapUpdate, run_underlying Try.underlying60, hobj, ck65, hfk, hset]
    · refine ⟨_, _, l ++ [(x, y, v)], hat _, ?_, fun a c => ?_⟩
      · simp only [Ents, Array.toList_push, List.map_append, h2, List.map_cons, List.map_nil]
        rw [h2]
      · rw [lkI_push x y v l 0 hl a c, ← h3]
        rfl
  | some p =>
    rw [hl] at hfk
    obtain ⟨_, t, ht, e1, e2, e3⟩ := lkI_ge x y l 0 p hl
    rw [Nat.sub_zero] at ht
    have hp : p.1 < l.length := (List.getElem?_eq_some_iff.1 ht).1
    have hkey : ((es[p.1]?).map (·.key)).getD (.agg #[.int .i64 x, .int .i64 y]) = .agg #[.int .i64 x, .int .i64 y] := by
      have := congrArg (fun l => l[p.1]?) h2
      simp only [List.getElem?_map, ht, Option.map_some, Array.getElem?_toList] at this
      cases hes : es[p.1]? with
      | none => simp
      | some e =>
        rw [hes] at this
        simp only [Option.map_some, Option.some.injEq, Prod.mk.injEq] at this
        simp [this.1, e1, e2]
    refine runU (w' := { w with heap := w.heap.setIfInBounds b (.map (es.modify p.1 fun e => { e with key := .agg #[.int .i64 x, .int .i64 y], val := .int .i64 v }) clock) }) ?_ (hk _ ?_ (by simp) (hkp _))
    · have hst : (Instr.keyThatStays (.agg #[.int .i64 x, .int .i64 y]) (.agg #[.int .i64 x, .int .i64 y])).run Try.prog w = .ok (.agg #[.int .i64 x, .int .i64 y]) w := by
        unfold Instr.keyThatStays
        rw [show (10000 : Nat) = 9999 + 1 from rfl, same2]
        simp
      simp only [Instr.mapUpdate, Sem.run_bind, run_underlying Try.underlying60, Result.andThen_ok, hobj, ck65]
      rw [hfk]
      simp only [Option.map_some, Result.andThen_ok, Sem.run_bind]
      rw [hkey, hst]
      simp [hset]
    · refine ⟨_, _, l.set p.1 (x, y, v), hat _, ?_, fun a c => ?_⟩
      · unfold Ents
        apply List.ext_getElem?
        intro i
        have := congrArg (fun l => l[i]?) h2
        simp only [List.getElem?_map, Array.getElem?_toList] at this ⊢
        simp only [Array.getElem?_modify, List.getElem?_set]
        by_cases hi : p.1 = i
        · subst hi
          have hes : p.1 < es.size := by omega
          simp [hp, hes]
        · simp [hi, this]
      · have := lkI_set x y v l 0 p hl a c
        rw [Nat.sub_zero] at this
        rw [this, ← h3]
        rfl

theorem gr_new {w : World} {k : Value → World → Prop} (hk : ∀ b w', b = w.heap.size → Gr w'.heap b (fun _ _ => none) → w'.heap.size = b + 1 → Kp [] w w' → k (.map (some b)) w') : EvRun Try.prog (Instr.makeMap 60 none) w k := by
  refine run (w' := w.alloc (.map #[] 0)) (by simp [Instr.makeMap]) (hk _ _ rfl ⟨#[], 0, [], ?_, rfl, fun _ _ => rfl⟩ (by simp) (Kp.alloc _ _))
  show (w.heap.push _)[_]? = _
  simp
end Go.Proofs.Ytbgiljognlbkhaa
