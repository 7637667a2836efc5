/-
  Levels, in plain Lean: the greater of two levels; a map of ints as a function; how atoms read.
-/
import Derived.Test.YtbgiljognlbkhaaLwS
import Derived.Test.YtbgiljognlbkhaaLvX
import Derived.Test.YtbgiljognlbkhaaWxJ
import Derived.Maps.OwnSet
import Derived.Maps.Range
set_option linter.unusedSimpArgs false
set_option linter.unusedVariables false
namespace Go.Proofs.Ytbgiljognlbkhaa
open Go.Wx Lv

/-! ### the plain law -/
def putF (f : Int → Option Int) (k v : Int) : Int → Option Int := fun x => if x = k then some v else f x
def upd (f : Int → Option Int) (x : Atom) : Int → Option Int := match f x.var with
  | none => putF f x.var x.add
  | some v => if v < x.add then putF f x.var x.add else f
def mapF (l : List Atom) : Int → Option Int := l.foldl upd (fun _ => none)
theorem mapF_snoc (l : List Atom) (x : Atom) : mapF (l ++ [x]) = upd (mapF l) x := by simp [mapF]
theorem upd_ne {f : Int → Option Int} {x : Atom} {k : Int} (h : k ≠ x.var) : upd f x k = f k := by
  unfold upd
  cases hf : f x.var with
  | none => simp [putF, h]
  | some v =>
    simp only
    split
    · simp [putF, h]
    · rfl
theorem upd_self (f : Int → Option Int) (x : Atom) : upd f x x.var = some (match f x.var with | none => x.add | some v => if v < x.add then x.add else v) := by
  unfold upd
  cases hf : f x.var with
  | none => simp [putF]
  | some v =>
    simp only
    split
    · simp [putF]
    · exact hf
theorem fold_from {k v : Int} : ∀ (l : List Atom) (f : Int → Option Int), l.foldl upd f k = some v → f k = some v ∨ ∃ y ∈ l, y.var = k ∧ y.add = v
  | [], f, h => .inl h
  | x :: l, f, h => by
    rcases fold_from l (upd f x) h with h1 | ⟨y, hy, h1⟩
    · by_cases hk : k = x.var
      · subst hk
        rw [upd_self] at h1
        cases hf : f x.var with
        | none => rw [hf] at h1; simp at h1; exact .inr ⟨x, by simp, rfl, h1⟩
        | some u =>
          rw [hf] at h1
          simp only at h1
          split at h1
          · exact .inr ⟨x, by simp, rfl, by simpa using h1⟩
          · exact .inl (by simpa using h1)
      · rw [upd_ne hk] at h1
        exact .inl h1
    · exact .inr ⟨y, by simp [hy], h1⟩
theorem fold_ge {k : Int} : ∀ (l : List Atom) (f : Int → Option Int) (u : Int), f k = some u → ∃ v, l.foldl upd f k = some v ∧ u ≤ v
  | [], f, u, h => ⟨u, h, Int.le_refl _⟩
  | x :: l, f, u, h => by
    have : ∃ u', upd f x k = some u' ∧ u ≤ u' := by
      by_cases hk : k = x.var
      · subst hk
        rw [upd_self, h]
        simp only
        split
        · exact ⟨x.add, rfl, by omega⟩
        · exact ⟨u, rfl, Int.le_refl _⟩
      · exact ⟨u, by rw [upd_ne hk]; exact h, Int.le_refl _⟩
    obtain ⟨u', h1, h2⟩ := this
    obtain ⟨v, h3, h4⟩ := fold_ge l (upd f x) u' h1
    exact ⟨v, h3, by omega⟩
theorem fold_mem : ∀ (l : List Atom) (f : Int → Option Int) (y : Atom), y ∈ l → ∃ v, l.foldl upd f y.var = some v ∧ y.add ≤ v
  | x :: l, f, y, h => by
    rcases List.mem_cons.1 h with rfl | h
    · obtain ⟨v, h1, h2⟩ := fold_ge (k := y.var) l (upd f y) _ (upd_self f y)
      refine ⟨v, h1, ?_⟩
      cases hf : f y.var with
      | none => rw [hf] at h2; exact h2
      | some u =>
        rw [hf] at h2
        simp only at h2
        split at h2 <;> omega
    · exact fold_mem l (upd f x) y h
theorem mapF_from {l : List Atom} {k v : Int} (h : mapF l k = some v) : ∃ y ∈ l, y.var = k ∧ y.add = v := by
  rcases fold_from l _ h with h | h
  · cases h
  · exact h
theorem mapF_mem {l : List Atom} {y : Atom} (h : y ∈ l) : ∃ v, mapF l y.var = some v ∧ y.add ≤ v := fold_mem l _ y h
theorem mapF_none {l : List Atom} {k : Int} (h : ∀ y ∈ l, y.var ≠ k) : mapF l k = none := by
  cases hm : mapF l k with
  | none => rfl
  | some v => obtain ⟨y, hy, e, _⟩ := mapF_from hm; exact absurd e (h y hy)

theorem rightGo_up {vars : Int} : ∀ {l : List Atom} {last : Int}, rightGo vars l last = true → (∀ x ∈ l, last < x.var) ∧ l.Pairwise (fun x y => x.var < y.var)
  | [], _, _ => ⟨by simp, List.Pairwise.nil⟩
  | x :: l, last, h => by
    simp only [rightGo] at h
    split at h
    · cases h
    rename_i h0
    obtain ⟨h1, h2⟩ := rightGo_up h
    refine ⟨fun y hy => ?_, List.pairwise_cons.2 ⟨fun y hy => h1 y hy, h2⟩⟩
    rcases List.mem_cons.1 hy with rfl | hy
    · omega
    · have := h1 y hy
      omega
theorem right_up {l : List Atom} {vars : Int} (h : rightF l vars = true) : l.Pairwise (fun x y => x.var < y.var) ∧ 1 ≤ l.length := by
  unfold rightF at h
  split at h
  · cases h
  · exact ⟨(rightGo_up h).2, by omega⟩

/-- the keys that are there, in order -/
def keysL (f : Int → Option Int) (r : List Nat) : List Int := (r.filter fun (v : Nat) => (f v).isSome).map fun (v : Nat) => (v : Int)
def maxL (a b : List Atom) : List Atom := (List.range 17).filterMap fun (v : Nat) => (mapF (a ++ b) v).map fun n => ⟨(v : Int), n⟩
theorem vars_keys (f : Int → Option Int) : ∀ r : List Nat, (r.filterMap fun (v : Nat) => (f v).map fun n => (⟨(v : Int), n⟩ : Atom)).map Atom.var = keysL f r
  | [] => rfl
  | v :: r => by
    have ih := vars_keys f r
    unfold keysL at ih ⊢
    rw [List.filterMap_cons]
    cases h : f v with
    | none => simp [h]; simpa using ih
    | some n => simp [h]; simpa using ih
def maxE (a b : List Atom) : Int := if rightF a 16 = false ∨ rightF b 16 = false then 19 else if 4 < (maxL a b).length then 5 else 0
def maxR (a b : List Atom) : List Atom := if maxE a b = 0 then maxL a b else []

theorem keysL_up (f : Int → Option Int) (n : Nat) : (keysL f (List.range n)).Pairwise (· < ·) := by
  unfold keysL
  refine List.pairwise_map.2 (List.Pairwise.imp (R := (· < ·)) (fun h => by omega) ((List.pairwise_lt_range (n := n)).filter _))
theorem keysL_mem {f : Int → Option Int} {n : Nat} (hf : ∀ x v, f x = some v → 0 ≤ x ∧ x < n) (x : Int) : x ∈ keysL f (List.range n) ↔ (f x).isSome = true := by
  unfold keysL
  simp only [List.mem_map, List.mem_filter, List.mem_range]
  constructor
  · rintro ⟨v, ⟨h1, h2⟩, rfl⟩
    exact h2
  · intro h
    obtain ⟨v, hv⟩ := Option.isSome_iff_exists.1 h
    have := hf x v hv
    exact ⟨x.toNat, ⟨by omega, by rw [Int.toNat_of_nonneg this.1]; exact h⟩, Int.toNat_of_nonneg this.1⟩

/-! ### a map in memory as a function -/
theorem wf_of {x : Int} (h : I64 x) : (Lit.int .i64 x).wf = true := by
  unfold I64 at h
  simp [Lit.wf, IntKind.min, IntKind.max, IntKind.signed, IntKind.bits]
  omega
def MV (w : World) (b : Nat) (f : Int → Option Int) (n : Nat) : Prop := ∃ D : DataW Unit, w.ownsMap Try.prog 3 (plainElem Try.prog 3) b n D ∧
  ∀ x, I64 x → Maps.has D (.int .i64 x) = (f x).isSome ∧ D.atKey (.int .i64 x) (.lit (.int .i64 0)) = .lit (.int .i64 ((f x).getD 0))
theorem MV.kp {w w' : World} {b n : Nat} {f : Int → Option Int} {X : List Nat} (h : MV w b f n) (k : Kp X w w') (hb : b ∉ X) : MV w' b f n := by
  obtain ⟨D, h1, h2⟩ := h
  have hl := h1.lt
  obtain ⟨es, clock, hb', Ft, hs, hD⟩ := h1
  exact ⟨D, ⟨es, clock, by rw [k.block b hl hb]; exact hb', Ft, hs, hD⟩, h2⟩
theorem MV.lt {w : World} {b n : Nat} {f : Int → Option Int} (h : MV w b f n) : b < w.heap.size := by
  obtain ⟨D, h1, _⟩ := h
  exact h1.lt
theorem MV.made {w : World} {k : Value → World → Prop} (hk : ∀ b w', b = w.heap.size → MV w' b (fun _ => none) 0 → w'.heap.size = b + 1 → Kp [] w w' → k (.map (some b)) w') : EvRun Try.prog (Instr.makeMap 70 none) w k := by
  refine run (show (Instr.makeMap 70 none).run Try.prog w = .ok (.map (some w.heap.size)) (w.alloc (.map #[] 0)) from rfl) (hk _ _ rfl ⟨.map [], World.ownsMap_made w _ _ _, fun x _ => ⟨rfl, rfl⟩⟩ (by simp) (Kp.alloc _ _))
theorem MV.look {w : World} {b n : Nat} {f : Int → Option Int} (h : MV w b f n) {x : Int} (hx : I64 x) {k : Value → World → Prop} (hk : k (.tuple #[.int .i64 ((f x).getD 0), .bool (f x).isSome]) w) : EvRun Try.prog (Instr.lookup 70 (.map (some b)) (.int .i64 x) true) w k := by
  obtain ⟨D, h1, h2⟩ := h
  obtain ⟨v, ps, hr, hv⟩ := h1.look_ok (Maps.int_keyed Try.underlying3) Try.underlying70 (Try.zeroValue3 w) (plainElem_int Try.underlying3 (by decide)) (Maps.keyOf_int_mk Try.underlying3 (wf_of hx))
  obtain ⟨c, rfl, hc, _⟩ := plainElem_int_inv Try.underlying3 hv
  obtain ⟨e1, e2⟩ := h2 x hx
  rw [e2] at hc
  simp at hc
  rw [e1] at hr
  rw [← hc.1] at hr
  exact run hr hk
theorem MV.look1 {w : World} {b n : Nat} {f : Int → Option Int} (h : MV w b f n) {x : Int} (hx : I64 x) {k : Value → World → Prop} (hk : k (.int .i64 ((f x).getD 0)) w) : EvRun Try.prog (Instr.lookup 70 (.map (some b)) (.int .i64 x) false) w k := by
  obtain ⟨D, h1, h2⟩ := h
  obtain ⟨c, hr, hc, _⟩ := h1.lookup_int (Maps.int_keyed Try.underlying3) Try.underlying70 Try.underlying3 (Try.zeroValue3 w) (Maps.keyOf_int_mk Try.underlying3 (wf_of hx))
  rw [(h2 x hx).2] at hc
  simp at hc
  rw [← hc] at hr
  exact run hr hk
theorem MV.put {w : World} {b n : Nat} {f : Int → Option Int} (h : MV w b f n) (hn : n < 1000000) {x v : Int} (hx : I64 x) (hv : I64 v) {k : World → Prop} (hk : ∀ w', MV w' b (putF f x v) (n + 1) → Kp [b] w w' → k w') : EvRunU Try.prog (Instr.mapUpdate 70 (.map (some b)) (.int .i64 x) (.int .i64 v)) w k := by
  obtain ⟨D, h1, h2⟩ := h
  obtain ⟨w', hr, h3, hg⟩ := h1.update (Maps.int_keyed Try.underlying3) Try.underlying70 (by unfold maxLen; omega) (Maps.keyOf_int_mk Try.underlying3 (wf_of hx)) (plainElem_int Try.underlying3 (wf_of hv))
  refine runU hr (hk w' ⟨_, h3, fun y hy => ?_⟩ (by simpa using grown_kp hg))
  by_cases e : y = x
  · subst e
    rw [Maps.has_put_same h1.isMap (by trivial), Maps.atKey_put_same h1.isMap (by trivial)]
    simp [putF]
  · have hne : (Lit.int .i64 y) ≠ .int .i64 x := by simpa using e
    rw [Maps.has_put_other hne, Maps.atKey_put_other hne]
    simp only [putF, if_neg e]
    exact h2 y hy
/-- its keys, and how many -/
theorem MV.keys {w : World} {b n : Nat} {f : Int → Option Int} {m : Nat} (h : MV w b f n) (hm : m ≤ 1000) (hf : ∀ x v, f x = some v → 0 ≤ x ∧ x < m) :
    ∃ D : DataW Unit, w.ownsMap Try.prog 3 (plainElem Try.prog 3) b n D ∧ (keysL f (List.range m)).Perm (intKeys D) ∧ Maps.size D = (keysL f (List.range m)).length := by
  obtain ⟨D, h1, h2⟩ := h
  obtain ⟨es, hD, hpw, _⟩ := h1.entries (Maps.int_keyed Try.underlying3)
  obtain ⟨es', hD', hko⟩ := h1.keysOf
  obtain rfl : es = es' := by rw [hD] at hD'; simpa using hD'
  have hnd : (keysL f (List.range m)).Nodup := (keysL_up f m).imp (fun h => by omega)
  have hp : (keysL f (List.range m)).Perm (intKeys D) := by
    rw [hD]
    refine perm_intKeys hpw (fun p hp => ?_) hnd fun x => ?_
    · obtain ⟨v, hv⟩ := hko p hp
      obtain ⟨x, _, hx, _⟩ := Maps.keyOf_i64 Try.underlying3 hv
      exact ⟨x, hx⟩
    · rw [keysL_mem hf x, ← hD]
      by_cases hx : I64 x
      · rw [(h2 x hx).1]
      · constructor
        · intro hs
          obtain ⟨v, hv⟩ := Option.isSome_iff_exists.1 hs
          have := hf x v hv
          exact absurd (by unfold I64; omega) hx
        · intro hs
          exfalso
          rw [hD, Maps.has_eq, List.any_eq_true] at hs
          obtain ⟨p, hp, hs⟩ := hs
          obtain ⟨v, hv⟩ := hko p hp
          obtain ⟨y, _, hy, hw⟩ := Maps.keyOf_i64 Try.underlying3 hv
          rw [hy] at hs
          have : y = x := by simpa [Lit.sameKey] using hs
          subst this
          apply hx
          unfold I64
          simp [Lit.wf, IntKind.min, IntKind.max, IntKind.signed, IntKind.bits] at hw
          omega
  refine ⟨D, h1, hp, ?_⟩
  rw [hp.length_eq, hD]
  simp [Maps.size_eq, intKeys]

theorem sort_keys {f : Int → Option Int} {m : Nat} {ss : List Int} (h : ss.Perm (keysL f (List.range m))) : ss.mergeSort (fun x y => decide (x ≤ y)) = keysL f (List.range m) := by
  have e := mergeSort_of_perm_i h
  unfold leI at e
  rw [e]
  refine List.mergeSort_of_pairwise (List.Pairwise.imp (fun h => by simp; omega) (keysL_up f m))

/-! ### how atoms read -/
def rAt : Rd Atom where
  sz := 2
  den _ cs x := cs = [.int .i64 x.var, .int .i64 x.add] ∧ I64 x.var ∧ I64 x.add
  len := by rintro _ cs x ⟨rfl, _⟩; rfl
  mono := by rintro _ _ cs x _ h; exact h
  one := by rintro _ cs x ⟨rfl, _⟩ u hu; simp at hu; rcases hu with rfl | rfl <;> rfl
theorem sl_at {C : Mem} {a : Option Addr} {l : List Atom} (h : Sl rAt C a l) {i : Nat} {x : Atom} (hi : l[i]? = some x) : ∃ b o, a = some ⟨b, o, none⟩ ∧ C b (o + i * 2) (.int .i64 x.var) ∧ C b (o + i * 2 + 1) (.int .i64 x.add) ∧ I64 x.var ∧ I64 x.add := by
  obtain ⟨b, o, ha, hc⟩ := h.at (get_lt hi)
  obtain ⟨cs, ⟨rfl, h1, h2⟩, h5⟩ := hc i x hi
  exact ⟨b, o, ha, h5 0 _ rfl, h5 1 _ rfl, h1, h2⟩
theorem Atoms.sl {w : World} {N : Nat} {a : Option Addr} {l : List Atom} (h : Atoms N w.heap a l) (hl : l.length ≤ 1000) : Sl rAt (Old w) a l := by
  refine ⟨by omega, ?_⟩
  rcases h.1 with h0 | ⟨b, o, ha, _, hc⟩
  · exact .inl h0
  · refine .inr ⟨b, o, ha, fun i x hi => ?_⟩
    have hil := get_lt hi
    have e : l.getD i default = x := by simp [hi]
    refine ⟨[.int .i64 x.var, .int .i64 x.add], ⟨rfl, h.2 x (List.mem_of_getElem? hi)⟩, fun j v hj => ?_⟩
    match j with
    | 0 => simp at hj; subst hj; rw [← e]; exact hc i 0 hil (by omega)
    | 1 => simp at hj; subst hj; rw [← e]; exact hc i 1 hil (by omega)
    | j + 2 => simp at hj
theorem Sl.atoms {C : Mem} {w : World} {a : Option Addr} {l : List Atom} (h : Sl rAt C a l) (hS : Sub C w) : Atoms w.heap.size w.heap a l := by
  refine ⟨?_, fun x hx => ?_⟩
  · rcases h.2 with h0 | ⟨b, o, ha, hc⟩
    · exact .inl h0
    · rcases Nat.eq_zero_or_pos l.length with h0 | h0
      · exact .inl h0
      have key : ∀ i j, i < l.length → j < 2 → Cl w.heap b (o + i * 2 + j) (.int .i64 (if j = 0 then (l.getD i default).var else (l.getD i default).add)) := fun i j hi hj => by
        obtain ⟨cs, ⟨rfl, _⟩, h5⟩ := hc i l[i] (by simp)
        have e : l.getD i default = l[i] := by simp [hi]
        rw [e]
        match j, hj with
        | 0, _ => exact hS _ _ _ (h5 0 _ rfl)
        | 1, _ => exact hS _ _ _ (h5 1 _ rfl)
      exact .inr ⟨b, o, ha, (key 0 0 h0 (by omega)).lt, key⟩
  · obtain ⟨i, hi⟩ := List.getElem?_of_mem hx
    obtain ⟨_, _, _, _, _, h1, h2⟩ := sl_at h hi
    exact ⟨h1, h2⟩
theorem flatAt : ∀ (C C' : Mem) (cs : List Value) (x : Atom), rAt.den C cs x → rAt.den C' cs x := fun _ _ _ _ h => h
end Go.Proofs.Ytbgiljognlbkhaa
