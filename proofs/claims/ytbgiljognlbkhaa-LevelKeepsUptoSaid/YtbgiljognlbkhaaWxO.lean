/-
  Wx: the arguments opened, with a bound on their bulk (the same as in the Code texts).
-/
import Derived.Test.YtbgiljognlbkhaaWxK
import Derived.Test.YtbgiljognlbkhaaWxE
import Derived.Deep.Slices
import Derived.JoinedCond
set_option linter.unusedSimpArgs false
set_option linter.unusedVariables false
set_option maxRecDepth 100000
namespace Go.Proofs.Ytbgiljognlbkhaa
open Go.Wx Go.ChangeShapes Go.WideShapes Go.ChangeAt Go.RowKit

theorem bulk_one {H : Type} (d : DataW H) : 1 ≤ Rows.uptoBulk d := by
  cases d with
  | lit l => cases l <;> simp [Rows.uptoBulk]
  | nil => simp [Rows.uptoBulk]
  | ptr d => simp [Rows.uptoBulk]
  | slice elems spare => simp [Rows.uptoBulk]
  | agg parts => simp [Rows.uptoBulk]
  | iface t d => simp [Rows.uptoBulk]
  | map entries => simp [Rows.uptoBulk]
  | held h => simp [Rows.uptoBulk]
theorem bulk_part {H : Type} {d : DataW H} {l : List (DataW H)} (h : d ∈ l) : Rows.uptoBulk d ≤ Rows.uptoBulkAll l := by
  induction l with
  | nil => cases h
  | cons x r ih =>
    simp only [Rows.uptoBulkAll]
    cases List.mem_cons.1 h with
    | inl e => subst e; omega
    | inr e => have := ih e; omega
theorem bulk_len {H : Type} (l : List (DataW H)) : l.length ≤ Rows.uptoBulkAll l := by
  induction l with
  | nil => simp [Rows.uptoBulkAll]
  | cons x r ih => have := bulk_one x; simp only [Rows.uptoBulkAll, List.length_cons]; omega
theorem bulk_of {H : Type} {l : List (DataW H)} (hk : Rows.uptoSmall H l = true) : Rows.uptoBulkAll l ≤ 1048576 := of_decide_eq_true hk

theorem bulk_app {H : Type} (l r : List (DataW H)) : Rows.uptoBulkAll (l ++ r) = Rows.uptoBulkAll l + Rows.uptoBulkAll r := by
  induction l with
  | nil => simp [Rows.uptoBulkAll]
  | cons x l ih => simp only [List.cons_append, Rows.uptoBulkAll, ih]; omega
theorem agg_part {H : Type} {xs : List (DataW H × List MemPlace)} {x : DataW H × List MemPlace} (hx : x ∈ xs) (hB : Rows.uptoBulk (.agg (xs.map (·.1))) ≤ 1048576) : Rows.uptoBulk x.1 ≤ 1048576 := by
  have := bulk_part (List.mem_map_of_mem (f := (·.1)) hx)
  simp only [Rows.uptoBulk] at hB
  omega


section
variable {H : Type} {enc : TypeId × Value → H} {w : World} {spare : Nat → Bool} {held : Bool}

theorem addr_plain_ {a : Addr} {v : Value} (h : w.cell? a = some v) : ∃ b o, a = ⟨b, o, none⟩ := by
  obtain ⟨b, o, s⟩ := a
  unfold World.cell? at h
  split at h
  · rename_i c T fz hb
    cases s with
    | none => exact ⟨b, o, rfl⟩
    | some _ => simp at h
  · cases h

/-- a slice, by what its elements are; 'ok': what is known of their readings -/
theorem open_row {α : Type} [Inhabited α] {t e : TypeId} (R : Rd α) (hk : 0 < R.sz) (ht : Try.prog.underlying t = some (.slice e)) (hc : Try.prog.cellsOf e = R.sz) (ok : DataW H → Prop)
    (one : ∀ (cs : List Value) (n : Nat) (y : DataW H × List MemPlace), cs.length = R.sz → DataW.trod enc Try.prog w 0 spare held n e cs = some y → ok y.1 → ∃ x : α, R.den (Old w) cs x)
    {fuel : Nat} {v : Value} {x : DataW H × List MemPlace} (h : DataW.trod enc Try.prog w 0 spare held fuel t [v] = some x) (hok : ∀ es sp, x.1 = .slice es sp → ∀ d ∈ es, ok d) :
    ∃ (a : Option Addr) (l : List α) (cap : Nat), v = .slice a l.length cap ∧ (l.length ≤ 1099511627776 → Sl R (Old w) a l) ∧ (l.length = 0 ∨ ∃ es sp, x.1 = .slice es sp ∧ es.length = l.length) := by
  rcases Go.Deep.open_slice ht h with ⟨h1, rfl⟩ | ⟨a, len, cap, m, n, D, Pl, h1, hb, hl, hm, hmm, rfl, hx⟩
  · simp only [List.cons.injEq, and_true] at h1
    subst h1
    exact ⟨none, [], 0, rfl, fun _ => Sl.nil _ _ _, .inl rfl⟩
  simp only [List.cons.injEq, and_true] at h1
  subst h1
  have hlm : len ≤ m := by rw [hmm]; split <;> omega
  rw [hc] at hx
  have each : ∀ i, i < len → ∃ q : α × List Value, R.den (Old w) q.2 q.1 ∧ ∀ j u, q.2[j]? = some u → w.cell? (a.add (i * R.sz + j)) = some u := by
    intro i hi
    obtain ⟨cs', h1, h2⟩ := hx i (by omega)
    obtain ⟨_, hlen, hcell⟩ := World.cells?_some h1
    obtain ⟨x, hx⟩ := one cs' n _ hlen h2 (hok _ _ rfl _ (List.mem_map.2 ⟨i, by simpa using hi, rfl⟩))
    refine ⟨(x, cs'), hx, fun j u hu => ?_⟩
    have hj : j < R.sz := by rw [← hlen]; exact get_lt hu
    rw [← Go.Deep.add_add, hcell j hj]
    exact hu
  obtain ⟨q, hq⟩ := Go.Deep.choose_lt each
  refine ⟨some a, (List.range len).map fun i => (q i).1, cap, by simp, fun hbig => ⟨hbig, ?_⟩, .inr ⟨_, _, rfl, by simp⟩⟩
  by_cases h0 : len = 0
  · exact .inl (by simp [h0])
  obtain ⟨hd0, hz⟩ := hq 0 (by omega)
  have hl0 := R.len hd0
  obtain ⟨u0, hu0⟩ : ∃ u, (q 0).2[0]? = some u := ⟨(q 0).2[0]'(by omega), by simp⟩
  have hz0 := hz 0 u0 hu0
  rw [Nat.zero_mul, Nat.add_zero] at hz0
  have hz' : w.cell? a = some u0 := by simpa [Addr.add] using hz0
  obtain ⟨b, o, rfl⟩ := addr_plain_ hz'
  refine .inr ⟨b, o, rfl, fun i x hi => ?_⟩
  rw [List.getElem?_map] at hi
  have hil : i < len := by
    rcases Nat.lt_or_ge i len with h | h
    · exact h
    · rw [List.getElem?_eq_none (by simpa using h)] at hi; cases hi
  rw [List.getElem?_range hil] at hi
  have hi := Option.some.inj hi
  subst hi
  obtain ⟨hdi, hci⟩ := hq i hil
  refine ⟨(q i).2, hdi, fun j u hj => Cl.of ?_⟩
  have := hci j u hj
  rw [add_off] at this
  rw [Nat.add_assoc]
  exact this

theorem open_sl {α : Type} [Inhabited α] {t e : TypeId} (R : Rd α) (hk : 0 < R.sz) (ht : Try.prog.underlying t = some (.slice e)) (hc : Try.prog.cellsOf e = R.sz)
    (one : ∀ (cs : List Value) (n : Nat) (y : DataW H × List MemPlace), cs.length = R.sz → DataW.trod enc Try.prog w 0 spare held n e cs = some y → Rows.uptoBulk y.1 ≤ 1048576 → ∃ x : α, R.den (Old w) cs x)
    {fuel : Nat} {v : Value} {x : DataW H × List MemPlace} (h : DataW.trod enc Try.prog w 0 spare held fuel t [v] = some x) (hB : Rows.uptoBulk x.1 ≤ 1048576) : ∃ l, (rSl R).den (Old w) [v] l := by
  obtain ⟨a, l, cap, h1, h2, h3⟩ := open_row R hk ht hc (fun d => Rows.uptoBulk d ≤ 1048576) one h (fun es sp e d hd => by
    rw [e] at hB
    have := bulk_part hd
    simp only [Rows.uptoBulk] at hB
    omega)
  refine ⟨l, a, cap, by rw [h1], h2 ?_⟩
  rcases h3 with h3 | ⟨es, sp, e, hl⟩
  · omega
  · rw [e] at hB
    have := bulk_len es
    simp only [Rows.uptoBulk] at hB
    omega

end
end Go.Proofs.Ytbgiljognlbkhaa
