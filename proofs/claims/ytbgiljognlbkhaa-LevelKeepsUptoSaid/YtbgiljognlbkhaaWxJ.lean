/-
  Wx: regions that draw, read, and at their end write what they read: the last one, which waits for all others, need not keep the class.
-/
import Derived.Test.YtbgiljognlbkhaaWxI
set_option linter.unusedSimpArgs false
set_option linter.unusedVariables false
namespace Go.Wx

/-- number j waits for every other -/
def waits (md : Region.Mode) (ops : Array Oper) (j : Nat) : Bool :=
  match ops[j]? with
  | some o => (List.range ops.size).all fun k => k == j || o.after.any fun e => Region.binds md e && e.on == k
  | none => false

theorem waits_spec {md : Region.Mode} {ops : Array Oper} {i j : Nat} {o : Oper} (h : waits md ops j = true) (hj : ops[j]? = some o) (hi : i < ops.size) (hne : i ≠ j) : ∃ e ∈ o.after, Region.binds md e = true ∧ e.on = i := by
  unfold waits at h
  rw [hj] at h
  have := List.all_eq_true.1 h i (List.mem_range.2 hi)
  simp [hne] at this
  obtain ⟨k, hk, h1, h2⟩ := this
  exact ⟨_, Array.getElem_mem hk, h1, h2⟩

def wpAnyG (P : Program) (md : Region.Mode) (ops : Array Oper) (Q : Exit → Act → World → Prop) (S : World → Prop) : Nat → Array Bool → Act → World → Prop
  | 0, listed, a, w => Region.ready md ops listed = [] ∧ Q .normal a w
  | fuel + 1, listed, a, w => (Region.ready md ops listed = [] → Q .normal a w) ∧
    ∀ i ∈ Region.ready md ops listed, wpOp P ops Q i (fun a' w' => (S w' ∨ waits md ops i = true) ∧ wpAnyG P md ops Q S fuel (listed.setIfInBounds i true) a' w') a w

section
variable {P : Program} {ops : Array Oper} {Q : Exit → Act → World → Prop} {md : Region.Mode} {S : World → Prop}
theorem wpAny_of_G : ∀ (fuel : Nat) (listed : Array Bool) (a : Act) (w : World), wpAnyG P md ops Q S fuel listed a w → wpAny P md ops Q fuel listed a w
  | 0, _, _, _, h => h
  | fuel + 1, _, _, _, h => ⟨h.1, fun i hi => wpOp_mono (fun a' w' h' => wpAny_of_G fuel _ a' w' h'.2) (h.2 i hi)⟩

theorem wpAnyG_first {i : Nat} {oi : Oper} {v : Value} (hi : ops[i]? = some oi) (hsel : ∀ (j : Nat) (o : Oper) cs b, ops[j]? = some o → o.op ≠ .select cs b)
    (hQ : ∀ c a w, Q (.panic c) (a.put oi.dst v) w → Q (.panic c) a w) :
    ∀ (fuel : Nat) (listed : Array Bool) (a : Act) (w : World),
      (∀ j oj, ops[j]? = some oj → j ≠ i → listed.getD j true = false → (∀ e ∈ oj.after, Region.binds md e = true → e.on ≠ i) → oi.apart ops oj = true) →
      i ∈ Region.ready md ops listed → YieldsIf P ops S oi v a → S w →
      wpAnyG P md ops Q S fuel (listed.setIfInBounds i true) (a.put oi.dst v) w → wpAnyG P md ops Q S (fuel + 1) listed a w := by
  have hio : i < ops.size := (Array.getElem?_eq_some_iff.1 hi).1
  intro fuel
  induction fuel with
  | zero =>
    intro listed a w _ hr hy hS H
    refine ⟨fun h => (by rw [h] at hr; cases hr), fun j hj => ?_⟩
    by_cases hji : j = i
    · subst hji
      exact hy.wpOp hi hS ⟨.inl hS, H⟩
    · have h0 := ready_mono hj hji
      rw [H.1] at h0
      cases h0
  | succ fuel ih =>
    intro listed a w hfree hr hy hS H
    refine ⟨fun h => (by rw [h] at hr; cases hr), fun j hj => ?_⟩
    by_cases hji : j = i
    · subst hji
      exact hy.wpOp hi hS ⟨.inl hS, H⟩
    have h1 := H.2 j (ready_mono hj hji)
    obtain ⟨hjun, oj, hoj, hall⟩ := mem_ready.1 hj
    have hnot : ∀ e ∈ oj.after, Region.binds md e = true → e.on ≠ i := fun e he hb heq => by
      have g1 := hall e he hb
      have g0 := (mem_ready.1 hr).1
      rw [heq] at g1
      by_cases hl : i < listed.size
      · simp [hl] at g0 g1; rw [g0] at g1; cases g1
      · simp [hl] at g1
    have hnw : ¬ waits md ops j = true := fun hw => by
      obtain ⟨e, he, hb, hon⟩ := waits_spec hw hoj hio (Ne.symm hji)
      exact hnot e he hb hon
    have h2 := wpOp_putIf hoj (hfree j oj hoj hji hjun hnot) (fun cs b => hsel i oi cs b hi) (fun cs b => hsel j oj cs b hoj) hQ hy h1
    refine wpOp_mono (fun a' w' h3 => ?_) h2
    have hS' : S w' := h3.2.1.resolve_right hnw
    refine ⟨.inl hS', ih (listed.setIfInBounds j true) a' w' (fun k ok hk hki hun hno => hfree k ok hk hki ?_ hno) (ready_mono hr (Ne.symm hji)) h3.1 hS' ?_⟩
    · by_cases hjk : j = k
      · subst hjk; exact hjun
      · rw [getD_set_ne true hjk] at hun; exact hun
    · rw [Array.setIfInBounds_comm _ _ hji]
      exact h3.2.2
end

@[irreducible] def EvAnyG (P : Program) (n : Nat) (S : World → Prop) (l : List Oper) (K : Exit → St → World → Prop) (fuel : Nat) (listed : Array Bool) (s : St) (w : World) : Prop :=
  ∀ a, Fr n a s → wpAnyG P .any l.toArray (endQ n K) S fuel listed a w

section
variable {P : Program} {τ : Tau} {n : Nat} {S : World → Prop} {l : List Oper} {K : Exit → St → World → Prop} {s : St} {w : World}

theorem drawG {id : Nat} (hτ : TauOk P τ) (S : World → Prop) (h : EvAnyG P n S l K l.toArray.size (Array.replicate l.toArray.size false) s { w with drawn := w.drawn + 1 }) : EvCode P n (.region id l.toArray true) s w K := by
  unfold EvCode
  intro a hF
  unfold EvAnyG at h
  exact Go.wp_mono (wp_region_any hτ.mixed (wpAny_of_G _ _ _ _ (h a hF))) fun e a' w' ⟨he, hl⟩ => by subst he; exact hl

theorem wpAnyG_takes (hs : Region.noSelect l.toArray = true) (hS : S w) {fuel : Nat} : ∀ (is : List Nat) (ops : List Oper) (listed : Array Bool) (a : Act), picks l.toArray is ops → takesOk l.toArray listed is = true →
    wpQuiet P l.toArray S (fun a' => wpAnyG P .any l.toArray (endQ n K) S fuel (marks listed is) a' w) ops a → wpAnyG P .any l.toArray (endQ n K) S (fuel + is.length) listed a w
  | [], [], listed, a, _, _, h => h
  | i :: r, o :: os, listed, a, hp, ht, h => by
    obtain ⟨hi, hpl, hp'⟩ := hp
    simp only [takesOk, Bool.and_eq_true] at ht
    obtain ⟨hf, hr, ht'⟩ := ht
    unfold wpQuiet at h
    have e : fuel + (i :: r).length = (fuel + r.length) + 1 := by simp; omega
    rw [e]
    have hr' : i ∈ Region.ready .any l.toArray listed := by simpa using hr
    split at h
    · rename_i hw
      obtain ⟨v, hv, hn⟩ := h
      refine wpAnyG_first hi (Region.noSelect_spec hs) (fun c a w hq => by cases hq.1) _ _ _ _ (Region.free_spec hi hf) hr' (.inl ⟨hw, fun w' hw' => ?_⟩) hS (wpAnyG_takes hs hS r os _ _ hp' ht' hn)
      have := hv w' hw'
      unfold Oper.quietAt at this
      cases hrun : (execOp a.eval o).run P w' with
      | ok r w'' =>
        obtain ⟨u, rfl⟩ := plain_value' hpl hrun
        rw [hrun] at this
        obtain ⟨e1, e2⟩ := this
        rw [e1, e2]
      | halt x w'' => rw [hrun] at this; exact this.elim
    · rename_i hw
      exact wpAnyG_first hi (Region.noSelect_spec hs) (fun c a w hq => by cases hq.1) _ _ _ _ (Region.free_spec hi hf) hr' (.inr ⟨by simpa using hw, rfl⟩) hS (wpAnyG_takes hs hS r os _ _ hp' ht' h)
  | [], _ :: _, _, _, hp, _, _ => hp.elim
  | _ :: _, [], _, _, hp, _, _ => hp.elim

/-- these first: they only read, and read the same in every world of the class -/
theorem readsG (hτ : TauOk P τ) (is : List Nat) {fuel : Nat} (fuel' : Nat) {listed : Array Bool} (listed' : Array Bool) (hf : fuel = fuel' + is.length) (hm : marks listed is = listed') (hp : picksB l is = true) (hs : Region.noSelect l.toArray = true) (ht : takesOk l.toArray listed is = true) (hS : S w)
    (h : wpQ P τ n S l (fun s' => EvAnyG P n S l K fuel' listed' s' w) (pickN l is) s) : EvAnyG P n S l K fuel listed s w := by
  subst hf hm
  unfold EvAnyG
  intro a hF
  have h1 := wpQ_sound hτ (l := l) (C := S) (k := fun s' => EvAnyG P n S l K fuel' (marks listed is) s' w) (Q := fun a' => wpAnyG P .any l.toArray (endQ n K) S fuel' (marks listed is) a' w)
    (fun s' a' hF' hk => by unfold EvAnyG at hk; exact hk a' hF') (pickN l is) s a hF h
  exact wpAnyG_takes hs hS is _ listed a (picks_of hp) ht h1

theorem stepG (hτ : TauOk P τ) {i fuel : Nat} {listed : Array Bool} {o : Oper} (hi : l[i]? = some o) {a : Act} (hF : Fr n a s)
    (h : wpL P τ n l (fun s' w' => (S w' ∨ waits .any l.toArray i = true) ∧ EvAnyG P n S l K fuel (listed.setIfInBounds i true) s' w') (fun _ _ _ => False) [o] s w) :
    wpOp P l.toArray (endQ n K) i (fun a' w' => (S w' ∨ waits .any l.toArray i = true) ∧ wpAnyG P .any l.toArray (endQ n K) S fuel (listed.setIfInBounds i true) a' w') a w := by
  refine wpOp_of_list (o := o) (by simpa using hi) endQ_np endQ_no ?_
  exact wpL_sound hτ (l := l) (Q := fun e a' w' => e = .normal ∧ ((S w' ∨ waits .any l.toArray i = true) ∧ wpAnyG P .any l.toArray (endQ n K) S fuel (listed.setIfInBounds i true) a' w'))
    (fun s' w' a' hF' hk => ⟨rfl, hk.1, by have := hk.2; unfold EvAnyG at this; exact this a' hF'⟩) (fun _ _ _ _ _ hk => hk.elim) [o] s w a hF h

theorem allG (hτ : TauOk P τ) (is : List Nat) {fuel : Nat} {listed : Array Bool} (hr : Region.ready .any l.toArray listed = is) (hne : is ≠ [])
    (h : ∀ i ∈ is, ∃ o, l[i]? = some o ∧ wpL P τ n l (fun s' w' => (S w' ∨ waits .any l.toArray i = true) ∧ EvAnyG P n S l K fuel (listed.setIfInBounds i true) s' w') (fun _ _ _ => False) [o] s w) : EvAnyG P n S l K (fuel + 1) listed s w := by
  unfold EvAnyG
  intro a hF
  refine ⟨fun h0 => absurd (hr ▸ h0) hne, fun j hj => ?_⟩
  obtain ⟨o, ho, h⟩ := h j (hr ▸ hj)
  exact stepG hτ ho hF h

/-- one alone may come up -/
theorem nextG (hτ : TauOk P τ) (i : Nat) {o : Oper} {fuel : Nat} (fuel' : Nat) {listed : Array Bool} (listed' : Array Bool) (hf : fuel = fuel' + 1) (hm : listed.setIfInBounds i true = listed') (hi : l[i]? = some o) (hr : Region.ready .any l.toArray listed = [i])
    (h : wpL P τ n l (fun s' w' => (S w' ∨ waits .any l.toArray i = true) ∧ EvAnyG P n S l K fuel' listed' s' w') (fun _ _ _ => False) [o] s w) : EvAnyG P n S l K fuel listed s w := by
  subst hf hm
  refine allG hτ [i] hr (by simp) fun j hj => ?_
  obtain rfl : j = i := by simpa using hj
  exact ⟨o, hi, h⟩
/-- one of two -/
theorem twoG (hτ : TauOk P τ) (i j : Nat) {o o' : Oper} {fuel : Nat} (fuel' : Nat) {listed : Array Bool} (l1 l2 : Array Bool) (hf : fuel = fuel' + 1) (hm1 : listed.setIfInBounds i true = l1) (hm2 : listed.setIfInBounds j true = l2) (hi : l[i]? = some o) (hj : l[j]? = some o') (hr : Region.ready .any l.toArray listed = [i, j])
    (h1 : wpL P τ n l (fun s' w' => (S w' ∨ waits .any l.toArray i = true) ∧ EvAnyG P n S l K fuel' l1 s' w') (fun _ _ _ => False) [o] s w)
    (h2 : wpL P τ n l (fun s' w' => (S w' ∨ waits .any l.toArray j = true) ∧ EvAnyG P n S l K fuel' l2 s' w') (fun _ _ _ => False) [o'] s w) : EvAnyG P n S l K fuel listed s w := by
  subst hf hm1 hm2
  refine allG hτ [i, j] hr (by simp) fun m hm => ?_
  have : m = i ∨ m = j := by simpa using hm
  rcases this with rfl | rfl
  · exact ⟨o, hi, h1⟩
  · exact ⟨o', hj, h2⟩
/-- one of three -/
theorem threeG (hτ : TauOk P τ) (i j k : Nat) {o o' o'' : Oper} {fuel : Nat} (fuel' : Nat) {listed : Array Bool} (l1 l2 l3 : Array Bool) (hf : fuel = fuel' + 1) (hm1 : listed.setIfInBounds i true = l1) (hm2 : listed.setIfInBounds j true = l2) (hm3 : listed.setIfInBounds k true = l3) (hi : l[i]? = some o) (hj : l[j]? = some o') (hk : l[k]? = some o'') (hr : Region.ready .any l.toArray listed = [i, j, k])
    (h1 : wpL P τ n l (fun s' w' => (S w' ∨ waits .any l.toArray i = true) ∧ EvAnyG P n S l K fuel' l1 s' w') (fun _ _ _ => False) [o] s w)
    (h2 : wpL P τ n l (fun s' w' => (S w' ∨ waits .any l.toArray j = true) ∧ EvAnyG P n S l K fuel' l2 s' w') (fun _ _ _ => False) [o'] s w)
    (h3 : wpL P τ n l (fun s' w' => (S w' ∨ waits .any l.toArray k = true) ∧ EvAnyG P n S l K fuel' l3 s' w') (fun _ _ _ => False) [o''] s w) : EvAnyG P n S l K fuel listed s w := by
  subst hf hm1 hm2 hm3
  refine allG hτ [i, j, k] hr (by simp) fun m hm => ?_
  have : m = i ∨ m = j ∨ m = k := by simpa using hm
  rcases this with rfl | rfl | rfl
  · exact ⟨o, hi, h1⟩
  · exact ⟨o', hj, h2⟩
  · exact ⟨o'', hk, h3⟩

theorem doneG {fuel : Nat} {listed : Array Bool} (hr : Region.ready .any l.toArray listed = []) (h : K .normal s w) : EvAnyG P n S l K fuel listed s w := by
  unfold EvAnyG
  intro a hF
  cases fuel with
  | zero => exact ⟨hr, rfl, s, hF, h⟩
  | succ f => exact ⟨fun _ => ⟨rfl, s, hF, h⟩, by rw [hr]; simp⟩

theorem weakG {fuel : Nat} {listed : Array Bool} (sl : List (Nat × Value)) (hs : Has s sl) (h : EvAnyG P n S l K fuel listed ⟨sl, s.d⟩ w) : EvAnyG P n S l K fuel listed s w := by
  unfold EvAnyG at *
  intro a hF
  exact h a ⟨hF.size, hF.defers, fun t v hv => hF.has t v (hs.get t v hv)⟩
end
end Go.Wx
