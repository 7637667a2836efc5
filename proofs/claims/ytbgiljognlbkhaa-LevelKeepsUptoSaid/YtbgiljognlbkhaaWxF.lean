/-
  Wx: regions that draw and write: many reads taken at once.
-/
import Derived.Test.YtbgiljognlbkhaaWxP
set_option linter.unusedSimpArgs false
set_option linter.unusedVariables false
namespace Go.Wx

def marks : Array Bool → List Nat → Array Bool
  | a, [] => a
  | a, i :: r => marks (a.setIfInBounds i true) r

def takesOk (l : Array Oper) : Array Bool → List Nat → Bool
  | _, [] => true
  | listed, i :: r => Region.free .any l listed i && ((Region.ready .any l listed).contains i && takesOk l (listed.setIfInBounds i true) r)

def picks (l : Array Oper) : List Nat → List Oper → Prop
  | [], [] => True
  | i :: r, o :: os => l[i]? = some o ∧ plainOp' o.op = true ∧ picks l r os
  | _, _ => False
where
  plainOp' : Op → Bool
  | .move .. | .assign .. | .load .. | .fieldAddr .. | .indexAddr .. | .binOp .. | .unOp .. | .convert .. | .extract .. | .build .. | .pick .. | .field .. | .slice .. | .nilCheck .. => true
  | .call c => match c.callee with
    | .builtin .len => true
    | .builtin .min => true
    | .builtin .max => true
    | _ => false
  | _ => false

theorem plain_value' {P : Program} {a : Act} {o : Oper} (hp : picks.plainOp' o.op = true) {w w' : World} {r : Next} (h : (execOp a.eval o).run P w = .ok r w') : ∃ v, r = .value v := by
  have fin : ∀ m : Sem Value, execOp a.eval o = (do pure (.value (← m))) → ∃ v, r = .value v := fun m he => by
    rw [he] at h
    simp only [Sem.run_bind, Sem.run_pure] at h
    unfold Result.andThen at h
    split at h
    · injection h with h1 h2; exact ⟨_, h1.symm⟩
    · cases h
  cases hop : o.op <;> rw [hop] at hp <;> simp only [picks.plainOp', Bool.false_eq_true] at hp
  case call c =>
    cases hc : c.callee with
    | builtin b =>
      rw [hc] at hp
      cases b <;> simp only [Bool.false_eq_true] at hp
      case len => exact fin (Builtin.len_ c.argTypes o.type (c.args.map a.eval)) (by simp [execOp, hop, resolve, hc, invoke, builtin])
      case min => exact fin (Builtin.min_ c.argTypes o.type (c.args.map a.eval)) (by simp [execOp, hop, resolve, hc, invoke, builtin])
      case max => exact fin (Builtin.max_ c.argTypes o.type (c.args.map a.eval)) (by simp [execOp, hop, resolve, hc, invoke, builtin])
    | value f => rw [hc] at hp; cases hp
    | invoke r m => rw [hc] at hp; cases hp
  case nilCheck x =>
    simp only [execOp, hop] at h
    split at h
    all_goals first
      | (simp only [Sem.run_pure] at h; injection h with h1 h2; exact ⟨_, h1.symm⟩)
      | skip
    all_goals first
      | (simp [runtimePanic, goPanic] at h; done)
      | skip
    split at h
    · simp [runtimePanic, goPanic] at h
    · simp only [Sem.run_bind, run_program, Result.andThen_ok] at h
      generalize (nilAhead _ _ _ _).run P w = q at h
      cases q with
      | halt x w1 => cases h
      | ok y w1 =>
        simp only [Result.andThen_ok] at h
        split at h
        · simp [unsupported] at h
        · simp only [Sem.run_pure] at h; injection h with h1 h2; exact ⟨_, h1.symm⟩
    · simp only [Sem.run_pure] at h; injection h with h1 h2; exact ⟨_, h1.symm⟩
  all_goals simp only [execOp, hop, Sem.run_bind, Sem.run_pure] at h
  all_goals first
    | (injection h with h1 h2; exact ⟨_, h1.symm⟩)
    | (unfold Result.andThen at h; split at h <;> first | (injection h with h1 h2; exact ⟨_, h1.symm⟩) | cases h)
    | skip

section
variable {P : Program} {τ : Tau} {n : Nat} {S : World → Prop} {l : List Oper} {K : Exit → St → World → Prop} {s : St} {w : World}

theorem wpAnyH_takes (hs : Region.noSelect l.toArray = true) (hS : S w) {fuel : Nat} : ∀ (is : List Nat) (ops : List Oper) (listed : Array Bool) (a : Act), picks l.toArray is ops → takesOk l.toArray listed is = true →
    wpQuiet P l.toArray S (fun a' => wpAnyH P .any l.toArray (endQ n K) S fuel (marks listed is) a' w) ops a → wpAnyH P .any l.toArray (endQ n K) S (fuel + is.length) listed a w
  | [], [], listed, a, _, _, h => h
  | i :: r, o :: os, listed, a, hp, ht, h => by
    obtain ⟨hi, hpl, hp'⟩ := hp
    simp only [takesOk, Bool.and_eq_true] at ht
    obtain ⟨hf, hr, ht'⟩ := ht
    unfold wpQuiet at h
    have e : fuel + (i :: r).length = (fuel + r.length) + 1 := by simp; omega
    rw [e]
    split at h
    · rename_i hw
      obtain ⟨v, hv, hn⟩ := h
      refine wpAnyH_take hi hs hf hr (fun c a w hq => by cases hq.1) (.inl ⟨hw, fun w' hw' => ?_⟩) hS (wpAnyH_takes hs hS r os _ _ hp' ht' hn)
      have := hv w' hw'
      unfold Oper.quietAt at this
      cases hrun : (execOp a.eval o).run P w' with
      | ok r w'' =>
        obtain ⟨u, rfl⟩ := plain_value' hpl hrun
        rw [hrun] at this
        obtain ⟨e1, e2⟩ := this
        rw [e1, e2]
      | halt x w'' => rw [hrun] at this; exact this.elim
    · rename_i hw
      exact wpAnyH_take hi hs hf hr (fun c a w hq => by cases hq.1) (.inr ⟨by simpa using hw, rfl⟩) hS (wpAnyH_takes hs hS r os _ _ hp' ht' h)
  | [], _ :: _, _, _, hp, _, _ => hp.elim
  | _ :: _, [], _, _, hp, _, _ => hp.elim

/-- these first: they only read, and read the same in every world of the class -/
theorem any_takes (hτ : TauOk P τ) (is : List Nat) {ops : List Oper} {fuel fuel' : Nat} {listed : Array Bool} (listed' : Array Bool) (hf : fuel = fuel' + is.length) (hm : marks listed is = listed') (hp : picks l.toArray is ops) (hs : Region.noSelect l.toArray = true) (ht : takesOk l.toArray listed is = true) (hS : S w)
    (h : wpQ P τ n S l (fun s' => EvAny P n S l K fuel' listed' s' w) ops s) : EvAny P n S l K fuel listed s w := by
  subst hf hm
  unfold EvAny
  intro a hF
  have h1 := wpQ_sound hτ (l := l) (C := S) (k := fun s' => EvAny P n S l K fuel' (marks listed is) s' w) (Q := fun a' => wpAnyH P .any l.toArray (endQ n K) S fuel' (marks listed is) a' w)
    (fun s' a' hF' hk => by unfold EvAny at hk; exact hk a' hF') ops s a hF h
  exact wpAnyH_takes hs hS is ops listed a hp ht h1

noncomputable def pickN (l : List Oper) (is : List Nat) : List Oper :=
  List.rec (motive := fun _ => List Oper) [] (fun i _ ih => match nth l i with
    | some o => o :: ih
    | none => ih) is
noncomputable def picksB (l : List Oper) (is : List Nat) : Bool :=
  List.rec (motive := fun _ => Bool) true (fun i _ ih => match nth l i with
    | some o => picks.plainOp' o.op && ih
    | none => false) is
theorem picks_of {l : List Oper} : ∀ {is : List Nat}, picksB l is = true → picks l.toArray is (pickN l is)
  | [], _ => trivial
  | i :: r, h => by
    have e1 : picksB l (i :: r) = (match nth l i with
      | some o => picks.plainOp' o.op && picksB l r
      | none => false) := rfl
    have e2 : pickN l (i :: r) = (match nth l i with
      | some o => o :: pickN l r
      | none => pickN l r) := rfl
    rw [e1] at h
    rw [e2]
    cases hn : nth l i with
    | none => rw [hn] at h; cases h
    | some o =>
      rw [hn] at h
      simp only [Bool.and_eq_true] at h
      exact ⟨by rw [nth_eq] at hn; simpa using hn, h.1, picks_of h.2⟩

/-- these first: they only read, and read the same in every world of the class -/
theorem any_reads (hτ : TauOk P τ) (is : List Nat) {fuel : Nat} (fuel' : Nat) {listed : Array Bool} (listed' : Array Bool) (hf : fuel = fuel' + is.length) (hm : marks listed is = listed') (hp : picksB l is = true) (hs : Region.noSelect l.toArray = true) (ht : takesOk l.toArray listed is = true) (hS : S w)
    (h : wpQ P τ n S l (fun s' => EvAny P n S l K fuel' listed' s' w) (pickN l is) s) : EvAny P n S l K fuel listed s w :=
  any_takes hτ is listed' hf hm (picks_of hp) hs ht hS h

/-- one alone may come up, by a given successor -/
theorem any_next (hτ : TauOk P τ) (i : Nat) {o : Oper} {fuel : Nat} (fuel' : Nat) {listed : Array Bool} (listed' : Array Bool) (hf : fuel = fuel' + 1) (hm : listed.setIfInBounds i true = listed') (hi : l[i]? = some o) (hr : Region.ready .any l.toArray listed = [i])
    (h : wpL P τ n l (fun s' w' => S w' ∧ EvAny P n S l K fuel' listed' s' w') (fun _ _ _ => False) [o] s w) : EvAny P n S l K fuel listed s w := by
  subst hf hm
  exact any_one hτ i hi hr h
end
end Go.Wx
