/-
  Wx: cuts: where ways meet again, what is known is told anew.
-/
import Derived.Test.YtbgiljognlbkhaaWxG
set_option linter.unusedSimpArgs false
set_option linter.unusedVariables false
namespace Go.Wx
section
variable {P : Program} {τ : Tau} {n : Nat} {a b c : Code} {s : St} {w : World} {K : Exit → St → World → Prop}

theorem ev_of (hτ : TauOk P τ) (h : wpx P τ n c s w K) : EvCode P n c s w K := by
  unfold EvCode
  exact fun a hF => wpx_sound hτ c s w K h a hF

theorem ev_weak (I : List (Nat × Value)) (hd : s.d = []) (hs : Has s I) (h : EvCode P n c ⟨I, []⟩ w K) : EvCode P n c s w K := by
  unfold EvCode at *
  exact fun a hF => h a ⟨hF.size, by rw [hF.defers, hd], fun t v hv => hF.has t v (hs.get t v hv)⟩

theorem ev_seq (hτ : TauOk P τ) (h : wpx P τ n a s w (thenK (fun s' w' => EvCode P n b s' w' K) K)) : EvCode P n (.seq a b) s w K := by
  unfold EvCode
  intro act hF
  refine wp_seq ?_
  refine Go.wp_mono (wpx_sound hτ a s w _ h act hF) fun e a' w' hl => ?_
  obtain ⟨s', hF', hs⟩ := hl
  cases e with
  | normal =>
    have hs : EvCode P n b s' w' K := hs
    unfold EvCode at hs
    exact hs a' hF'
  | exit id => exact ⟨s', hF', hs⟩
  | goto l => exact ⟨s', hF', hs⟩
  | ret => exact ⟨s', hF', hs⟩
  | panic ch => exact ⟨s', hF', hs⟩
  | outgrown => exact ⟨s', hF', hs⟩

theorem ev_seq' (hτ : TauOk P τ) (h : EvCode P n a s w (thenK (fun s' w' => EvCode P n b s' w' K) K)) : EvCode P n (.seq a b) s w K := by
  unfold EvCode at h
  unfold EvCode
  intro act hF
  refine wp_seq ?_
  refine Go.wp_mono (h act hF) fun e a' w' hl => ?_
  obtain ⟨s', hF', hs⟩ := hl
  cases e with
  | normal =>
    have hs : ∀ (a : Act), Fr n a s' → Code.wp P b (lift n K) a w' := hs
    exact hs a' hF'
  | exit id => exact ⟨s', hF', hs⟩
  | goto l => exact ⟨s', hF', hs⟩
  | ret => exact ⟨s', hF', hs⟩
  | panic ch => exact ⟨s', hF', hs⟩
  | outgrown => exact ⟨s', hF', hs⟩

theorem ev_mono {K' : Exit → St → World → Prop} (hK : ∀ e s w, K e s w → K' e s w) (h : EvCode P n c s w K) : EvCode P n c s w K' := by
  unfold EvCode at *
  exact fun act hF => Go.wp_mono (h act hF) fun e a' w' hl => lift_mono hK e a' w' hl

/-- the ways through 'a' meet: behind it the slots of I x are known, and R x holds -/
theorem ev_mid (hτ : TauOk P τ) {σ : Type} (I : σ → List (Nat × Value)) (R : σ → World → Prop) (h1 : wpx P τ n a s w (thenK (fun s' w' => ∃ x, s'.d = [] ∧ Has s' (I x) ∧ R x w') K))
    (h2 : ∀ x w', R x w' → EvCode P n b ⟨I x, []⟩ w' K) : EvCode P n (.seq a b) s w K := by
  have h1' := ev_of hτ h1
  refine ev_seq' hτ (ev_mono (fun e s' w' h => ?_) h1')
  cases e with
  | normal =>
    obtain ⟨x, hd, hs, hR⟩ := h
    exact ev_weak (I x) hd hs (h2 x w' hR)
  | exit id => exact h
  | goto l => exact h
  | ret => exact h
  | panic ch => exact h
  | outgrown => exact h

theorem ev_block {id : Nat} (h : EvCode P n c s w (blockK id K)) : EvCode P n (.block id c) s w K := by
  unfold EvCode at *
  intro act hF
  refine wp_block ?_
  refine Go.wp_mono (h act hF) fun e a' w' hl => ?_
  obtain ⟨s', hF', hs⟩ := hl
  cases e with
  | normal => exact ⟨s', hF', hs⟩
  | exit j =>
    simp only [Exit.inBlock]
    simp only [blockK] at hs
    by_cases hj : j = id
    · subst hj; rw [if_pos rfl]; simp at hs; exact ⟨s', hF', hs⟩
    · rw [if_neg hj]
      have : Nat.beq j id = false := by
        cases hb : Nat.beq j id with
        | true => exact absurd (Nat.eq_of_beq_eq_true hb) hj
        | false => rfl
      rw [this] at hs
      exact ⟨s', hF', hs⟩
  | goto l => exact ⟨s', hF', hs⟩
  | ret => exact ⟨s', hF', hs⟩
  | panic ch => exact ⟨s', hF', hs⟩
  | outgrown => exact ⟨s', hF', hs⟩

/-- a loop whose rounds may be cut; nothing is deferred -/
theorem loopE {σ : Type} (I : σ → List (Nat × Value)) (R : σ → World → Prop) (μ : σ → Nat) (x0 : σ)
    (hd : s.d = []) (h0 : Has s (I x0)) (hR : R x0 w)
    (round : ∀ x w, R x w → EvCode P n c ⟨I x, []⟩ w (thenK (fun s' w' => ∃ y, μ y < μ x ∧ s'.d = [] ∧ Has s' (I y) ∧ R y w') K)) : EvCode P n (.loop c) s w K := by
  unfold EvCode
  intro a hF
  have hex : ∀ a' s', Fr n a' s' → s'.d = [] → ∀ y, Has s' (I y) → Fr n a' ⟨I y, []⟩ := fun a' s' hF' hd y hy =>
    ⟨hF'.size, by rw [hF'.defers, hd], fun t v hv => hF'.has t v (hy.get t v hv)⟩
  refine wp_loop_ghost (fun y a w => Fr n a ⟨I y, []⟩ ∧ R y w) μ x0 ⟨hex a s hF hd x0 h0, hR⟩ ?_
  intro y a w ⟨hFy, hRy⟩
  have hr := round y w hRy
  unfold EvCode at hr
  refine Go.wp_mono (hr a hFy) fun e a' w' hl => ?_
  obtain ⟨s', hF', hs⟩ := hl
  cases e with
  | normal =>
    obtain ⟨z, hlt, hd, hz, hRz⟩ := hs
    exact ⟨z, ⟨hex a' s' hF' hd z hz, hRz⟩, hlt⟩
  | exit id => exact ⟨s', hF', hs⟩
  | goto l => exact ⟨s', hF', hs⟩
  | ret => exact ⟨s', hF', hs⟩
  | panic ch => exact ⟨s', hF', hs⟩
  | outgrown => exact ⟨s', hF', hs⟩

theorem lp (hτ : TauOk P τ) {σ : Type} (I : σ → List (Nat × Value)) (R : σ → World → Prop) (μ : σ → Nat) (x0 : σ)
    (hd : s.d = []) (h0 : Has s (I x0)) (hR : R x0 w)
    (round : ∀ x w, R x w → wpx P τ n c ⟨I x, []⟩ w (thenK (fun s' w' => ∃ y, μ y < μ x ∧ s'.d = [] ∧ Has s' (I y) ∧ R y w') K)) : EvCode P n (.loop c) s w K :=
  loopE I R μ x0 hd h0 hR fun x w hx => ev_of hτ (round x w hx)
end

/-- a function's body, told as code not yet laid open -/
theorem calls_ev {P : Program} {f : FuncId} {fn : Func} {c : Code} {args : List Value} {w : World} {R : Ending → World → Prop} (n : Nat) (rs : List ResultVar)
    (hf : P.funcs[f]? = some fn) (hb : fn.body = some c) (hn : fn.ntmps = n) (hrs : fn.results.toList = rs) (hle : args.length ≤ n)
    (h : EvCode P n c ⟨ini args 0, []⟩ w (fnK P rs R)) : Calls P f args.toArray w R := by
  subst hn hrs
  refine calls_of_wp hf hb ?_
  have hF : Fr fn.ntmps { tmps := args.toArray ++ Array.replicate (fn.ntmps - args.toArray.size) undef, defers := [] } ⟨ini args 0, []⟩ := by
    refine ⟨by simp; omega, rfl, fun t v ht => ?_⟩
    obtain ⟨_, h2⟩ := get_ini _ _ _ _ ht
    rw [Nat.sub_zero] at h2
    have hlt : t < args.length := (List.getElem?_eq_some_iff.1 h2).1
    rw [Array.getElem?_append_left (by simpa using hlt)]
    simpa using h2
  unfold EvCode at h
  refine Go.wp_mono (h _ hF) fun e a' w' hl => ?_
  obtain ⟨s, hF', hs⟩ := hl
  have hd := hF'.defers
  cases e with
  | normal =>
    simp only [fnK] at hs
    split at hs
    · rename_i h0
      obtain ⟨vs, h1, h2⟩ := results_run hF' hs
      exact ⟨by rw [hd, h0], _, h1, h2⟩
    · exact hs.elim
  | ret =>
    simp only [fnK] at hs
    split at hs
    · rename_i h0
      obtain ⟨vs, h1, h2⟩ := results_run hF' hs
      exact ⟨by rw [hd, h0], _, h1, h2⟩
    · exact hs.elim
  | panic ch =>
    simp only [fnK] at hs
    split at hs
    · rename_i h0
      exact ⟨by rw [hd, h0], hs⟩
    · exact hs.elim
  | outgrown => exact hs
  | exit id => exact hs.elim
  | goto l => exact hs.elim
end Go.Wx
