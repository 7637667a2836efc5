/-
  Wx: regions that draw their order AND turn memory: the orders are gone through, reads taken first.
-/
import Derived.Test.YtbgiljognlbkhaaWxT
import Derived.OrdersHeld
set_option linter.unusedSimpArgs false
set_option linter.unusedVariables false
namespace Go.Wx

def plainOp : Op → Bool
  | .move .. | .assign .. | .load .. | .fieldAddr .. | .indexAddr .. | .binOp .. | .unOp .. | .convert .. | .extract .. | .build .. | .pick .. | .field .. | .slice .. => true
  | _ => false

theorem plain_value {P : Program} {a : Act} {o : Oper} (hp : plainOp o.op = true) {w w' : World} {r : Next} (h : (execOp a.eval o).run P w = .ok r w') : ∃ v, r = .value v := by
  cases hop : o.op <;> rw [hop] at hp <;> simp only [plainOp, Bool.false_eq_true] at hp <;> simp only [execOp, hop, Sem.run_bind, Sem.run_pure] at h
  all_goals first
    | (injection h with h1 h2; exact ⟨_, h1.symm⟩)
    | (unfold Result.andThen at h; split at h <;> first | (injection h with h1 h2; exact ⟨_, h1.symm⟩) | cases h)
    | skip

/-- what is asked behind the region: no panic leaves it -/
def endQ (n : Nat) (K : Exit → St → World → Prop) : Exit → Act → World → Prop := fun e a w => e = .normal ∧ lift n K .normal a w

/-- whatever order is drawn from here on -/
@[irreducible] def EvAny (P : Program) (n : Nat) (S : World → Prop) (l : List Oper) (K : Exit → St → World → Prop) (fuel : Nat) (listed : Array Bool) (s : St) (w : World) : Prop :=
  ∀ a, Fr n a s → wpAnyH P .any l.toArray (endQ n K) S fuel listed a w

section
variable {P : Program} {τ : Tau} {n : Nat} {S : World → Prop} {l : List Oper} {K : Exit → St → World → Prop} {fuel : Nat} {listed : Array Bool} {s : St} {w : World}

theorem drawH {id : Nat} (hτ : TauOk P τ) (S : World → Prop) (h : EvAny P n S l K l.toArray.size (Array.replicate l.toArray.size false) s { w with drawn := w.drawn + 1 }) : EvCode P n (.region id l.toArray true) s w K := by
  unfold EvCode
  intro a hF
  unfold EvAny at h
  exact Go.wp_mono (wp_region_held hτ.mixed (h a hF)) fun e a' w' ⟨he, hl⟩ => by subst he; exact hl

/-- number i first: it only reads, and reads the same in every world of the class -/
theorem any_take (hτ : TauOk P τ) (i : Nat) {o : Oper} (hi : l[i]? = some o) (hp : plainOp o.op = true) (hs : Region.noSelect l.toArray = true) (hf : Region.free .any l.toArray listed i = true)
    (hr : (Region.ready .any l.toArray listed).contains i = true) (hS : S w) (h : wpQ P τ n S l (fun s' => EvAny P n S l K fuel (listed.setIfInBounds i true) s' w) [o] s) : EvAny P n S l K (fuel + 1) listed s w := by
  unfold EvAny
  intro a hF
  have h1 := wpQ_sound hτ (l := l) (C := S) (k := fun s' => EvAny P n S l K fuel (listed.setIfInBounds i true) s' w) (Q := fun a' => wpAnyH P .any l.toArray (endQ n K) S fuel (listed.setIfInBounds i true) a' w)
    (fun s' a' hF' hk => by unfold EvAny at hk; exact hk a' hF') [o] s a hF h
  have hi' : l.toArray[i]? = some o := by simpa using hi
  unfold wpQuiet at h1
  split at h1
  · rename_i hw
    obtain ⟨v, hv, hn⟩ := h1
    refine wpAnyH_take hi' hs hf hr (fun c a w hq => by cases hq.1) (.inl ⟨hw, fun w' hw' => ?_⟩) hS hn
    have := hv w' hw'
    unfold Oper.quietAt at this
    cases hrun : (execOp a.eval o).run P w' with
    | ok r w'' =>
      obtain ⟨u, rfl⟩ := plain_value hp hrun
      rw [hrun] at this
      obtain ⟨e1, e2⟩ := this
      rw [e1, e2]
    | halt x w'' => rw [hrun] at this; exact this.elim
  · rename_i hw
    refine wpAnyH_take hi' hs hf hr (fun c a w hq => by cases hq.1) (.inr ⟨by simpa using hw, rfl⟩) hS h1

theorem wpOp_of_list {ops : Array Oper} {Q : Exit → Act → World → Prop} {i : Nat} {o : Oper} {k : Act → World → Prop} {a : Act} (hi : ops[i]? = some o) (hnp : ∀ c a w, ¬ Q (.panic c) a w) (hno : ¬ LetsOut Q)
    (h : wpList P ops (fun e a' w' => e = .normal ∧ k a' w') [o] a w) : wpOp P ops Q i k a w := by
  unfold wpOp
  simp only [hi]
  unfold wpList at h
  split at h
  · rename_i hw
    rw [if_pos hw]
    rcases h with h | ⟨_, a', w', h, _⟩
    · left
      unfold Oper.wp at *
      generalize (execOp a.eval o).run P w = r at *
      cases r with
      | ok x w' =>
        cases x <;> simp only [Oper.upon, wpList] at h ⊢
        case value v => exact h.2
        case skip => exact h.2
        case defer d => exact h.2
        case enter f args =>
          refine Calls.mono h fun e w'' he => ?_
          cases e with
          | returned u => exact he.2
          | panicked c => cases he.1
          | outgrown => obtain ⟨_, _, he, _⟩ := he; cases he
        case row row args => exact Rows.mono h fun u w'' he => he.2
      | halt x w' =>
        cases x <;> simp only [Oper.upon] at h ⊢
        case panic v => cases h.1
    · cases h
  · rename_i hw
    rw [if_neg hw]
    exact h.2

theorem endQ_np (c : List PanicEntry) (a : Act) (w : World) : ¬ endQ n K (.panic c) a w := fun h => by cases h.1
theorem endQ_no : ¬ LetsOut (endQ n K) := fun ⟨_, _, h⟩ => by cases h.1

theorem any_step (hτ : TauOk P τ) {i : Nat} {o : Oper} (hi : l[i]? = some o) {a : Act} (hF : Fr n a s)
    (h : wpL P τ n l (fun s' w' => S w' ∧ EvAny P n S l K fuel (listed.setIfInBounds i true) s' w') (fun _ _ _ => False) [o] s w) :
    wpOp P l.toArray (endQ n K) i (fun a' w' => S w' ∧ wpAnyH P .any l.toArray (endQ n K) S fuel (listed.setIfInBounds i true) a' w') a w := by
  refine wpOp_of_list (o := o) (by simpa using hi) endQ_np endQ_no ?_
  exact wpL_sound hτ (l := l) (Q := fun e a' w' => e = .normal ∧ (S w' ∧ wpAnyH P .any l.toArray (endQ n K) S fuel (listed.setIfInBounds i true) a' w'))
    (fun s' w' a' hF' hk => ⟨rfl, hk.1, by have := hk.2; unfold EvAny at this; exact this a' hF'⟩) (fun _ _ _ _ _ hk => hk.elim) [o] s w a hF h

/-- one alone may come up -/
theorem any_one (hτ : TauOk P τ) (i : Nat) {o : Oper} (hi : l[i]? = some o) (hr : Region.ready .any l.toArray listed = [i])
    (h : wpL P τ n l (fun s' w' => S w' ∧ EvAny P n S l K fuel (listed.setIfInBounds i true) s' w') (fun _ _ _ => False) [o] s w) : EvAny P n S l K (fuel + 1) listed s w := by
  unfold EvAny
  intro a hF
  refine wpAnyH_all hr (by simp) fun j hj => ?_
  obtain rfl : j = i := by simpa using hj
  exact any_step hτ hi hF h

/-- one of two -/
theorem any_two (hτ : TauOk P τ) (i j : Nat) {o o' : Oper} (hi : l[i]? = some o) (hj : l[j]? = some o') (hr : Region.ready .any l.toArray listed = [i, j])
    (h1 : wpL P τ n l (fun s' w' => S w' ∧ EvAny P n S l K fuel (listed.setIfInBounds i true) s' w') (fun _ _ _ => False) [o] s w)
    (h2 : wpL P τ n l (fun s' w' => S w' ∧ EvAny P n S l K fuel (listed.setIfInBounds j true) s' w') (fun _ _ _ => False) [o'] s w) : EvAny P n S l K (fuel + 1) listed s w := by
  unfold EvAny
  intro a hF
  refine wpAnyH_all hr (by simp) fun m hm => ?_
  have : m = i ∨ m = j := by simpa using hm
  rcases this with rfl | rfl
  · exact any_step hτ hi hF h1
  · exact any_step hτ hj hF h2

theorem any_done (hr : Region.ready .any l.toArray listed = []) (h : K .normal s w) : EvAny P n S l K fuel listed s w := by
  unfold EvAny
  intro a hF
  exact wpAnyH_done hr ⟨rfl, s, hF, h⟩ fuel
end

theorem ldNK {w : World} {b o n : Nat} {k : Value → Prop} (cs : List Value) (hn : cs.length = n) (h : ∀ j v, cs[j]? = some v → Cl w.heap b (o + j) v) (hk : k (.agg cs.toArray)) : EvLdNQ (fun w' => Kp [] w w') ⟨b, o, none⟩ n k := by
  unfold EvLdNQ
  refine ⟨cs, hn, fun w' hw j v hj => ?_, hk⟩
  have := ((h j v hj).kp hw (by simp)).cell
  unfold Addr.add
  split
  · rename_i h0
    subst h0
    simpa using this
  · exact this

/-- all but these slots is forgotten -/
theorem any_weak {P : Program} {n : Nat} {S : World → Prop} {l : List Oper} {K : Exit → St → World → Prop} {fuel : Nat} {listed : Array Bool} {s : St} {w : World} (sl : List (Nat × Value)) (hs : Has s sl)
    (h : EvAny P n S l K fuel listed ⟨sl, s.d⟩ w) : EvAny P n S l K fuel listed s w := by
  unfold EvAny at *
  intro a hF
  exact h a ⟨hF.size, hF.defers, fun t v hv => hF.has t v (hs.get t v hv)⟩

theorem any_cast {P : Program} {n : Nat} {S : World → Prop} {l : List Oper} {K : Exit → St → World → Prop} {fuel fuel' : Nat} {listed : Array Bool} {s : St} {w : World} (listed' : Array Bool) (hl : listed = listed') (hf : fuel = fuel')
    (h : EvAny P n S l K fuel' listed' s w) : EvAny P n S l K fuel listed s w := by
  subst hl hf
  exact h

/-- where several orders meet -/
theorem any_fork {P : Program} {n : Nat} {S : World → Prop} {l : List Oper} {K : Exit → St → World → Prop} {fuel : Nat} {listed : Array Bool} {s : St} {w : World} (T : St → World → Prop) (fuel' : Nat) (listed' : Array Bool)
    (tail : ∀ s w, T s w → EvAny P n S l K fuel' listed' s w) (main : (∀ s w, T s w → EvAny P n S l K fuel' listed' s w) → EvAny P n S l K fuel listed s w) : EvAny P n S l K fuel listed s w := main tail

/-! ### append to a slice of one's own -/
theorem grown_kp {w w' : World} {row : Option Nat} (h : w.grownBy w' row) : Kp row.toList w w' :=
  ⟨h.os, h.tape, h.output, h.size, fun b hb hx => h.block b hb (fun e => hx (by simp [← e]))⟩

/-- what is one's own, as cells -/
theorem own_cells {w : World} {base e sz n : Nat} {v : Value} {xs : List Value} (h : w.ownsRow base e sz v n xs) :
    ∃ a cap, v = .slice a n cap ∧ xs.length = n * sz ∧ n ≤ cap ∧ (n = 0 ∨ ∃ g, a = some ⟨g, 0, none⟩ ∧ base ≤ g ∧ g < w.heap.size ∧ ∀ j u, xs[j]? = some u → Cl w.heap g j u) := by
  obtain ⟨h1, h2⟩ := h
  rcases h2 with ⟨rfl, rfl⟩ | ⟨g, cap, cur, rfl, hb, hg, hn, hm, hc, ht⟩
  · exact ⟨none, 0, rfl, h1, Nat.le_refl _, .inl rfl⟩
  · refine ⟨_, cap, rfl, h1, hn, .inr ⟨g, rfl, hb, (Array.getElem?_eq_some_iff.1 hg).1, fun j u hu => ⟨cur, e, _, hg, ?_⟩⟩⟩
    rw [← ht, List.getElem?_take] at hu
    split at hu
    · simpa using hu
    · cases hu

theorem own_bk {w : World} {b base e sz n : Nat} {cs : List Value} (h : Bk w.heap b cs e) (hb : base ≤ b) (hc : cs.length = n * sz) (hm : n ≤ maxLen) : w.ownsRow base e sz (.slice (some ⟨b, 0, none⟩) n n) n cs :=
  ⟨hc, .inr ⟨b, n, cs.toArray, rfl, hb, h, Nat.le_refl _, hm, by simpa using hc, by rw [← hc]; simp⟩⟩

theorem own_kp {w w' : World} {base e sz n : Nat} {v : Value} {xs : List Value} {X : List Nat} (h : w.ownsRow base e sz v n xs) (hk : Kp X w w') (hx : ∀ g, v.ownBlock = some g → g ∉ X) : w'.ownsRow base e sz v n xs := by
  obtain ⟨h1, h2⟩ := h
  refine ⟨h1, ?_⟩
  rcases h2 with h2 | ⟨g, cap, cur, rfl, hb, hg, rest⟩
  · exact .inl h2
  · refine .inr ⟨g, cap, cur, rfl, hb, ?_, rest⟩
    rw [hk.block g (Array.getElem?_eq_some_iff.1 hg).1 (hx g rfl)]
    exact hg

theorem append_none {P : Program} {w : World} {base size : Nat} (t ty e : TypeId) (i : TypeInfo) (ht : P.underlying t = some (.slice e)) (hi : P.info? e = some i)
    (v : Value) (n : Nat) (xs : List Value) (hown : w.ownsRow base e size v n xs) (c : Nat) : (Builtin.append_ #[t, t] ty #[v, .slice none 0 c]).run P w = .ok v w := by
  rcases hown.2 with ⟨rfl, rfl⟩ | ⟨g, cap, cur, rfl, _, _, hnc, _⟩
  · simp [Builtin.append_, run_underlying ht, sizeOf, typeInfo, hi, Builtin.lenOf, Builtin.firstCells]
  · simp [Builtin.append_, run_underlying ht, sizeOf, typeInfo, hi, Builtin.lenOf, Builtin.firstCells, hnc, storeCells]

theorem ap {P : Program} {τ : Tau} (hτ : TauOk P τ) {T e sz bs : Nat} (hs : look τ.slcs T = some (e, sz, bs)) {z : List Value} (hz : τ.zero e = some z) (hsz : 0 < sz) {w : World} {k : Value → World → Prop} {v : Value} {n m c ty : Nat} {xs : List Value} {a : Option Addr}
    (base : Nat) (hown : w.ownsRow base e sz v n xs) (news : List Value) (hl : news.length = m * sz) (hnews : m = 0 ∨ ∃ b o, a = some ⟨b, o, none⟩ ∧ ∀ j u, news[j]? = some u → Cl w.heap b (o + j) u)
    (h1 : ∀ u ∈ news, u.oneCell' = true) (hbytes : (n + m) * bs ≤ 140737488355328) (h63 : n + m ≤ maxLen) (hbase : base ≤ w.heap.size)
    (hk : ∀ v' w', w'.ownsRow base e sz v' (n + m) (xs ++ news) → Kp v.ownBlock.toList w w' → k v' w') : EvRun P (Builtin.append_ #[T, T] ty #[v, .slice a m c]) w k := by
  obtain ⟨hu, inf, hinf, hsize, hbs⟩ := hτ.slcs T e sz bs hs
  obtain ⟨inf', v0, hinf', hv, hc, hsz'⟩ := zero_ok hτ hz
  have : inf' = inf := by rw [hinf'] at hinf; simpa using hinf
  subst this
  have hzs : v0.cells.size = sz := by rw [hc, ← hsize, hsz']; simp
  have go : ∀ ad, a = some ad → (∀ j u, news[j]? = some u → w.cell? (ad.add j) = some u) → EvRun P (Builtin.append_ #[T, T] ty #[v, .slice a m c]) w k := fun ad ha hn => by
    subst ha
    obtain ⟨v', w', hr, ho, hg, _⟩ := run_append_own (P := P) w base T ty e inf' v0 sz bs hu hinf hv hsize hbs hzs hsz v n xs hown ad m c news hl hn h1 h63 hbytes hbase
    exact run hr (hk v' w' ho (grown_kp hg))
  rcases hnews with rfl | ⟨b, o, rfl, hn⟩
  · have hn0 : news = [] := List.eq_nil_of_length_eq_zero (by simpa using hl)
    subst hn0
    cases a with
    | some ad => exact go ad rfl (by simp)
    | none =>
      refine run (append_none T ty e inf' hu hinf v n xs hown c) (hk v w (by simpa using hown) (Kp.refl _ _))
  · refine go _ rfl fun j u hj => ?_
    rw [show (⟨b, o, none⟩ : Addr).add j = ⟨b, o + j, none⟩ by unfold Addr.add; split <;> simp_all]
    exact (hn j u hj).cell
end Go.Wx
