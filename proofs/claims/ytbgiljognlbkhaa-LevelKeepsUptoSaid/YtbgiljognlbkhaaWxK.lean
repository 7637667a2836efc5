/-
  Wx: rows of flat elements appended; small helps for rows of one's own (the same as in the Code texts).
-/
import Derived.Test.YtbgiljognlbkhaaWxJ
import Derived.Lib.SliceRun
set_option linter.unusedSimpArgs false
set_option linter.unusedVariables false
namespace Go.Wx
/-- readings that look at no other cell -/
def Flat {α : Type} (R : Rd α) : Prop := ∀ (C C' : Mem) (cs : List Value) (x : α), R.den C cs x → R.den C' cs x

theorem flat8 : Flat rU8 := fun _ _ _ _ h => h

theorem flatI : Flat rInt := fun _ _ _ _ h => h

theorem flatB : Flat rBool := fun _ _ _ _ h => h

theorem cells_of {α : Type} {R : Rd α} {C : Mem} {b : Nat} : ∀ (l : List α) (o : Nat), (∀ i x, l[i]? = some x → R.At C b (o + i * R.sz) x) → ∃ css, All2 (R.den C) css l ∧ ∀ i x j u, css[i]? = some x → x[j]? = some u → C b (o + i * R.sz + j) u
  | [], o, h => ⟨[], trivial, fun i x j u hi => by simp at hi⟩
  | y :: r, o, h => by
    obtain ⟨cs, h1, h2⟩ := h 0 y rfl
    obtain ⟨css, h3, h4⟩ := cells_of r (o + R.sz) (fun i x hi => by
      have := h (i + 1) x (by simpa using hi)
      rwa [show o + (i + 1) * R.sz = o + R.sz + i * R.sz by rw [Nat.add_mul]; omega] at this)
    refine ⟨cs :: css, ⟨h1, h3⟩, fun i x j u hi hj => ?_⟩
    match i with
    | 0 =>
      simp at hi
      subst hi
      exact h2 j u hj
    | i + 1 =>
      have := h4 i x j u (by simpa using hi) hj
      rwa [show o + (i + 1) * R.sz + j = o + R.sz + i * R.sz + j by rw [Nat.add_mul]; omega]

theorem Own.apF {α : Type} {R : Rd α} {e lo : Nat} {w : World} {v : Value} {l : List α} {P : Program} {τ : Tau} (hτ : TauOk P τ) {T bs : Nat} (hs : look τ.slcs T = some (e, R.sz, bs)) {z : List Value} (hz : τ.zero e = some z) (hsz : 0 < R.sz) {k : Value → World → Prop} {c ty : Nat} {a : Option Addr}
    (h : Own R e lo w v l) (hf : Flat R) {C : Mem} (hS : Sub C w) (xs : List α) (hx : Sl R C a xs)
    (hbytes : (l.length + xs.length) * bs ≤ 140737488355328) (h63 : l.length + xs.length ≤ maxLen)
    (hk : ∀ v' w', Own R e lo w' v' (l ++ xs) → Kp v.ownBlock.toList w w' → (v'.ownBlock = v.ownBlock ∨ v'.ownBlock = some w.heap.size) → k v' w') : EvRun P (Builtin.append_ #[T, T] ty #[v, .slice a xs.length c]) w k := by
  rcases hx.2 with h0 | ⟨b, o, rfl, h2⟩
  · have : xs = [] := List.length_eq_zero_iff.1 h0
    subst this
    exact h.ap hτ hs hz hsz [] [] rfl trivial (.inl rfl) hbytes h63 hk
  · obtain ⟨css, h3, h4⟩ := cells_of xs o h2
    exact h.ap hτ hs hz hsz xs css rfl (h3.mono fun cs x hx => hf _ _ _ _ hx) (.inr ⟨b, o, rfl, fun i x j u hi hj => hS _ _ _ (h4 i x j u hi hj)⟩) hbytes h63 hk

theorem Own.cap {α : Type} {R : Rd α} {e lo : Nat} {w : World} {v : Value} {l : List α} (h : Own R e lo w v l) : ∃ a cap, v = .slice a l.length cap ∧ l.length ≤ cap := by
  obtain ⟨css, h1, _⟩ := h.row
  rcases h1.2 with ⟨rfl, h0⟩ | ⟨g', cap, cur, rfl, _, _, hn, _⟩
  · exact ⟨none, 0, by rw [h0], by omega⟩
  · exact ⟨_, cap, rfl, hn⟩

theorem Own.kpl {α : Type} {R : Rd α} {e lo : Nat} {w w' : World} {v : Value} {l : List α} {X : List Nat} (h : Own R e lo w v l) (k : Kp X w w') (hx : ∀ x ∈ X, x < lo) : Own R e lo w' v l := by
  have hb := h.block
  obtain ⟨⟨css, h1, h2⟩, h3⟩ := h
  refine ⟨⟨css, own_kp h1 k fun g hg hgx => ?_, h2.mono fun cs x hx' => R.mono (fun b o u hu => ⟨hu.1, hu.2.1, hu.2.2.kp k fun hb => ?_⟩) hx'⟩, Nat.le_trans h3 k.size⟩
  · have := hx g hgx; have := (hb g hg).1; omega
  · have := hx b hb; have := hu.1; omega

theorem Sub.lt {C : Mem} {w : World} (h : Sub C w) : ∀ b o v, C b o v → b < w.heap.size := fun b o v hc => (h b o v hc).lt

theorem resN {P : Program} {τ : Tau} (hτ : TauOk P τ) {T : Nat} {fs : List (Nat × Nat × Bool)} {z : List Nat} (hr : look τ.tab T = some (fs, z)) {b : Nat} {w : World} {K : Value → Prop} (cs : List Value) (hl : cs.length = z.length) (hc : ∀ j v, cs[j]? = some v → Cl w.heap b j v) (hk : K (.agg cs.toArray)) :
    EvRun P (loadVar T ⟨b, 0, none⟩) w fun v w' => w' = w ∧ K v := by
  obtain ⟨gs, hu, hfs, hinf, i, hi, hsz, hz⟩ := hτ.tab T fs z hr
  have := run_loadCells_list (P := P) (w := w) ⟨b, 0, none⟩ cs (fun j v hj => by rw [add_off, Nat.zero_add]; exact (hc j v hj).cell)
  rw [hl] at this
  refine run (v := .agg cs.toArray) (w' := w) ?_ ⟨rfl, hk⟩
  simp [loadVar, isAgg, run_underlying hu, sizeOf, typeInfo, hi, hsz, this]

theorem new_dn {w4 w5 w7 : World} {lo : Nat} {v : Value} {α : Type} {R : Rd α} {e : Nat} {l : List α} (hO : Own R e lo w4 v l) (k : Kp [] w5 w7) : ∀ b o u, New w4.heap.size w5 b o u → Dn lo v w7 b o u := fun b o u hu =>
  ⟨Nat.le_trans hO.low hu.1, fun e => by have := (hO.block b e.symm).2; have := hu.1; omega, hu.2.kp k (by simp)⟩

theorem Kp.ownX {α : Type} {R : Rd α} {e : Nat} {w0 w w' : World} {v : Value} {l : List α} {X : List Nat} (k0 : Kp X w0 w) (k : Kp v.ownBlock.toList w w') (h : Own R e w0.heap.size w v l) : Kp X w0 w' :=
  k0.trans k fun x hx hl => by
    have hx : v.ownBlock = some x := by simpa using hx
    have := (h.block x hx).1
    omega
theorem eqNil {P : Program} {τ : Tau} (hτ : TauOk P τ) {T e sz bs : Nat} (hs : look τ.slcs T = some (e, sz, bs)) {x y : Operand} {a : Option Addr} {n c : Nat} {w : World} {k : Value → World → Prop} (h : k (.bool a.isNone) w) :
    EvRun P (do eqGuard .eql T x y (.slice a n c) (.slice none 0 0); binOp .eql T (.slice a n c) (.slice none 0 0)) w k := by
  obtain ⟨hu, _⟩ := hτ.slcs T e sz bs hs
  refine run (v := .bool a.isNone) ?_ h
  rw [eqGuard_at_slice]
  simp only [Sem.run_bind, Sem.run_pure, Result.andThen_ok]
  exact Lib.run_eql_slice_nil w T e a n c 0 0 hu

theorem flat_set {α : Type} {k : Nat} : ∀ (css : List (List α)), (∀ cs ∈ css, cs.length = k) → ∀ (i j : Nat) (cs : List α) (u : α), css[i]? = some cs → j < k → (css.set i (cs.set j u)).flatten = css.flatten.set (i * k + j) u
  | [], _, i, j, cs, u, h1, _ => by simp at h1
  | c :: r, h, 0, j, cs, u, h1, h2 => by
    simp at h1
    subst h1
    have hc := h c (by simp)
    rw [List.set_cons_zero, List.flatten_cons, List.flatten_cons, Nat.zero_mul, Nat.zero_add, List.set_append_left _ _ (by omega)]
  | c :: r, h, i + 1, j, cs, u, h1, h2 => by
    have hc := h c (by simp)
    have := flat_set r (fun c hc => h c (by simp [hc])) i j cs u (by simpa using h1) h2
    rw [List.set_cons_succ, List.flatten_cons, List.flatten_cons, this, List.set_append_right _ _ (by rw [hc, Nat.add_mul]; omega)]
    rw [show (i + 1) * k + j - c.length = i * k + j by rw [hc, Nat.add_mul]; omega]

theorem All2.set {α β : Type} {p : β → α → Prop} {b : β} {a : α} (h0 : p b a) : ∀ {l : List β} {m : List α} {i : Nat}, All2 p l m → All2 p (l.set i b) (m.set i a)
  | [], [], _, _ => trivial
  | _ :: _, _ :: _, 0, h => ⟨h0, h.2⟩
  | _ :: _, _ :: _, i + 1, h => ⟨h.1, All2.set h0 h.2⟩
  | [], _ :: _, _, h => h.elim
  | _ :: _, [], _, h => h.elim

/-- a cell of an element of a row of one's own -/
theorem Own.st {α : Type} {R : Rd α} {e lo : Nat} {w : World} {v : Value} {l : List α} (h : Own R e lo w v l) {i j : Nat} {x y : α} (hi : l[i]? = some x) (hj : j < R.sz) {u : Value} (hu : u.oneCell' = true)
    (hy : ∀ cs, R.den (Dn lo v w) cs x → R.den (Dn lo v w) (cs.set j u) y) :
    ∃ g cap, v = .slice (some ⟨g, 0, none⟩) l.length cap ∧ lo ≤ g ∧
      ∀ {K : World → Prop}, (∀ w', Own R e lo w' v (l.set i y) → w'.heap.size = w.heap.size → Kp [g] w w' → K w') → EvSt w ⟨g, 0 + i * R.sz + j, none⟩ u K := by
  obtain ⟨⟨css, h1, h2⟩, h3⟩ := h
  have hil := get_lt hi
  have hlen := h2.length
  have hk : ∀ cs ∈ css, cs.length = R.sz := by
    intro cs hcs
    obtain ⟨i, hi⟩ := List.getElem?_of_mem hcs
    have hil := (List.getElem?_eq_some_iff.1 hi).1
    obtain ⟨cs', h4, h5⟩ := h2.get (i := i) (a := l[i]'(by omega)) (by simp)
    rw [hi] at h4
    obtain rfl := Option.some.inj h4
    exact R.len h5
  rcases h1 with ⟨hl1, ⟨rfl, h0⟩ | ⟨g, cap, cur, rfl, hb, hg, hn, hm, hc, ht⟩⟩
  · omega
  refine ⟨g, cap, rfl, hb, fun {K} hK => ?_⟩
  obtain ⟨cs, hcs, hden⟩ := h2.get hi
  have hB : Bk w.heap g cur.toList e := by unfold Bk; simpa using hg
  have hlt : i * R.sz + j < l.length * R.sz := by
    have : (i + 1) * R.sz ≤ l.length * R.sz := Nat.mul_le_mul_right _ (by omega)
    rw [Nat.add_mul] at this
    omega
  have hle : l.length * R.sz ≤ cap * R.sz := Nat.mul_le_mul_right _ hn
  rw [Nat.zero_add]
  refine Go.Wx.st hB (by simp; omega) hu fun w' hB' hs hkp => hK w' ?_ hs hkp
  refine ⟨⟨css.set i (cs.set j u), ⟨?_, .inr ⟨g, cap, (cur.toList.set (i * R.sz + j) u).toArray, by simp, hb, ?_, by simpa using hn, hm, by simp [hc], ?_⟩⟩, ?_⟩, by omega⟩
  · rw [flat_set css hk i j cs u hcs hj]
    simpa using hl1
  · simpa [Bk] using hB'
  · rw [flat_set css hk i j cs u hcs hj]
    simp only [List.length_set]
    rw [List.take_set, ht]
  · have step : ∀ b o u, Dn lo (.slice (some ⟨g, 0, none⟩) l.length cap) w b o u → Dn lo (.slice (some ⟨g, 0, none⟩) l.length cap) w' b o u := fun b o u hu => ⟨hu.1, hu.2.1, hu.2.2.kp hkp (by
      have h := hu.2.1
      simp [Value.ownBlock] at h
      simpa using h)⟩
    exact All2.set (R.mono step (hy cs hden)) (h2.mono fun cs x hx => R.mono step hx)
end Go.Wx
