/-
  Wx: the rules by which the events of the evaluator are taken; worlds that keep what was there.
-/
import Derived.Test.YtbgiljognlbkhaaWx
import Derived.RowKit
import Derived.Below
namespace Go.Wx

/-! ### Branches and numbers -/
theorem br {c : Bool} {A B : Prop} (h1 : c = true → A) (h2 : c = false → B) : Br c A B := by
  cases c
  · exact h2 rfl
  · exact h1 rfl
theorem br_dec {p : Prop} [Decidable p] {A B : Prop} (h1 : p → A) (h2 : ¬ p → B) : Br (decide p) A B :=
  br (fun h => h1 (of_decide_eq_true h)) (fun h => h2 (of_decide_eq_false h))
theorem br_ndec {p : Prop} [Decidable p] {A B : Prop} (h1 : p → B) (h2 : ¬ p → A) : Br (!decide p) A B :=
  br (fun h => h2 (by simpa using h)) (fun h => h1 (by simpa using h))
theorem br_yes {p : Prop} [Decidable p] {A B : Prop} (h : p) (hA : A) : Br (decide p) A B := br_dec (fun _ => hA) (fun hn => absurd h hn)
theorem br_no {p : Prop} [Decidable p] {A B : Prop} (h : ¬ p) (hB : B) : Br (decide p) A B := br_dec (fun hn => absurd hn h) (fun _ => hB)
theorem br_t {c : Bool} {A B : Prop} (h : c = true) (hA : A) : Br c A B := by subst h; exact hA
theorem br_f {c : Bool} {A B : Prop} (h : c = false) (hB : B) : Br c A B := by subst h; exact hB

theorem int64 {r : Int} {k : Value → Prop} (h1 : -9223372036854775808 ≤ r) (h2 : r ≤ 9223372036854775807) (hk : k (.int .i64 r)) : EvInt .i64 r k := by
  unfold EvInt
  exact ⟨_, rfl, by rw [IntWalk.i64_in r (by omega)]; exact hk⟩
theorem intw {j : IntKind} {r : Int} {k : Value → Prop} (hk : k (.int j (j.wrap r))) : EvInt j r k := by
  unfold EvInt
  exact ⟨_, rfl, hk⟩

/-- a wrapped number, by a name -/
theorem intv {j : IntKind} {r : Int} {k : Value → Prop} (x : Int) (h : j.wrap r = x) (hk : k (.int j x)) : EvInt j r k := by
  subst h
  exact intw hk

/-! ### Memory: events -/
theorem run {P : Program} {m : Sem Value} {w w' : World} {v : Value} {k : Value → World → Prop} (h : m.run P w = .ok v w') (hk : k v w') : EvRun P m w k := by
  unfold EvRun; exact ⟨v, w', h, hk⟩
theorem runU {P : Program} {m : Sem Unit} {w w' : World} {k : World → Prop} (h : m.run P w = .ok () w') (hk : k w') : EvRunU P m w k := by
  unfold EvRunU; exact ⟨w', h, hk⟩
theorem ld {w : World} {a : Addr} {v : Value} {k : Value → Prop} (h : w.cell? a = some v) (hk : k v) : EvLd w a k := by
  unfold EvLd; exact ⟨v, h, hk⟩
theorem add_off (b o n : Nat) : (⟨b, o, none⟩ : Addr).add n = ⟨b, o + n, none⟩ := by
  unfold Addr.add
  split
  · rename_i h; subst h; rfl
  · rfl
theorem ix {b o len sz : Nat} {i : Int} {k : Addr → Prop} (j : Nat) (hi : i = j) (h1 : j < len) (hk : k ⟨b, o + j * sz, none⟩) : EvIx (some ⟨b, o, none⟩) len sz i k := by
  unfold EvIx
  refine ⟨_, rfl, by omega, by omega, ?_⟩
  rw [add_off, hi, Int.toNat_natCast]
  exact hk

theorem ev_call {P : Program} {f : FuncId} {args : Array Value} {w : World} {k : Value → World → Prop} {kp : List PanicEntry → World → Prop} {R : Ending → World → Prop}
    (h : CallOk P f ∧ Calls P f args w R) (hk : ∀ e w', R e w' → callPost k kp e w') : EvCall P f args w k kp := by
  unfold EvCall
  exact ⟨h.1, h.2.mono hk⟩

/-! ### Worlds -/
/-- What was there stays, but for the blocks of X. -/
structure Kp (X : List Nat) (w w' : World) : Prop where
  os : w'.os = w.os
  tape : w'.tape = w.tape
  output : w'.output = w.output
  size : w.heap.size ≤ w'.heap.size
  block : ∀ b, b < w.heap.size → b ∉ X → w'.heap[b]? = w.heap[b]?

theorem Kp.refl (X : List Nat) (w : World) : Kp X w w := ⟨rfl, rfl, rfl, Nat.le_refl _, fun _ _ _ => rfl⟩
theorem Kp.trans {X Y : List Nat} {a b c : World} (h : Kp X a b) (k : Kp Y b c) (hs : ∀ x, x ∈ Y → x < a.heap.size → x ∈ X) : Kp X a c :=
  ⟨k.os.trans h.os, k.tape.trans h.tape, k.output.trans h.output, Nat.le_trans h.size k.size, fun i hi hx =>
    (k.block i (Nat.lt_of_lt_of_le hi h.size) fun hy => hx (hs i hy hi)).trans (h.block i hi hx)⟩
theorem Kp.tr {X : List Nat} {a b c : World} (h : Kp X a b) (k : Kp [] b c) : Kp X a c := h.trans k (fun _ h => by cases h)
theorem Kp.weak {X Y : List Nat} {a b : World} (h : Kp X a b) (hs : ∀ x, x ∈ X → x < a.heap.size → x ∈ Y) : Kp Y a b :=
  ⟨h.os, h.tape, h.output, h.size, fun i hi hx => h.block i hi fun hy => hx (hs i hy hi)⟩

theorem Kp.alloc (w : World) (o : Obj) : Kp [] w (w.alloc o) :=
  ⟨rfl, rfl, rfl, by simp, fun i hi _ => RowKit.Below.heap_alloc _ _ _ hi⟩
theorem Kp.set (w : World) (a : Addr) (v : Value) : Kp [a.block] w (w.setCell a v) :=
  ⟨rfl, rfl, rfl, by simp [World.setCell], fun i _ hx => RowKit.Below.heap_setCell _ _ _ _ (by simpa using hx)⟩
theorem Kp.below {w w' : World} (h : Kp [] w w') : RowKit.Below w.heap.size w w' := ⟨h.os, h.tape, h.output, h.size, fun i hi => h.block i hi (by simp)⟩

theorem Kp.dr {X : List Nat} {w w' : World} (h : Kp X w w') (m : Nat) : Kp X w { w' with drawn := m } := ⟨h.os, h.tape, h.output, h.size, h.block⟩
theorem Kp.rd {X : List Nat} {w w' : World} {m : Nat} (h : Kp X { w with drawn := m } w') : Kp X w w' := ⟨h.os, h.tape, h.output, h.size, h.block⟩
theorem Kp.newSt {w1 w2 w3 : World} {b : Nat} (k2 : Kp [] w1 w2) (hb : b = w1.heap.size) (k3 : Kp [b] w2 w3) : Kp [] w1 w3 :=
  k2.trans k3 fun x hx hl => by
    have : x = b := by simpa using hx
    omega

/-- the cell at (b, o) holds v -/
def Cl (h : Array Obj) (b o : Nat) (v : Value) : Prop := ∃ c T fz, h[b]? = some (.cells c T fz) ∧ c[o]? = some v
theorem Cl.cell {w : World} {b o : Nat} {v : Value} (h : Cl w.heap b o v) : w.cell? ⟨b, o, none⟩ = some v := by
  obtain ⟨c, T, fz, h1, h2⟩ := h
  simp [World.cell?, h1, h2]
theorem Cl.of {w : World} {b o : Nat} {v : Value} (h : w.cell? ⟨b, o, none⟩ = some v) : Cl w.heap b o v := by
  unfold World.cell? at h
  split at h
  · rename_i c T fz hb; exact ⟨c, T, fz, hb, by simpa using h⟩
  · cases h
theorem Cl.lt {h : Array Obj} {b o : Nat} {v : Value} (hc : Cl h b o v) : b < h.size := by
  obtain ⟨c, T, fz, h1, _⟩ := hc
  rcases Nat.lt_or_ge b h.size with h' | h'
  · exact h'
  · simp [Array.getElem?_eq_none h'] at h1
theorem Cl.kp {X : List Nat} {w w' : World} {b o : Nat} {v : Value} (hc : Cl w.heap b o v) (h : Kp X w w') (hx : b ∉ X) : Cl w'.heap b o v := by
  have hl := hc.lt
  obtain ⟨c, T, fz, h1, h2⟩ := hc
  exact ⟨c, T, fz, by rw [h.block b hl hx]; exact h1, h2⟩

/-- block b is a row of cells, none of them frozen -/
def Bk (h : Array Obj) (b : Nat) (cs : List Value) (T : TypeId) : Prop := h[b]? = some (.cells cs.toArray T (0, 0))
theorem Bk.cl {h : Array Obj} {b : Nat} {cs : List Value} {T : TypeId} (hb : Bk h b cs T) {o : Nat} {v : Value} (hv : cs[o]? = some v) : Cl h b o v :=
  ⟨_, _, _, hb, by simpa using hv⟩
theorem Bk.lt {h : Array Obj} {b : Nat} {cs : List Value} {T : TypeId} (hb : Bk h b cs T) : b < h.size := by
  rcases Nat.lt_or_ge b h.size with h' | h'
  · exact h'
  · unfold Bk at hb; simp [Array.getElem?_eq_none h'] at hb
theorem Bk.kp {X : List Nat} {w w' : World} {b : Nat} {cs : List Value} {T : TypeId} (hb : Bk w.heap b cs T) (h : Kp X w w') (hx : b ∉ X) : Bk w'.heap b cs T := by
  have hl := hb.lt
  unfold Bk
  rw [h.block b hl hx]; exact hb

/-- the code behind stays out of sight: the kernel then has little to compare -/
theorem seq_cut {P : Program} {τ : Tau} {n : Nat} {a b : Code} {s : St} {w : World} {K : Exit → St → World → Prop} (h : ∀ c, c = b → wpx P τ n (.seq a c) s w K) : wpx P τ n (.seq a b) s w K := h b rfl

/-- a composite slice's cells, written out -/
theorem fill {o : Option (List Value)} {k : List Value → Prop} (cs : List Value) (h : o = some cs) (hk : k cs) : EvFill o k := by
  unfold EvFill
  exact ⟨cs, h, hk⟩

theorem new {w : World} {T : TypeId} {cs : List Value} {k : Nat → World → Prop} (hk : ∀ (b : Nat) (w' : World), b = w.heap.size → Bk w'.heap b cs T → w'.heap.size = b + 1 → Kp [] w w' → k b w') : EvNew w T cs k := by
  unfold EvNew
  refine ⟨_, _, ⟨rfl, rfl⟩, hk _ _ rfl ?_ (by simp) (Kp.alloc _ _)⟩
  show (w.heap.push _)[_]? = _
  simp

theorem st {w : World} {b o : Nat} {v : Value} {k : World → Prop} {cs : List Value} {T : TypeId} (hb : Bk w.heap b cs T) (ho : o < cs.length) (hv : v.oneCell' = true)
    (hk : ∀ w', Bk w'.heap b (cs.set o v) T → w'.heap.size = w.heap.size → Kp [b] w w' → k w') : EvSt w ⟨b, o, none⟩ v k := by
  unfold EvSt
  have hb' : w.heap[b]? = some (.cells cs.toArray T (0, 0)) := hb
  have hl := hb.lt
  refine ⟨⟨cs[o], (hb.cl (by simp [ho])).cell⟩, ?_, hv, ?_⟩
  · simp [World.frozen?, hb']
  · refine hk _ ?_ (by simp [World.setCell]) (Kp.set w ⟨b, o, none⟩ v)
    unfold Bk
    simp only [World.setCell, Array.getElem?_modify, if_true, hb']
    simp

theorem ldN {w : World} {b o n : Nat} {k : Value → Prop} (cs : List Value) (hn : cs.length = n) (h : ∀ j v, cs[j]? = some v → Cl w.heap b (o + j) v) (hk : k (.agg cs.toArray)) : EvLdN w ⟨b, o, none⟩ n k := by
  unfold EvLdN
  refine ⟨cs, hn, fun j v hv => ?_, hk⟩
  have := (h j v hv).cell
  unfold Addr.add
  split
  · rename_i h0; subst h0; simpa using this
  · exact this

/-- a struct laid into a block that was just made -/
theorem stN {P : Program} {w : World} {b : Nat} {vs : List Value} {k : World → Prop} {cs : List Value} {T : TypeId} (hb : Bk w.heap b cs T) (hl : vs.length = cs.length) (hv : ∀ v ∈ vs, v.oneCell' = true)
    (hk : ∀ w', Bk w'.heap b vs T → w'.heap.size = w.heap.size → Kp [b] w w' → k w') : EvRunU P (storeCells ⟨b, 0, none⟩ vs) w k := by
  have key : ∀ (r : List Value) (i : Nat) (w0 : World) (pre : List Value), (∀ v ∈ r, v.oneCell' = true) → pre.length = i → (∃ rest, Bk w0.heap b (pre ++ rest) T ∧ rest.length = r.length) → w0.heap.size = w.heap.size → Kp [b] w w0 →
      ∃ w', (storeCells ⟨b, 0, none⟩ r i).run P w0 = .ok () w' ∧ Bk w'.heap b (pre ++ r) T ∧ w'.heap.size = w.heap.size ∧ Kp [b] w w' := by
    intro r
    induction r with
    | nil =>
      intro i w0 pre _ _ ⟨rest, hbk, hlen⟩ hsz hkp
      have : rest = [] := List.length_eq_zero_iff.1 hlen
      subst this
      exact ⟨w0, by simp [storeCells], hbk, hsz, hkp⟩
    | cons v r ih =>
      intro i w0 pre hv1 hpl ⟨rest, hbk, hlen⟩ hsz hkp
      match rest, hlen with
      | u :: rest, hlen =>
      have hcell : w0.cell? ⟨b, i, none⟩ = some u := (hbk.cl (by rw [← hpl]; simp)).cell
      have hb' : w0.heap[b]? = some (.cells (pre ++ u :: rest).toArray T (0, 0)) := hbk
      have hst := run_store P w0 ⟨b, i, none⟩ v .plain (hv1 v (by simp))
      have hfz : w0.frozen? ⟨b, i, none⟩ = false := by simp [World.frozen?, hb']
      simp only [hcell, hfz, Bool.false_eq_true, if_false] at hst
      have hadd : (⟨b, 0, none⟩ : Addr).add i = ⟨b, i, none⟩ := by
        unfold Addr.add; split
        · rename_i h0; subst h0; rfl
        · simp
      have hbk' : Bk (w0.setCell ⟨b, i, none⟩ v).heap b ((pre ++ [v]) ++ rest) T := by
        unfold Bk
        simp only [World.setCell, Array.getElem?_modify, if_true, hb']
        subst hpl
        simp
      obtain ⟨w', h1, h2, h3, h4⟩ := ih (i + 1) (w0.setCell ⟨b, i, none⟩ v) (pre ++ [v]) (fun x hx => hv1 x (by simp [hx])) (by simp [hpl]) ⟨rest, hbk', by simpa using hlen⟩ (by simp [World.setCell, hsz])
        (hkp.trans (Kp.set w0 ⟨b, i, none⟩ v) (fun x hx _ => hx))
      refine ⟨w', ?_, by simpa using h2, h3, h4⟩
      simp only [storeCells, Sem.run_bind, hadd, hst, Result.andThen_ok]
      exact h1
  obtain ⟨w', h1, h2, h3, h4⟩ := key vs 0 w [] hv rfl ⟨cs, by simpa using hb, hl.symm⟩ rfl (Kp.refl _ _)
  exact runU h1 (hk w' (by simpa using h2) h3 h4)

/-! ### Loops -/
theorem wp_loop_ghost {P : Program} {c : Code} {Q : Exit → Act → World → Prop} {a : Act} {w : World} {σ : Type} (I : σ → Act → World → Prop) (μ : σ → Nat) (x0 : σ) (h0 : I x0 a w)
    (round : ∀ x a w, I x a w → c.wp P (Exit.then (fun a' w' => ∃ y, I y a' w' ∧ μ y < μ x) Q) a w) : (Code.loop c).wp P Q a w := by
  intro b k cs
  have key : ∀ n x a w, μ x = n → I x a w →
      ∃ e a' w', Q e a' w' ∧ Arrives P (lone (b.at a (.code c :: .inLoop c :: k)) cs w) b k cs e a' w' := by
    intro n
    induction n using Nat.strongRecOn with
    | _ n ih =>
      intro x a w hn hI
      obtain ⟨e, a₁, w₁, hq, harr⟩ := round x a w hI b (.inLoop c :: k) cs
      cases e with
      | normal =>
        obtain ⟨y, hI₁, hlt⟩ := hq
        obtain ⟨e₂, a₂, w₂, hq₂, harr₂⟩ := ih (μ y) (hn ▸ hlt) y a₁ w₁ rfl hI₁
        exact ⟨e₂, a₂, w₂, hq₂, .of_steps (Steps.trans harr (.one step_inLoop)) harr₂⟩
      | exit id => exact ⟨_, a₁, w₁, hq, .pass (x := .inLoop c) rfl (fun _ _ => .inl (by simp)) harr⟩
      | goto l => exact ⟨_, a₁, w₁, hq, .pass (x := .inLoop c) rfl (fun _ _ => .inl (by simp)) harr⟩
      | ret => exact ⟨_, a₁, w₁, hq, .pass (x := .inLoop c) rfl (fun _ _ => .inl (by simp)) harr⟩
      | panic ch => exact ⟨_, a₁, w₁, hq, .pass (x := .inLoop c) rfl (fun _ _ => .inl (by simp)) harr⟩
      | outgrown => exact ⟨_, a₁, w₁, hq, .pass (x := .inLoop c) rfl (fun _ _ => .inl (by simp)) harr⟩
  obtain ⟨e, a', w', hq, harr⟩ := key _ x0 a w rfl h0
  exact ⟨e, a', w', hq, .of_steps (.one step_loop) harr⟩

/-- the slots of a list are known -/
def Has (s : St) : List (Nat × Value) → Prop
  | [] => True
  | p :: r => get s.e p.1 = some p.2 ∧ Has s r

theorem Has.get {s : St} : ∀ {l : List (Nat × Value)}, Has s l → ∀ t v, get l t = some v → get s.e t = some v
  | [], _, t, v, hv => by simp [Wx.get] at hv
  | (k, u) :: r, h, t, v, hv => by
    simp only [Wx.get] at hv
    cases hb : Nat.beq k t with
    | true =>
      rw [hb] at hv
      have e := Nat.eq_of_beq_eq_true hb
      subst e
      have : u = v := by simpa using hv
      subst this
      exact h.1
    | false => rw [hb] at hv; exact Has.get h.2 t v hv

/-- A loop: 'σ' what changes from round to round; 'I' the slots at a round's head; 'R' what holds there. -/
theorem loop {P : Program} {τ : Tau} {n : Nat} {c : Code} {s : St} {w : World} {K : Exit → St → World → Prop} (hτ : TauOk P τ) {σ : Type} (I : σ → List (Nat × Value)) (R : σ → World → Prop) (μ : σ → Nat) (x0 : σ)
    (h0 : Has s (I x0)) (hR : R x0 w)
    (round : ∀ x w, R x w → wpx P τ n c ⟨I x, s.d⟩ w (thenK (fun s' w' => ∃ y, μ y < μ x ∧ s'.d = s.d ∧ Has s' (I y) ∧ R y w') K)) : EvCode P n (.loop c) s w K := by
  unfold EvCode
  intro a hF
  have hex : ∀ a' s', Fr n a' s' → s'.d = s.d → ∀ y, Has s' (I y) → Fr n a' ⟨I y, s.d⟩ := fun a' s' hF' hd y hy =>
    ⟨hF'.size, by rw [hF'.defers, hd], fun t v hv => hF'.has t v (hy.get t v hv)⟩
  refine wp_loop_ghost (fun y a w => Fr n a ⟨I y, s.d⟩ ∧ R y w) μ x0 ⟨hex a s hF rfl x0 h0, hR⟩ ?_
  intro y a w ⟨hFy, hRy⟩
  refine Go.wp_mono (wpx_sound hτ c _ w _ (round y w hRy) a hFy) fun e a' w' hl => ?_
  obtain ⟨s', hF', hs⟩ := hl
  cases e with
  | normal =>
    obtain ⟨z, hlt, hd, hz, hRz⟩ := hs
    exact ⟨z, ⟨hex a' s' hF' hd z hz, hRz⟩, hlt⟩
  | exit id => exact ⟨s', hF', hs⟩
  | goto l => exact ⟨s', hF', hs⟩
  | ret => exact ⟨s', hF', hs⟩
  | panic ch => exact ⟨s', hF', hs⟩
  | outgrown => exact ⟨s', hF', hs⟩

end Go.Wx
