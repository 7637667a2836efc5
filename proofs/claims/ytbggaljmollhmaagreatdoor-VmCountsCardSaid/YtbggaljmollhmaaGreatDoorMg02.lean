/-
  Own texts put together: WxR, WxQ, WxS, WxT, WxD.
-/
import Derived.Test.YtbggaljmollhmaaGreatDoorMg01
import Derived.RowKit
import Derived.Below
import Derived.Deep.Quiet
import Derived.StillTail
import Derived.OrdersHeld
/-
  Wx: the rules by which the events of the evaluator are taken; worlds that keep what was there.
-/
namespace Go.Wx

/-! ### Branches and numbers -/
theorem br {c : Bool} {A B : Prop} (h1 : c = true → A) (h2 : c = false → B) : Br c A B := by
  cases c
  · exact h2 rfl
  · exact h1 rfl
theorem br_dec {p : Prop} [Decidable p] {A B : Prop} (h1 : p → A) (h2 : ¬ p → B) : Br (decide p) A B :=
  br (fun h => h1 (of_decide_eq_true h)) (fun h => h2 (of_decide_eq_false h))
theorem br_ndec {p : Prop} [Decidable p] {A B : Prop} (h1 : p → B) (h2 : ¬ p → A) : Br (!decide p) A B :=
  br (fun h => h2 (by simpa using h)) (fun h => h1 (by simpa using h))
theorem br_yes {p : Prop} [Decidable p] {A B : Prop} (h : p) (hA : A) : Br (decide p) A B := br_dec (fun _ => hA) (fun hn => absurd h hn)
theorem br_no {p : Prop} [Decidable p] {A B : Prop} (h : ¬ p) (hB : B) : Br (decide p) A B := br_dec (fun hn => absurd hn h) (fun _ => hB)
theorem br_t {c : Bool} {A B : Prop} (h : c = true) (hA : A) : Br c A B := by subst h; exact hA
theorem br_f {c : Bool} {A B : Prop} (h : c = false) (hB : B) : Br c A B := by subst h; exact hB

theorem int64 {r : Int} {k : Value → Prop} (h1 : -9223372036854775808 ≤ r) (h2 : r ≤ 9223372036854775807) (hk : k (.int .i64 r)) : EvInt .i64 r k := by
  unfold EvInt
  exact ⟨_, rfl, by rw [IntWalk.i64_in r (by omega)]; exact hk⟩
theorem intw {j : IntKind} {r : Int} {k : Value → Prop} (hk : k (.int j (j.wrap r))) : EvInt j r k := by
  unfold EvInt
  exact ⟨_, rfl, hk⟩

/-- a wrapped number, by a name -/
theorem intv {j : IntKind} {r : Int} {k : Value → Prop} (x : Int) (h : j.wrap r = x) (hk : k (.int j x)) : EvInt j r k := by
  subst h
  exact intw hk

/-! ### Memory: events -/
theorem run {P : Program} {m : Sem Value} {w w' : World} {v : Value} {k : Value → World → Prop} (h : m.run P w = .ok v w') (hk : k v w') : EvRun P m w k := by
  unfold EvRun; exact ⟨v, w', h, hk⟩
theorem runU {P : Program} {m : Sem Unit} {w w' : World} {k : World → Prop} (h : m.run P w = .ok () w') (hk : k w') : EvRunU P m w k := by
  unfold EvRunU; exact ⟨w', h, hk⟩
theorem ld {w : World} {a : Addr} {v : Value} {k : Value → Prop} (h : w.cell? a = some v) (hk : k v) : EvLd w a k := by
  unfold EvLd; exact ⟨v, h, hk⟩
theorem add_off (b o n : Nat) : (⟨b, o, none⟩ : Addr).add n = ⟨b, o + n, none⟩ := by
  unfold Addr.add
  split
  · rename_i h; subst h; rfl
  · rfl
theorem ix {b o len sz : Nat} {i : Int} {k : Addr → Prop} (j : Nat) (hi : i = j) (h1 : j < len) (hk : k ⟨b, o + j * sz, none⟩) : EvIx (some ⟨b, o, none⟩) len sz i k := by
  unfold EvIx
  refine ⟨_, rfl, by omega, by omega, ?_⟩
  rw [add_off, hi, Int.toNat_natCast]
  exact hk

theorem ev_call {P : Program} {f : FuncId} {args : Array Value} {w : World} {k : Value → World → Prop} {kp : List PanicEntry → World → Prop} {R : Ending → World → Prop}
    (h : CallOk P f ∧ Calls P f args w R) (hk : ∀ e w', R e w' → callPost k kp e w') : EvCall P f args w k kp := by
  unfold EvCall
  exact ⟨h.1, h.2.mono hk⟩

/-! ### Worlds -/
/-- What was there stays, but for the blocks of X. -/
structure Kp (X : List Nat) (w w' : World) : Prop where
  os : w'.os = w.os
  tape : w'.tape = w.tape
  output : w'.output = w.output
  size : w.heap.size ≤ w'.heap.size
  block : ∀ b, b < w.heap.size → b ∉ X → w'.heap[b]? = w.heap[b]?

theorem Kp.refl (X : List Nat) (w : World) : Kp X w w := ⟨rfl, rfl, rfl, Nat.le_refl _, fun _ _ _ => rfl⟩
theorem Kp.trans {X Y : List Nat} {a b c : World} (h : Kp X a b) (k : Kp Y b c) (hs : ∀ x, x ∈ Y → x < a.heap.size → x ∈ X) : Kp X a c :=
  ⟨k.os.trans h.os, k.tape.trans h.tape, k.output.trans h.output, Nat.le_trans h.size k.size, fun i hi hx =>
    (k.block i (Nat.lt_of_lt_of_le hi h.size) fun hy => hx (hs i hy hi)).trans (h.block i hi hx)⟩
theorem Kp.tr {X : List Nat} {a b c : World} (h : Kp X a b) (k : Kp [] b c) : Kp X a c := h.trans k (fun _ h => by cases h)
theorem Kp.weak {X Y : List Nat} {a b : World} (h : Kp X a b) (hs : ∀ x, x ∈ X → x < a.heap.size → x ∈ Y) : Kp Y a b :=
  ⟨h.os, h.tape, h.output, h.size, fun i hi hx => h.block i hi fun hy => hx (hs i hy hi)⟩

theorem Kp.alloc (w : World) (o : Obj) : Kp [] w (w.alloc o) :=
  ⟨rfl, rfl, rfl, by simp, fun i hi _ => RowKit.Below.heap_alloc _ _ _ hi⟩
theorem Kp.set (w : World) (a : Addr) (v : Value) : Kp [a.block] w (w.setCell a v) :=
  ⟨rfl, rfl, rfl, by simp [World.setCell], fun i _ hx => RowKit.Below.heap_setCell _ _ _ _ (by simpa using hx)⟩
theorem Kp.below {w w' : World} (h : Kp [] w w') : RowKit.Below w.heap.size w w' := ⟨h.os, h.tape, h.output, h.size, fun i hi => h.block i hi (by simp)⟩

theorem Kp.dr {X : List Nat} {w w' : World} (h : Kp X w w') (m : Nat) : Kp X w { w' with drawn := m } := ⟨h.os, h.tape, h.output, h.size, h.block⟩
theorem Kp.rd {X : List Nat} {w w' : World} {m : Nat} (h : Kp X { w with drawn := m } w') : Kp X w w' := ⟨h.os, h.tape, h.output, h.size, h.block⟩
theorem Kp.newSt {w1 w2 w3 : World} {b : Nat} (k2 : Kp [] w1 w2) (hb : b = w1.heap.size) (k3 : Kp [b] w2 w3) : Kp [] w1 w3 :=
  k2.trans k3 fun x hx hl => by
    have : x = b := by simpa using hx
    omega

/-- the cell at (b, o) holds v -/
def Cl (h : Array Obj) (b o : Nat) (v : Value) : Prop := ∃ c T fz, h[b]? = some (.cells c T fz) ∧ c[o]? = some v
theorem Cl.cell {w : World} {b o : Nat} {v : Value} (h : Cl w.heap b o v) : w.cell? ⟨b, o, none⟩ = some v := by
  obtain ⟨c, T, fz, h1, h2⟩ := h
  simp [World.cell?, h1, h2]
theorem Cl.of {w : World} {b o : Nat} {v : Value} (h : w.cell? ⟨b, o, none⟩ = some v) : Cl w.heap b o v := by
  unfold World.cell? at h
  split at h
  · rename_i c T fz hb; exact ⟨c, T, fz, hb, by simpa using h⟩
  · cases h
theorem Cl.lt {h : Array Obj} {b o : Nat} {v : Value} (hc : Cl h b o v) : b < h.size := by
  obtain ⟨c, T, fz, h1, _⟩ := hc
  rcases Nat.lt_or_ge b h.size with h' | h'
  · exact h'
  · simp [Array.getElem?_eq_none h'] at h1
theorem Cl.kp {X : List Nat} {w w' : World} {b o : Nat} {v : Value} (hc : Cl w.heap b o v) (h : Kp X w w') (hx : b ∉ X) : Cl w'.heap b o v := by
  have hl := hc.lt
  obtain ⟨c, T, fz, h1, h2⟩ := hc
  exact ⟨c, T, fz, by rw [h.block b hl hx]; exact h1, h2⟩

/-- block b is a row of cells, none of them frozen -/
def Bk (h : Array Obj) (b : Nat) (cs : List Value) (T : TypeId) : Prop := h[b]? = some (.cells cs.toArray T (0, 0))
theorem Bk.cl {h : Array Obj} {b : Nat} {cs : List Value} {T : TypeId} (hb : Bk h b cs T) {o : Nat} {v : Value} (hv : cs[o]? = some v) : Cl h b o v :=
  ⟨_, _, _, hb, by simpa using hv⟩
theorem Bk.lt {h : Array Obj} {b : Nat} {cs : List Value} {T : TypeId} (hb : Bk h b cs T) : b < h.size := by
  rcases Nat.lt_or_ge b h.size with h' | h'
  · exact h'
  · unfold Bk at hb; simp [Array.getElem?_eq_none h'] at hb
theorem Bk.kp {X : List Nat} {w w' : World} {b : Nat} {cs : List Value} {T : TypeId} (hb : Bk w.heap b cs T) (h : Kp X w w') (hx : b ∉ X) : Bk w'.heap b cs T := by
  have hl := hb.lt
  unfold Bk
  rw [h.block b hl hx]; exact hb

/-- the code behind stays out of sight: the kernel then has little to compare -/
theorem seq_cut {P : Program} {τ : Tau} {n : Nat} {a b : Code} {s : St} {w : World} {K : Exit → St → World → Prop} (h : ∀ c, c = b → wpx P τ n (.seq a c) s w K) : wpx P τ n (.seq a b) s w K := h b rfl

/-- a composite slice's cells, written out -/
theorem fill {o : Option (List Value)} {k : List Value → Prop} (cs : List Value) (h : o = some cs) (hk : k cs) : EvFill o k := by
  unfold EvFill
  exact ⟨cs, h, hk⟩

theorem new {w : World} {T : TypeId} {cs : List Value} {k : Nat → World → Prop} (hk : ∀ (b : Nat) (w' : World), b = w.heap.size → Bk w'.heap b cs T → w'.heap.size = b + 1 → Kp [] w w' → k b w') : EvNew w T cs k := by
  unfold EvNew
  refine ⟨_, _, ⟨rfl, rfl⟩, hk _ _ rfl ?_ (by simp) (Kp.alloc _ _)⟩
  show (w.heap.push _)[_]? = _
  simp

theorem st {w : World} {b o : Nat} {v : Value} {k : World → Prop} {cs : List Value} {T : TypeId} (hb : Bk w.heap b cs T) (ho : o < cs.length) (hv : v.oneCell' = true)
    (hk : ∀ w', Bk w'.heap b (cs.set o v) T → w'.heap.size = w.heap.size → Kp [b] w w' → k w') : EvSt w ⟨b, o, none⟩ v k := by
  unfold EvSt
  have hb' : w.heap[b]? = some (.cells cs.toArray T (0, 0)) := hb
  have hl := hb.lt
  refine ⟨⟨cs[o], (hb.cl (by simp [ho])).cell⟩, ?_, hv, ?_⟩
  · simp [World.frozen?, hb']
  · refine hk _ ?_ (by simp [World.setCell]) (Kp.set w ⟨b, o, none⟩ v)
    unfold Bk
    simp only [World.setCell, Array.getElem?_modify, if_true, hb']
    simp

theorem ldN {w : World} {b o n : Nat} {k : Value → Prop} (cs : List Value) (hn : cs.length = n) (h : ∀ j v, cs[j]? = some v → Cl w.heap b (o + j) v) (hk : k (.agg cs.toArray)) : EvLdN w ⟨b, o, none⟩ n k := by
  unfold EvLdN
  refine ⟨cs, hn, fun j v hv => ?_, hk⟩
  have := (h j v hv).cell
  unfold Addr.add
  split
  · rename_i h0; subst h0; simpa using this
  · exact this

/-- a struct laid into a block that was just made -/
theorem stN {P : Program} {w : World} {b : Nat} {vs : List Value} {k : World → Prop} {cs : List Value} {T : TypeId} (hb : Bk w.heap b cs T) (hl : vs.length = cs.length) (hv : ∀ v ∈ vs, v.oneCell' = true)
    (hk : ∀ w', Bk w'.heap b vs T → w'.heap.size = w.heap.size → Kp [b] w w' → k w') : EvRunU P (storeCells ⟨b, 0, none⟩ vs) w k := by
  have key : ∀ (r : List Value) (i : Nat) (w0 : World) (pre : List Value), (∀ v ∈ r, v.oneCell' = true) → pre.length = i → (∃ rest, Bk w0.heap b (pre ++ rest) T ∧ rest.length = r.length) → w0.heap.size = w.heap.size → Kp [b] w w0 →
      ∃ w', (storeCells ⟨b, 0, none⟩ r i).run P w0 = .ok () w' ∧ Bk w'.heap b (pre ++ r) T ∧ w'.heap.size = w.heap.size ∧ Kp [b] w w' := by
    intro r
    induction r with
    | nil =>
      intro i w0 pre _ _ ⟨rest, hbk, hlen⟩ hsz hkp
      have : rest = [] := List.length_eq_zero_iff.1 hlen
      subst this
      exact ⟨w0, by simp [storeCells], hbk, hsz, hkp⟩
    | cons v r ih =>
      intro i w0 pre hv1 hpl ⟨rest, hbk, hlen⟩ hsz hkp
      match rest, hlen with
      | u :: rest, hlen =>
      have hcell : w0.cell? ⟨b, i, none⟩ = some u := (hbk.cl (by rw [← hpl]; simp)).cell
      have hb' : w0.heap[b]? = some (.cells (pre ++ u :: rest).toArray T (0, 0)) := hbk
      have hst := run_store P w0 ⟨b, i, none⟩ v .plain (hv1 v (by simp))
      have hfz : w0.frozen? ⟨b, i, none⟩ = false := by simp [World.frozen?, hb']
      simp only [hcell, hfz, Bool.false_eq_true, if_false] at hst
      have hadd : (⟨b, 0, none⟩ : Addr).add i = ⟨b, i, none⟩ := by
        unfold Addr.add; split
        · rename_i h0; subst h0; rfl
        · simp
      have hbk' : Bk (w0.setCell ⟨b, i, none⟩ v).heap b ((pre ++ [v]) ++ rest) T := by
        unfold Bk
        simp only [World.setCell, Array.getElem?_modify, if_true, hb']
        subst hpl
        simp
      obtain ⟨w', h1, h2, h3, h4⟩ := ih (i + 1) (w0.setCell ⟨b, i, none⟩ v) (pre ++ [v]) (fun x hx => hv1 x (by simp [hx])) (by simp [hpl]) ⟨rest, hbk', by simpa using hlen⟩ (by simp [World.setCell, hsz])
        (hkp.trans (Kp.set w0 ⟨b, i, none⟩ v) (fun x hx _ => hx))
      refine ⟨w', ?_, by simpa using h2, h3, h4⟩
      simp only [storeCells, Sem.run_bind, hadd, hst, Result.andThen_ok]
      exact h1
  obtain ⟨w', h1, h2, h3, h4⟩ := key vs 0 w [] hv rfl ⟨cs, by simpa using hb, hl.symm⟩ rfl (Kp.refl _ _)
  exact runU h1 (hk w' (by simpa using h2) h3 h4)

/-! ### Loops -/
theorem wp_loop_ghost {P : Program} {c : Code} {Q : Exit → Act → World → Prop} {a : Act} {w : World} {σ : Type} (I : σ → Act → World → Prop) (μ : σ → Nat) (x0 : σ) (h0 : I x0 a w)
    (round : ∀ x a w, I x a w → c.wp P (Exit.then (fun a' w' => ∃ y, I y a' w' ∧ μ y < μ x) Q) a w) : (Code.loop c).wp P Q a w := by
  intro b k cs
  have key : ∀ n x a w, μ x = n → I x a w →
      ∃ e a' w', Q e a' w' ∧ Arrives P (lone (b.at a (.code c :: .inLoop c :: k)) cs w) b k cs e a' w' := by
    intro n
    induction n using Nat.strongRecOn with
    | _ n ih =>
      intro x a w hn hI
      obtain ⟨e, a₁, w₁, hq, harr⟩ := round x a w hI b (.inLoop c :: k) cs
      cases e with
      | normal =>
        obtain ⟨y, hI₁, hlt⟩ := hq
        obtain ⟨e₂, a₂, w₂, hq₂, harr₂⟩ := ih (μ y) (hn ▸ hlt) y a₁ w₁ rfl hI₁
        exact ⟨e₂, a₂, w₂, hq₂, .of_steps (Steps.trans harr (.one step_inLoop)) harr₂⟩
      | exit id => exact ⟨_, a₁, w₁, hq, .pass (x := .inLoop c) rfl (fun _ _ => .inl (by simp)) harr⟩
      | goto l => exact ⟨_, a₁, w₁, hq, .pass (x := .inLoop c) rfl (fun _ _ => .inl (by simp)) harr⟩
      | ret => exact ⟨_, a₁, w₁, hq, .pass (x := .inLoop c) rfl (fun _ _ => .inl (by simp)) harr⟩
      | panic ch => exact ⟨_, a₁, w₁, hq, .pass (x := .inLoop c) rfl (fun _ _ => .inl (by simp)) harr⟩
      | outgrown => exact ⟨_, a₁, w₁, hq, .pass (x := .inLoop c) rfl (fun _ _ => .inl (by simp)) harr⟩
  obtain ⟨e, a', w', hq, harr⟩ := key _ x0 a w rfl h0
  exact ⟨e, a', w', hq, .of_steps (.one step_loop) harr⟩

/-- the slots of a list are known -/
def Has (s : St) : List (Nat × Value) → Prop
  | [] => True
  | p :: r => get s.e p.1 = some p.2 ∧ Has s r

theorem Has.get {s : St} : ∀ {l : List (Nat × Value)}, Has s l → ∀ t v, get l t = some v → get s.e t = some v
  | [], _, t, v, hv => by simp [Wx.get] at hv
  | (k, u) :: r, h, t, v, hv => by
    simp only [Wx.get] at hv
    cases hb : Nat.beq k t with
    | true =>
      rw [hb] at hv
      have e := Nat.eq_of_beq_eq_true hb
      subst e
      have : u = v := by simpa using hv
      subst this
      exact h.1
    | false => rw [hb] at hv; exact Has.get h.2 t v hv

/-- A loop: 'σ' what changes from round to round; 'I' the slots at a round's head; 'R' what holds there. -/
theorem loop {P : Program} {τ : Tau} {n : Nat} {c : Code} {s : St} {w : World} {K : Exit → St → World → Prop} (hτ : TauOk P τ) {σ : Type} (I : σ → List (Nat × Value)) (R : σ → World → Prop) (μ : σ → Nat) (x0 : σ)
    (h0 : Has s (I x0)) (hR : R x0 w)
    (round : ∀ x w, R x w → wpx P τ n c ⟨I x, s.d⟩ w (thenK (fun s' w' => ∃ y, μ y < μ x ∧ s'.d = s.d ∧ Has s' (I y) ∧ R y w') K)) : EvCode P n (.loop c) s w K := by
  unfold EvCode
  intro a hF
  have hex : ∀ a' s', Fr n a' s' → s'.d = s.d → ∀ y, Has s' (I y) → Fr n a' ⟨I y, s.d⟩ := fun a' s' hF' hd y hy =>
    ⟨hF'.size, by rw [hF'.defers, hd], fun t v hv => hF'.has t v (hy.get t v hv)⟩
  refine wp_loop_ghost (fun y a w => Fr n a ⟨I y, s.d⟩ ∧ R y w) μ x0 ⟨hex a s hF rfl x0 h0, hR⟩ ?_
  intro y a w ⟨hFy, hRy⟩
  refine Go.wp_mono (wpx_sound hτ c _ w _ (round y w hRy) a hFy) fun e a' w' hl => ?_
  obtain ⟨s', hF', hs⟩ := hl
  cases e with
  | normal =>
    obtain ⟨z, hlt, hd, hz, hRz⟩ := hs
    exact ⟨z, ⟨hex a' s' hF' hd z hz, hRz⟩, hlt⟩
  | exit id => exact ⟨s', hF', hs⟩
  | goto l => exact ⟨s', hF', hs⟩
  | ret => exact ⟨s', hF', hs⟩
  | panic ch => exact ⟨s', hF', hs⟩
  | outgrown => exact ⟨s', hF', hs⟩

end Go.Wx

/-
  Wx: regions that draw their order: an evaluator for operations that only read (or call what only makes new memory), in a class of worlds.
-/
namespace Go.Wx

@[irreducible] def EvLdQ (C : World → Prop) (a : Addr) (k : Value → Prop) : Prop := ∃ v, (∀ w, C w → w.cell? a = some v) ∧ k v
@[irreducible] def EvLdNQ (C : World → Prop) (a : Addr) (n : Nat) (k : Value → Prop) : Prop :=
  ∃ cs : List Value, cs.length = n ∧ (∀ w, C w → ∀ j v, cs[j]? = some v → w.cell? (a.add j) = some v) ∧ k (.agg cs.toArray)
@[irreducible] def EvCallQ (P : Program) (C : World → Prop) (f : FuncId) (args : Array Value) (k : Value → Prop) : Prop :=
  ∃ v, CallOk P f ∧ (∀ w, C w → Calls P f args w fun e w' => e = .returned v ∧ C w') ∧ k v
@[irreducible] def EvRunQ (P : Program) (C : World → Prop) (m : Sem Value) (k : Value → Prop) : Prop := ∃ v, (∀ w, C w → m.run P w = .ok v w) ∧ k v

def binQ (P : Program) (τ : Tau) (C : World → Prop) (op : BinOp) (T : TypeId) (x y : Operand) (a b : Value) (k : Value → Prop) : Prop :=
  match a, b with
  | .int j m, .int j' n => match sameK j j' with
    | false => EvRunQ P C (binOp op T (.int j m) (.int j' n)) k
    | true => match op with
      | .add => EvInt j (m + n) k
      | .sub => EvInt j (m - n) k
      | .mul => EvInt j (m * n) k
      | .eql => k (.bool (decide (m = n)))
      | .neq => k (.bool (decide (m ≠ n)))
      | .lss => k (.bool (decide (m < n)))
      | .leq => k (.bool (decide (m ≤ n)))
      | .gtr => k (.bool (decide (n < m)))
      | .geq => k (.bool (decide (n ≤ m)))
      | op => EvRunQ P C (binOp op T (.int j m) (.int j' n)) k
  | .bool m, .bool n => match look τ.ones T with
    | some 1 => match op with
      | .eql => k (.bool (m == n))
      | .neq => k (.bool (m != n))
      | _ => False
    | _ => False
  | a, b => EvRunQ P C (do eqGuard op T x y a b; binOp op T a b) k

def q1 (P : Program) (τ : Tau) (n : Nat) (C : World → Prop) (o : Oper) (s : St) (k : St → Prop) : Prop :=
  let fin : Value → Prop := fun v => put n s o.dst v k
  match o.op with
  | .move x => wv s.e x fin
  | .assign x => wv s.e x fin
  | .pick c a b => wv s.e c fun vc => match vc with
    | .bool t => Br t (wv s.e a fin) (wv s.e b fin)
    | _ => False
  | .build T ps => wvp s.e ps.toList fun vs => match look τ.tab T with
    | some (fs, z) => match fillL (placeS fs) (z.map zc) vs with
      | some cs => fin (.agg cs.toArray)
      | none => False
    | none => False
  | .load T x => wv s.e x fun v => match v with
    | .pointer (some a) => match look τ.tab T with
      | some (_, z) => EvLdNQ C a z.length fin
      | none => match look τ.ones T with
        | some _ => EvLdQ C a fin
        | none => False
    | _ => False
  | .binOp op T x y _ => wv s.e x fun a => wv s.e y fun b => binQ P τ C op T x y a b fin
  | .unOp op _ x => wv s.e x fun a => match op, a with
    | .not, .bool b => fin (.bool (!b))
    | .neg, .int j m => EvInt j (0 - m) fin
    | op, a => EvRunQ P C (Op.unary op a) fin
  | .convert src dst x => wv s.e x fun v => match v, look τ.ones src, look τ.ones dst with
    | .int _ m, some _, some c => match kindOf c with
      | some j => EvInt j m fin
      | none => EvRunQ P C (convert src dst v) fin
    | _, _, _ => EvRunQ P C (convert src dst v) fin
  | .makeFunc fn first captured => wvs s.e first.toList fun us => wvs s.e captured.toList fun vs => fin (.func fn us.toArray vs.toArray)
  | .slice T x lo hi mx => wv s.e x fun v => wvo s.e lo fun l => wvo s.e hi fun h => wvo s.e mx fun m => EvRunQ P C (Instr.sliceAt T v l h m) fin
  | .fieldAddr T x f => wv s.e x fun v => match v, look τ.tab T with
    | .pointer (some a), some (fs, _) => match nth fs f with
      | some (o, _, _) => fin (.pointer (some (a.add o)))
      | none => False
    | _, _ => False
  | .field T x f => wv s.e x fun v => EvRunQ P C (Instr.field T v f) fin
  | .indexAddr T x i => wv s.e x fun v => wv s.e i fun j => match v, j, look τ.slcs T with
    | .slice a len _, .int _ m, some (_, sz, _) => EvIx a len sz m fun ad => fin (.pointer (some ad))
    | _, _, _ => EvRunQ P C (Instr.indexAt T v j) fin
  | .index T x i => wv s.e x fun v => wv s.e i fun j => EvRunQ P C (Instr.index T v j) fin
  | .lookup T x i ok => wv s.e x fun v => wv s.e i fun j => EvRunQ P C (Instr.lookup T v j ok) fin
  | .extract x i => wv s.e x fun v => match v with
    | .tuple vs => match nth vs.toList i with
      | some u => fin u
      | none => False
    | _ => False
  | .call c => match c.callee with
    | .value f => wv s.e f fun g => wvs s.e c.args.toList fun vs => match g with
      | .func (.func g) first captured => EvCallQ P C g (first ++ vs.toArray ++ captured) fin
      | _ => False
    | .builtin b => wvs s.e c.args.toList fun vs => match b with
      | .len => match vs, c.argTypes.toList with
        | [.slice _ m _], [T] => match look τ.slcs T with
          | some _ => fin (.int .i64 m)
          | none => EvRunQ P C (Builtin.len_ c.argTypes o.type vs.toArray) fin
        | _, _ => EvRunQ P C (Builtin.len_ c.argTypes o.type vs.toArray) fin
      | .min => EvRunQ P C (Builtin.min_ c.argTypes o.type vs.toArray) fin
      | .max => EvRunQ P C (Builtin.max_ c.argTypes o.type vs.toArray) fin
      | _ => False
    | _ => False
  | .nilCheck x => wv s.e x fun v => match v with
    | .pointer (some a) => fin (.pointer (some a))
    | _ => False
  | _ => False

def wpQ (P : Program) (τ : Tau) (n : Nat) (C : World → Prop) (all : List Oper) (k : St → Prop) (l : List Oper) : St → Prop :=
  List.rec (motive := fun _ => St → Prop) (fun s => k s) (fun o _ ih s => match o.guard with
    | none => q1 P τ n C o s ih
    | some (j, want) => match dstOf all j with
      | none => False
      | some d => match get s.e d with
        | some (.bool c) => match s with
          | ⟨e, ds⟩ => match want with
            | true => Br c (q1 P τ n C o ⟨(d, .bool true) :: e, ds⟩ ih) (put n ⟨(d, .bool false) :: e, ds⟩ o.dst undef fun s' => ih s')
            | false => Br c (put n ⟨(d, .bool true) :: e, ds⟩ o.dst undef fun s' => ih s') (q1 P τ n C o ⟨(d, .bool false) :: e, ds⟩ ih)
        | some (.tuple _) => put n s o.dst undef fun s' => ih s'
        | _ => False) l

theorem wpQ_cons (P : Program) (τ : Tau) (n : Nat) (C : World → Prop) (all : List Oper) (k : St → Prop) (o : Oper) (rest : List Oper) (s : St) :
    wpQ P τ n C all k (o :: rest) s = (match o.guard with
    | none => q1 P τ n C o s (wpQ P τ n C all k rest)
    | some (j, want) => match dstOf all j with
      | none => False
      | some d => match get s.e d with
        | some (.bool c) => match s with
          | ⟨e, ds⟩ => match want with
            | true => Br c (q1 P τ n C o ⟨(d, .bool true) :: e, ds⟩ (wpQ P τ n C all k rest)) (put n ⟨(d, .bool false) :: e, ds⟩ o.dst undef fun s' => wpQ P τ n C all k rest s')
            | false => Br c (put n ⟨(d, .bool true) :: e, ds⟩ o.dst undef fun s' => wpQ P τ n C all k rest s') (q1 P τ n C o ⟨(d, .bool false) :: e, ds⟩ (wpQ P τ n C all k rest))
        | some (.tuple _) => put n s o.dst undef fun s' => wpQ P τ n C all k rest s'
        | _ => False) := rfl

section
variable {P : Program} {τ : Tau} {n : Nat} {o : Oper} {a : Act} {s : St} {C : World → Prop}

/-- what 'q1' says of an operation: one value in every world of the class -/
def Yq (P : Program) (n : Nat) (C : World → Prop) (o : Oper) (a : Act) (k : St → Prop) : Prop :=
  ∃ v, (∀ w, C w → o.quietAt P a C w v) ∧ ∃ s', Fr n (a.put o.dst v) s' ∧ k s'

theorem yq_run {m : Sem Value} {k : St → Prop} (he : execOp a.eval o = (do pure (.value (← m)))) (hF : Fr n a s) (h : EvRunQ P C m fun v => put n s o.dst v k) : Yq P n C o a k := by
  unfold EvRunQ at h
  obtain ⟨v, hr, hp⟩ := h
  refine ⟨v, fun w hw => ?_, hF.put hp⟩
  unfold Oper.quietAt
  rw [he]
  have : (do pure (Next.value (← m)) : Sem Next).run P w = .ok (.value v) w := by simp [hr w hw]
  rw [this]
  exact ⟨rfl, rfl⟩

theorem yq_value {v : Value} {k : St → Prop} (he : ∀ w, C w → (execOp a.eval o).run P w = .ok (.value v) w) (hF : Fr n a s) (hp : put n s o.dst v k) : Yq P n C o a k := by
  refine ⟨v, fun w hw => ?_, hF.put hp⟩
  unfold Oper.quietAt
  rw [he w hw]
  exact ⟨rfl, rfl⟩

/-- from an operation of the sequential evaluator that leaves every world alone -/
theorem yq_of_wp {k : St → Prop} {m : Sem Value} (he : execOp a.eval o = (do pure (.value (← m)))) (hF : Fr n a s) (v : Value) (hm : ∀ w, C w → m.run P w = .ok v w) (hp : put n s o.dst v k) : Yq P n C o a k :=
  yq_run he hF (by unfold EvRunQ; exact ⟨v, hm, hp⟩)

theorem binQ_run (hτ : TauOk P τ) {op : BinOp} {T : TypeId} {x y : Operand} {u v : Value} {k : Value → Prop} (h : binQ P τ C op T x y u v k) :
    EvRunQ P C (do eqGuard op T x y u v; binOp op T u v) k := by
  unfold binQ at h
  split at h
  · rename_i j m j' l
    split at h
    · unfold EvRunQ at h ⊢
      obtain ⟨v, hr, hk⟩ := h
      exact ⟨v, fun w hw => by simp [eqGuard_int, hr w hw], hk⟩
    · rename_i hs
      have := sameK_eq hs
      subst this
      split at h
      all_goals (try replace h := EvInt.elim h)
      all_goals (try unfold EvRunQ at h)
      all_goals unfold EvRunQ
      case h_10 =>
        obtain ⟨v, hr, hk⟩ := h
        exact ⟨v, fun w hw => by simp [eqGuard_int, hr w hw], hk⟩
      all_goals (refine ⟨_, fun w hw => ?_, h⟩; simp [eqGuard_int, binOp, Op.intArith, Op.intCmp]; try rfl)
      all_goals (by_cases e : m = l <;> simp [e])
  · rename_i m l
    split at h
    · rename_i hs
      obtain ⟨d, _, hb, _, _, _, _, _, hd, _⟩ := hτ.ones T 1 hs
      rw [hd rfl] at hb
      unfold EvRunQ
      split at h
      · exact ⟨_, fun w _ => by simp [eqGuard_bool, run_eql_bool w T m l hb], h⟩
      · exact ⟨_, fun w _ => by simp only [Sem.run_bind, eqGuard_bool, Result.andThen_ok, run_neq_bool w T m l hb]; rfl, h⟩
      · exact h.elim
    · exact h.elim
  · exact h

theorem run_build_ok (hτ : TauOk P τ) {T : Nat} {fs : List (Nat × Nat × Bool)} {z : List Nat} {vs : List (Nat × Value)} {cs : List Value} (hr : look τ.tab T = some (fs, z)) (hc : fillL (placeS fs) (z.map zc) vs = some cs) (w : World) :
    (Instr.build T vs.toArray).run P w = .ok (.agg cs.toArray) w := by
  obtain ⟨gs, hu, hfs, hinf, i, hi, _, hz⟩ := hτ.tab T fs z hr
  have hplaces : ∀ (l : List Field), (∀ f ∈ l, (∃ d, P.underlying f.type = some d) ∧ ∃ i, P.info? f.type = some i ∧ i.size ≠ 0) → (l.mapM (m := Sem) fun f => do pure (f.offset, ← sizeOf f.type)).run P w = .ok (l.map fun f => (f.offset, P.cellsOf f.type)) w := by
    intro l
    induction l with
    | nil => intro _; simp
    | cons f l ih =>
      intro hl
      obtain ⟨_, j, hj, _⟩ := hl f (by simp)
      have := ih fun g hg => hl g (by simp [hg])
      have hsz : (sizeOf f.type).run P w = .ok (P.cellsOf f.type) w := by simp [sizeOf, typeInfo, hj, Program.cellsOf]
      simp only [List.mapM_cons, Sem.run_bind, hsz, Result.andThen_ok, Sem.run_pure, this, List.map_cons]
  have hpl : (gs.mapM (m := Sem) fun f => do pure (f.offset, ← sizeOf f.type)).run P w = .ok (gs.toList.map fun f => (f.offset, P.cellsOf f.type)).toArray w := by
    rw [Array.mapM_eq_mapM_toList]
    have := hplaces gs.toList hinf
    simp only [bind_pure_comp] at this ⊢
    simp [this]
  have hpe : placeS fs = fun i => (gs.toList.map fun f => (f.offset, P.cellsOf f.type)).toArray[i]? := by
    funext i
    unfold placeS
    rw [nth_eq, ← hfs]
    simp only [List.getElem?_map, List.getElem?_toArray]
    cases gs.toList[i]? <;> rfl
  rw [hpe] at hc
  have hfill := fillL_fill _ _ _ hc
  simp only [Instr.build, Sem.run_bind, zeroValue, typeInfo, run_program, Result.andThen_ok, hi, Sem.run_pure, hz, run_underlying hu, hpl]
  simp only [Value.cells]
  rw [hfill]
  simp

theorem run_ld_ok (hτ : TauOk P τ) {T c : Nat} (hc : look τ.ones T = some c) {ad : Addr} {v : Value} {w : World} (hv : w.cell? ad = some v) : (Instr.loadAt T (.pointer (some ad))).run P w = .ok v w := by
  obtain ⟨d, i, hu, hn, hi, hsz, hz, h1', _⟩ := hτ.ones T c hc
  cases d <;> simp_all [Instr.loadAt, Instr.sureAddr, loadVar, isAgg, run_underlying hu, notAgg]

theorem run_ldN_ok (hτ : TauOk P τ) {T : Nat} {fs : List (Nat × Nat × Bool)} {z : List Nat} (hr : look τ.tab T = some (fs, z)) {ad : Addr} {cs : List Value} {w : World} (hl : cs.length = z.length)
    (hc : ∀ j v, cs[j]? = some v → w.cell? (ad.add j) = some v) : (Instr.loadAt T (.pointer (some ad))).run P w = .ok (.agg cs.toArray) w := by
  obtain ⟨gs, hu, hfs, hinf, i, hi, hsz, hz⟩ := hτ.tab T fs z hr
  have := run_loadCells_list (P := P) (w := w) ad cs hc
  rw [hl] at this
  simp [Instr.loadAt, Instr.sureAddr, loadVar, isAgg, run_underlying hu, sizeOf, typeInfo, hi, hsz, this]

theorem run_fieldAddr_ok (hτ : TauOk P τ) {T f : Nat} {fs : List (Nat × Nat × Bool)} {z : List Nat} (hr : look τ.tab T = some (fs, z)) {off sz : Nat} {ag : Bool} (hf : nth fs f = some (off, sz, ag)) (ad : Addr) (w : World) :
    (Instr.fieldAt T (.pointer (some ad)) f).run P w = .ok (.pointer (some (ad.add off))) w := by
  obtain ⟨gs, hu, hfs, hinf, _⟩ := hτ.tab T fs z hr
  rw [nth_eq, ← hfs] at hf
  simp only [List.getElem?_map] at hf
  cases hg : gs.toList[f]? with
  | none => simp [hg] at hf
  | some g =>
    simp [hg] at hf
    obtain ⟨ho, _, _⟩ := hf
    obtain ⟨_, j, hj, hsz⟩ := hinf g (List.mem_of_getElem? hg)
    have hg' : gs[f]? = some g := by simpa using hg
    simp [Instr.fieldAt, run_underlying hu, hg', Instr.sureAddr, fieldPlace, sizeOf, typeInfo, hj, hsz, ho]

theorem run_index_ok (hτ : TauOk P τ) {T e sz bs : Nat} (hs : look τ.slcs T = some (e, sz, bs)) {ad : Addr} {len cap : Nat} {j : IntKind} {m : Int} (h0 : 0 ≤ m) (hlt : m < len) (w : World) :
    (Instr.indexAt T (.slice (some ad) len cap) (.int j m)).run P w = .ok (.pointer (some (ad.add (m.toNat * sz)))) w := by
  obtain ⟨hu, inf, hinf, hsz, _⟩ := hτ.slcs T e sz bs hs
  simp [Instr.indexAt, asIntOf, run_underlying hu, h0, hlt, sizeOf, typeInfo, hinf, hsz]

theorem run_conv_ok (hτ : TauOk P τ) {T U c0 c : Nat} (hT : look τ.ones T = some c0) (hU : look τ.ones U = some c) {j j0 : IntKind} (hj : kindOf c = some j) (m : Int) (w : World) :
    (convert T U (.int j0 m)).run P w = .ok (.int j (j.wrap m)) w := by
  obtain ⟨d, i, hu, _⟩ := hτ.ones T c0 hT
  obtain ⟨d', i', hu', _, _, _, _, _, _, hd'⟩ := hτ.ones U c hU
  have := hd' j hj
  subst this
  simp [convert, run_underlying hu, run_underlying hu', Conv.intToInt]

theorem q1_sound (hτ : TauOk P τ) {k : St → Prop} (hF : Fr n a s) (h : q1 P τ n C o s k) : Yq P n C o a k := by
  cases hop : o.op <;> simp only [q1, hop] at h
  case move x => exact yq_value (fun w _ => by simp [execOp, hop]) hF (hF.wv h)
  case assign x => exact yq_value (fun w _ => by simp [execOp, hop]) hF (hF.wv h)
  case pick c x y =>
    have h1 := hF.wv h
    split at h1
    · rename_i t ht
      rcases br_cases h1 with ⟨e, h2⟩ | ⟨e, h2⟩
      · subst e; exact yq_value (fun w _ => by simp [execOp, hop, ht, asBool]) hF (hF.wv h2)
      · subst e; exact yq_value (fun w _ => by simp [execOp, hop, ht, asBool]) hF (hF.wv h2)
    · exact h1.elim
  case build T ps =>
    have h1 := hF.wvp _ _ h
    have hm : (ps.map fun p => (p.1, a.eval p.2)) = (ps.toList.map fun p => (p.1, a.eval p.2)).toArray := Array.ext' (by simp)
    split at h1
    · rename_i fs z hr
      split at h1
      · rename_i cs hc
        refine yq_of_wp (m := Instr.build T (ps.map fun p => (p.1, a.eval p.2))) (by simp [execOp, hop]) hF _ (fun w _ => ?_) h1
        rw [hm]
        exact run_build_ok hτ hr hc w
      · exact h1.elim
    · exact h1.elim
  case load T x =>
    have h1 := hF.wv h
    split at h1
    · rename_i ad hx
      split at h1
      · rename_i fs z hr
        unfold EvLdNQ at h1
        obtain ⟨cs, hl, hc, hput⟩ := h1
        refine yq_of_wp (m := Instr.loadAt T (a.eval x)) (by simp [execOp, hop]) hF _ (fun w hw => ?_) hput
        rw [hx]
        exact run_ldN_ok hτ hr hl (hc w hw)
      · split at h1
        · rename_i c hc
          unfold EvLdQ at h1
          obtain ⟨v, hv, hput⟩ := h1
          refine yq_of_wp (m := Instr.loadAt T (a.eval x)) (by simp [execOp, hop]) hF _ (fun w hw => ?_) hput
          rw [hx]
          exact run_ld_ok hτ hc (hv w hw)
        · exact h1.elim
    · exact h1.elim
  case binOp op T x y U => exact yq_run (m := do eqGuard op T x y (a.eval x) (a.eval y); binOp op T (a.eval x) (a.eval y)) (by simp [execOp, hop]) hF (binQ_run hτ (hF.wv (hF.wv h)))
  case unOp op T x =>
    have h1 := hF.wv h
    refine yq_run (m := Op.unary op (a.eval x)) (by simp [execOp, hop]) hF ?_
    split at h1
    · rename_i b hx; rw [hx]; unfold EvRunQ; exact ⟨_, fun w _ => by simp [Op.unary], h1⟩
    · rename_i j m hx; rw [hx]; replace h1 := EvInt.elim h1; unfold EvRunQ; exact ⟨_, fun w _ => by simp [Op.unary, Op.intArith], h1⟩
    · exact h1
  case convert T U x =>
    have h1 := hF.wv h
    refine yq_run (m := convert T U (a.eval x)) (by simp [execOp, hop]) hF ?_
    split at h1
    · rename_i j0 m c0 c hx hT hU
      split at h1
      · rename_i j hj
        replace h1 := EvInt.elim h1
        unfold EvRunQ
        refine ⟨_, fun w _ => ?_, h1⟩
        rw [hx]
        exact run_conv_ok hτ hT hU hj m w
      · exact h1
    · exact h1
  case makeFunc fn first captured =>
    have h1 := hF.wvs _ _ (hF.wvs _ _ h)
    refine yq_value (v := .func fn (first.map a.eval) (captured.map a.eval)) (fun w _ => by simp [execOp, hop, Instr.makeFunc]) hF ?_
    rw [map_ev, map_ev]; exact h1
  case slice T x lo hi mx => exact yq_run (by simp [execOp, hop]) hF (hF.wvo (hF.wvo (hF.wvo (hF.wv h))))
  case fieldAddr T x f =>
    have h1 := hF.wv h
    split at h1
    · rename_i ad fs z hx hr
      split at h1
      · rename_i off sz ag hf
        refine yq_of_wp (m := Instr.fieldAt T (a.eval x) f) (by simp [execOp, hop]) hF _ (fun w _ => ?_) h1
        rw [hx]
        exact run_fieldAddr_ok hτ hr hf ad w
      · exact h1.elim
    · exact h1.elim
  case field T x f => exact yq_run (by simp [execOp, hop]) hF (hF.wv h)
  case indexAddr T x i =>
    have h1 := hF.wv (hF.wv h)
    refine yq_run (m := Instr.indexAt T (a.eval x) (a.eval i)) (by simp [execOp, hop]) hF ?_
    split at h1
    · rename_i ad len cap j m e sz bs hx hi hs
      unfold EvIx at h1
      obtain ⟨ad', rfl, h0, hlt, hput⟩ := h1
      unfold EvRunQ
      refine ⟨_, fun w _ => ?_, hput⟩
      rw [hx, hi]
      exact run_index_ok hτ hs h0 hlt w
    · exact h1
  case index T x i => exact yq_run (by simp [execOp, hop]) hF (hF.wv (hF.wv h))
  case lookup T x i ok => exact yq_run (by simp [execOp, hop]) hF (hF.wv (hF.wv h))
  case extract x i =>
    have h1 := hF.wv h
    split at h1
    · rename_i vs hx
      split at h1
      · rename_i u hu
        rw [nth_eq] at hu
        have hu' : vs[i]? = some u := by simpa using hu
        exact yq_value (v := u) (fun w _ => by simp [execOp, hop, Instr.extract, hx, hu']) hF h1
      · exact h1.elim
    · exact h1.elim
  case call c =>
    cases hc : c.callee with
    | value f =>
      simp only [hc] at h
      have h1 := hF.wvs _ _ (hF.wv h)
      split at h1
      · rename_i g first captured hg
        unfold EvCallQ at h1
        obtain ⟨v, hok, hcall, hput⟩ := h1
        refine ⟨v, fun w hw => ?_, hF.put hput⟩
        have hr : (execOp a.eval o).run P w = .ok (.enter g (first ++ (c.args.toList.map a.eval).toArray ++ captured)) w := by
          simp only [execOp, hop, resolve, hc, hg, Deferred.ofValue, Sem.run_bind, Sem.run_pure, Result.andThen_ok, invoke]
          rw [run_callFunc hok, map_ev]
        unfold Oper.quietAt
        rw [hr]
        exact ⟨rfl, hcall w hw⟩
      · exact h1.elim
    | builtin b =>
      simp only [hc] at h
      have h1 := hF.wvs _ _ h
      have e1 : (c.args.toList.map a.eval).toArray = c.args.map a.eval := (map_ev a c.args).symm
      simp only [e1] at h1
      cases b <;> simp only at h1
      case len =>
        refine yq_run (m := Builtin.len_ c.argTypes o.type (c.args.map a.eval)) (by simp [execOp, hop, resolve, hc, invoke, builtin]) hF ?_
        split at h1
        · rename_i ad m cap T hvs hts
          split at h1
          · rename_i q hs
            obtain ⟨e, sz, bs⟩ := q
            obtain ⟨hu, _⟩ := hτ.slcs T e sz bs hs
            unfold EvRunQ
            refine ⟨_, fun w _ => ?_, h1⟩
            rw [← e1, hvs]
            have hat : c.argTypes = #[T] := Array.ext' (by simpa using hts)
            rw [hat]
            simp [Builtin.len_, run_underlying hu, goInt]
          · exact h1
        · exact h1
      case min => exact yq_run (by simp [execOp, hop, resolve, hc, invoke, builtin]) hF h1
      case max => exact yq_run (by simp [execOp, hop, resolve, hc, invoke, builtin]) hF h1
    | invoke r m => simp only [hc] at h
  case nilCheck x =>
    have h1 := hF.wv h
    split at h1
    · rename_i ad hx
      exact yq_value (fun w _ => by simp [execOp, hop, hx]) hF h1
    · exact h1.elim

theorem wpQ_sound (hτ : TauOk P τ) {l : List Oper} {k : St → Prop} {Q : Act → Prop} (hk : ∀ s' a', Fr n a' s' → k s' → Q a') :
    ∀ (r : List Oper) (s : St) (a : Act), Fr n a s → wpQ P τ n C l k r s → wpQuiet P l.toArray C Q r a
  | [], s, a, hF, h => hk _ _ hF h
  | o :: r, s, a, hF, h => by
    have ih := wpQ_sound hτ (l := l) (Q := Q) hk r
    have hstep : ∀ (s₀ : St), Fr n a s₀ → q1 P τ n C o s₀ (wpQ P τ n C l k r) → o.quiet P a C (wpQuiet P l.toArray C Q r) := fun s₀ h₀ h₁ => by
      obtain ⟨v, hv, s', hF', hs⟩ := q1_sound hτ h₀ h₁
      exact ⟨v, hv, ih s' _ hF' hs⟩
    have hskip : ∀ (s₀ : St), Fr n a s₀ → (put n s₀ o.dst undef fun s' => wpQ P τ n C l k r s') → wpQuiet P l.toArray C Q r (a.put o.dst undef) := fun s₀ h₀ h₁ => by
      obtain ⟨s', hF', hs⟩ := h₀.put h₁
      exact ih s' _ hF' hs
    rw [wpQ_cons] at h
    unfold wpQuiet
    cases hg : o.guard with
    | none =>
      rw [hg] at h
      rw [if_pos (by simp [Region.wanted, hg])]
      exact hstep s hF h
    | some q =>
      obtain ⟨j, want⟩ := q
      rw [hg] at h
      simp only at h
      cases hd : dstOf l j with
      | none => rw [hd] at h; exact h.elim
      | some d =>
        rw [hd] at h
        simp only at h
        cases hv : get s.e d with
        | none => rw [hv] at h; exact h.elim
        | some v =>
          rw [hv] at h
          have hw := wanted_of (a := a) hg hd (hF.has d v hv)
          cases v <;> simp only at h
          case bool c =>
            cases want <;> simp only at h <;> rcases br_cases h with ⟨e, h2⟩ | ⟨e, h2⟩ <;> subst e
            · rw [if_neg (by rw [hw]; simp)]
              exact hskip _ (hF.again hv) h2
            · rw [if_pos (by rw [hw]; simp)]
              exact hstep _ (hF.again hv) h2
            · rw [if_pos (by rw [hw]; simp)]
              exact hstep _ (hF.again hv) h2
            · rw [if_neg (by rw [hw]; simp)]
              exact hskip _ (hF.again hv) h2
          case tuple vs =>
            rw [if_neg (by rw [hw]; simp)]
            exact hskip _ hF h
end

/-- A region that draws its order, whose operations only read or call: in a class of worlds. -/
theorem drawQ {P : Program} {τ : Tau} {n id : Nat} {l : List Oper} {s : St} {w : World} {K : Exit → St → World → Prop} (hτ : TauOk P τ) (C : World → Prop) (hB : Region.lexB .any l.toArray = true)
    (hC : C { w with drawn := w.drawn + 1 }) (h : wpQ P τ n C l (fun s' => ∀ w', C w' → K .normal s' w') l s) : EvCode P n (.region id l.toArray true) s w K := by
  unfold EvCode
  intro a hF
  refine wp_region_quiet (C := C) hτ.mixed hB hC ?_
  have := wpQ_sound hτ (n := n) (l := l) (C := C) (Q := fun a' => ∀ w', C w' → lift n K .normal a' w') (k := fun s' => ∀ w', C w' → K .normal s' w') (fun s' a' hF' hs w' hw' => ⟨s', hF', hs w' hw'⟩) l s a hF h
  simpa using this

/-- .. that only reads: the heap is what it was, by unfolding. -/
theorem drawR {P : Program} {τ : Tau} {n id : Nat} {l : List Oper} {s : St} {w : World} {K : Exit → St → World → Prop} (hτ : TauOk P τ) (hB : Region.lexB .any l.toArray = true)
    (h : wpQ P τ n (fun w' => ∃ m, w' = { w with drawn := m }) l (fun s' => ∀ m, K .normal s' { w with drawn := m }) l s) : EvCode P n (.region id l.toArray true) s w K := by
  refine drawQ hτ (fun w' => ∃ m, w' = { w with drawn := m }) hB ⟨_, rfl⟩ ?_
  have hfun : (fun s' => ∀ w', (∃ m, w' = { w with drawn := m }) → K .normal s' w') = fun s' => ∀ m, K .normal s' { w with drawn := m } := by
    funext s'
    exact propext ⟨fun hh m => hh _ ⟨m, rfl⟩, fun hh w' ⟨m, e⟩ => e ▸ hh m⟩
  rw [hfun]
  exact h

theorem still_of_quiet {P : Program} {W : World} {o : Oper} {a : Act} {next : Act → Prop} (h : o.quiet P a (· = W) next) : o.still P a W next := by
  obtain ⟨v, hv, hn⟩ := h
  have := hv W rfl
  unfold Oper.quietAt at this
  unfold Oper.still
  generalize (execOp a.eval o).run P W = r at *
  cases r with
  | ok x w' =>
    cases x <;> simp only [Oper.quietUpon] at this <;> simp only [Oper.stillUpon]
    case value u => obtain ⟨e1, e2⟩ := this; exact ⟨e1, e2 ▸ hn⟩
    case skip => obtain ⟨e1, e2⟩ := this; exact ⟨e1, e2 ▸ hn⟩
    case enter f args => obtain ⟨e1, hc⟩ := this; exact ⟨e1, v, hc, hn⟩
  | halt x w' => simp only [Oper.quietUpon] at this

theorem wpStill_of_quiet {P : Program} {W : World} {ops : Array Oper} {Q : Act → Prop} : ∀ (r : List Oper) (a : Act), wpQuiet P ops (· = W) Q r a → wpStill P ops W Q r a
  | [], _, h => h
  | o :: r, a, h => by
    unfold wpQuiet at h
    unfold wpStill
    split
    · rename_i hw
      rw [if_pos hw] at h
      exact Oper.still_mono (fun a' h' => wpStill_of_quiet r a' h') (still_of_quiet h)
    · rename_i hw
      rw [if_neg hw] at h
      exact wpStill_of_quiet r _ h

/-- .. whose first m operations only read, and whose others come one behind the other. -/
theorem drawT {P : Program} {τ : Tau} {n id : Nat} {l : List Oper} {s : St} {w : World} {K : Exit → St → World → Prop} (hτ : TauOk P τ) (m : Nat) (hd tl : List Oper) (h1 : l.take m = hd) (h2 : l.drop m = tl) (hB : Region.lexTailB .any l.toArray m = true)
    (h : wpQ P τ n (· = { w with drawn := w.drawn + 1 }) l (fun s' => wpL P τ n l (K .normal) (fun ch => K (.panic ch)) tl s' { w with drawn := w.drawn + 1 }) hd s) : EvCode P n (.region id l.toArray true) s w K := by
  unfold EvCode
  intro a hF
  subst h1 h2
  refine wp_region_still_tail m hτ.mixed hB ?_
  refine wpStill_of_quiet _ _ ?_
  exact wpQ_sound hτ (l := l) (k := fun s' => wpL P τ n l (K .normal) (fun ch => K (.panic ch)) (l.drop m) s' { w with drawn := w.drawn + 1 })
    (fun s' a' hF' hs => wpL_sound hτ (n := n) (l := l) (Q := lift n K) (fun s'' w'' a'' hF'' hs' => ⟨s'', hF'', hs'⟩) (fun ch s'' w'' a'' hF'' hs' => ⟨s'', hF'', hs'⟩) _ s' _ a' hF' hs) _ s a hF h

/-! ### rules -/
theorem ldR {w : World} {b o : Nat} {v : Value} {k : Value → Prop} (h : Cl w.heap b o v) (hk : k v) : EvLdQ (fun w' => ∃ m, w' = { w with drawn := m }) ⟨b, o, none⟩ k := by
  unfold EvLdQ
  refine ⟨v, fun w' ⟨m, e⟩ => ?_, hk⟩
  subst e
  exact Cl.cell (w := { w with drawn := m }) h
theorem ldS {w : World} {b o : Nat} {v : Value} {k : Value → Prop} (h : Cl w.heap b o v) (hk : k v) : EvLdQ (· = w) ⟨b, o, none⟩ k := by
  unfold EvLdQ
  exact ⟨v, fun w' e => by subst e; exact h.cell, hk⟩
theorem ldK {w : World} {b o : Nat} {v : Value} {k : Value → Prop} (h : Cl w.heap b o v) (hk : k v) : EvLdQ (fun w' => Kp [] w w') ⟨b, o, none⟩ k := by
  unfold EvLdQ
  exact ⟨v, fun w' e => (h.kp e (by simp)).cell, hk⟩
theorem ldQ {C : World → Prop} {b o : Nat} {v : Value} {k : Value → Prop} (h : ∀ w, C w → Cl w.heap b o v) (hk : k v) : EvLdQ C ⟨b, o, none⟩ k := by
  unfold EvLdQ
  exact ⟨v, fun w' e => (h w' e).cell, hk⟩
theorem callQ {P : Program} {C : World → Prop} {f : FuncId} {args : Array Value} {k : Value → Prop} (v : Value) (h : ∀ w, C w → CallOk P f ∧ Calls P f args w fun e w' => e = .returned v ∧ C w') (hok : CallOk P f) (hk : k v) : EvCallQ P C f args k := by
  unfold EvCallQ
  exact ⟨v, hok, fun w hw => (h w hw).2, hk⟩
/-- a call whose contract says 'returns v, keeps all' -/
theorem callK {P : Program} {w : World} {f : FuncId} {args : Array Value} {k : Value → Prop} {v : Value} (h : ∀ w', Kp [] w w' → CallOk P f ∧ Calls P f args w' fun e w'' => e = .returned v ∧ Kp [] w' w'') (hk : k v) : EvCallQ P (fun w' => Kp [] w w') f args k := by
  unfold EvCallQ
  exact ⟨v, (h w (Kp.refl _ _)).1, fun w' hw => (h w' hw).2.mono fun e w'' ⟨he, hk'⟩ => ⟨he, hw.tr hk'⟩, hk⟩

end Go.Wx

/-
  Wx: more rules: make, append, slices; rows of integers.
-/
namespace Go.Wx

/-- make([]T, n) -/
theorem mk {P : Program} {τ : Tau} (hτ : TauOk P τ) {T e sz bs : Nat} (hs : look τ.slcs T = some (e, sz, bs)) {z : List Value} (hz : τ.zero e = some z) {w : World} {k : Value → World → Prop} {i : Int} (n : Nat) (hi : i = n) (hsz : 0 < z.length) (hn : bs * n ≤ 281474976710656) (h63 : n ≤ 9223372036854775807)
    (hk : ∀ b w', b = w.heap.size → Bk w'.heap b (rep z n) e → w'.heap.size = b + 1 → Kp [] w w' → k (.slice (some ⟨b, 0, none⟩) n n) w') : EvRun P (Instr.makeSlice T (.int .i64 i) (.int .i64 i)) w k := by
  obtain ⟨hu, inf, hinf, hsize, hbytes⟩ := hτ.slcs T e sz bs hs
  obtain ⟨inf', v, hinf', hv, hc, hsz'⟩ := zero_ok hτ hz
  have : inf' = inf := by rw [hinf'] at hinf; simpa using hinf
  subst this
  subst hi
  have hb : (inf'.bytes : Int) * (n : Int) ≤ 281474976710656 := by
    rw [hbytes]
    have : ((bs * n : Nat) : Int) ≤ 281474976710656 := by omega
    rwa [Int.natCast_mul] at this
  have hr := run_make (P := P) w T e inf' v hu hinf' hv .i64 .i64 n n (by omega) (Int.le_refl _) hb (by omega)
  simp only [Int.toNat_natCast] at hr
  refine run hr (hk _ _ rfl ?_ (by simp) (Kp.alloc _ _))
  show (w.heap.push _)[_]? = _
  have hm : madeCells v.cells (n * inf'.size) = (rep z n).toArray := by
    rw [hc, hsz']
    exact rep_range z n hsz
  rw [hm]
  simp

theorem rep_one (x : Value) : ∀ n, rep [x] n = List.replicate n x
  | 0 => rfl
  | n + 1 => by simp [rep, rep_one x n, List.replicate_succ]

/-! ### rows of ints of one's own -/
def RowI (h : Array Obj) (b : Nat) (l : List Int) (T : TypeId) : Prop := Bk h b (l.map (Value.int .i64)) T
theorem RowI.cl {h : Array Obj} {b : Nat} {l : List Int} {T : TypeId} (hb : RowI h b l T) {k : Nat} (hk : k < l.length) : Cl h b (0 + k * 1) (.int .i64 (l.getD k 0)) :=
  Bk.cl hb (by simp [hk])
theorem RowI.kp {X : List Nat} {w w' : World} {b : Nat} {l : List Int} {T : TypeId} (hb : RowI w.heap b l T) (h : Kp X w w') (hx : b ∉ X) : RowI w'.heap b l T := Bk.kp hb h hx
theorem stI {w : World} {b k : Nat} {x : Int} {K : World → Prop} {l : List Int} {T : TypeId} (hb : RowI w.heap b l T) (hk : k < l.length)
    (h : ∀ w', RowI w'.heap b (l.set k x) T → w'.heap.size = w.heap.size → Kp [b] w w' → K w') : EvSt w ⟨b, 0 + k * 1, none⟩ (.int .i64 x) K := by
  refine st hb (by simpa using hk) rfl fun w' hb' hs hkp => h w' ?_ hs hkp
  unfold RowI
  have : (l.set k x).map (Value.int .i64) = (l.map (Value.int .i64)).set (0 + k * 1) (.int .i64 x) := by
    rw [Nat.zero_add, Nat.mul_one, List.map_set]
  rw [this]
  exact hb'

end Go.Wx

/-
  Wx: more rules: slicing.
-/
namespace Go.Wx

/-! ### s[l:], s[:h], s[l:h] -/
section
variable {P : Program} {τ : Tau} (hτ : TauOk P τ) {T e sz bs : Nat} (hs : look τ.slcs T = some (e, sz, bs)) {w : World} {k : Value → World → Prop} {a : Option Addr} {len cap : Nat}
include hτ hs
theorem slc_elem : P.underlying T = some (.slice (P.elem T)) ∧ ∀ w, (sizeOf (P.elem T)).run P w = .ok sz w := by
  obtain ⟨hu, i, hi, hsz, _⟩ := hτ.slcs T e sz bs hs
  have he : P.elem T = e := by simp [Program.elem, hu]
  rw [he]
  exact ⟨hu, fun w => by simp [sizeOf, typeInfo, hi, hsz]⟩

theorem slcL {j : IntKind} {i : Int} (l : Nat) (hi : i = l) (hl : l ≤ len) (hk : k (sliced a l len cap sz) w) : EvRun P (Instr.sliceAt T (.slice a len cap) (some (.int j i)) none none) w k := by
  obtain ⟨hu, hz⟩ := slc_elem hτ hs
  subst hi
  refine run ?_ hk
  rw [run_sliceAt_slice w T _ _ _ _ hu, run_slice_l w T a len cap hu j l (by omega) (by omega), hz]
  simp
theorem slcH {j : IntKind} {i : Int} (h : Nat) (hi : i = h) (hl : h ≤ cap) (hk : k (sliced a 0 h cap sz) w) : EvRun P (Instr.sliceAt T (.slice a len cap) none (some (.int j i)) none) w k := by
  obtain ⟨hu, hz⟩ := slc_elem hτ hs
  subst hi
  refine run ?_ hk
  rw [run_sliceAt_slice w T _ _ _ _ hu, run_slice_h w T a len cap hu j h (by omega) (by omega), hz]
  simp
theorem slcLH {j j' : IntKind} {i i' : Int} (l h : Nat) (hi : i = l) (hi' : i' = h) (h1 : l ≤ h) (h2 : h ≤ cap) (hk : k (sliced a l h cap sz) w) : EvRun P (Instr.sliceAt T (.slice a len cap) (some (.int j i)) (some (.int j' i')) none) w k := by
  obtain ⟨hu, hz⟩ := slc_elem hτ hs
  subst hi hi'
  refine run ?_ hk
  rw [run_sliceAt_slice w T _ _ _ _ hu, run_slice_lh w T a len cap hu j j' l h (by omega) (by omega) (by omega), hz]
  simp
end

end Go.Wx

/-
  Wx: regions that draw their order AND turn memory: the orders are gone through, reads taken first.
-/
set_option linter.unusedSimpArgs false
set_option linter.unusedVariables false
namespace Go.Wx

def plainOp : Op → Bool
  | .move .. | .assign .. | .load .. | .fieldAddr .. | .indexAddr .. | .binOp .. | .unOp .. | .convert .. | .extract .. | .build .. | .pick .. | .field .. | .slice .. => true
  | _ => false

theorem plain_value {P : Program} {a : Act} {o : Oper} (hp : plainOp o.op = true) {w w' : World} {r : Next} (h : (execOp a.eval o).run P w = .ok r w') : ∃ v, r = .value v := by
  cases hop : o.op <;> rw [hop] at hp <;> simp only [plainOp, Bool.false_eq_true] at hp <;> simp only [execOp, hop, Sem.run_bind, Sem.run_pure] at h
  all_goals first
    | (injection h with h1 h2; exact ⟨_, h1.symm⟩)
    | (unfold Result.andThen at h; split at h <;> first | (injection h with h1 h2; exact ⟨_, h1.symm⟩) | cases h)
    | skip

/-- what is asked behind the region: no panic leaves it -/
def endQ (n : Nat) (K : Exit → St → World → Prop) : Exit → Act → World → Prop := fun e a w => e = .normal ∧ lift n K .normal a w

/-- whatever order is drawn from here on -/
@[irreducible] def EvAny (P : Program) (n : Nat) (S : World → Prop) (l : List Oper) (K : Exit → St → World → Prop) (fuel : Nat) (listed : Array Bool) (s : St) (w : World) : Prop :=
  ∀ a, Fr n a s → wpAnyH P .any l.toArray (endQ n K) S fuel listed a w

section
variable {P : Program} {τ : Tau} {n : Nat} {S : World → Prop} {l : List Oper} {K : Exit → St → World → Prop} {fuel : Nat} {listed : Array Bool} {s : St} {w : World}

theorem drawH {id : Nat} (hτ : TauOk P τ) (S : World → Prop) (h : EvAny P n S l K l.toArray.size (Array.replicate l.toArray.size false) s { w with drawn := w.drawn + 1 }) : EvCode P n (.region id l.toArray true) s w K := by
  unfold EvCode
  intro a hF
  unfold EvAny at h
  exact Go.wp_mono (wp_region_held hτ.mixed (h a hF)) fun e a' w' ⟨he, hl⟩ => by subst he; exact hl

/-- number i first: it only reads, and reads the same in every world of the class -/
theorem any_take (hτ : TauOk P τ) (i : Nat) {o : Oper} (hi : l[i]? = some o) (hp : plainOp o.op = true) (hs : Region.noSelect l.toArray = true) (hf : Region.free .any l.toArray listed i = true)
    (hr : (Region.ready .any l.toArray listed).contains i = true) (hS : S w) (h : wpQ P τ n S l (fun s' => EvAny P n S l K fuel (listed.setIfInBounds i true) s' w) [o] s) : EvAny P n S l K (fuel + 1) listed s w := by
  unfold EvAny
  intro a hF
  have h1 := wpQ_sound hτ (l := l) (C := S) (k := fun s' => EvAny P n S l K fuel (listed.setIfInBounds i true) s' w) (Q := fun a' => wpAnyH P .any l.toArray (endQ n K) S fuel (listed.setIfInBounds i true) a' w)
    (fun s' a' hF' hk => by unfold EvAny at hk; exact hk a' hF') [o] s a hF h
  have hi' : l.toArray[i]? = some o := by simpa using hi
  unfold wpQuiet at h1
  split at h1
  · rename_i hw
    obtain ⟨v, hv, hn⟩ := h1
    refine wpAnyH_take hi' hs hf hr (fun c a w hq => by cases hq.1) (.inl ⟨hw, fun w' hw' => ?_⟩) hS hn
    have := hv w' hw'
    unfold Oper.quietAt at this
    cases hrun : (execOp a.eval o).run P w' with
    | ok r w'' =>
      obtain ⟨u, rfl⟩ := plain_value hp hrun
      rw [hrun] at this
      obtain ⟨e1, e2⟩ := this
      rw [e1, e2]
    | halt x w'' => rw [hrun] at this; exact this.elim
  · rename_i hw
    refine wpAnyH_take hi' hs hf hr (fun c a w hq => by cases hq.1) (.inr ⟨by simpa using hw, rfl⟩) hS h1

theorem wpOp_of_list {ops : Array Oper} {Q : Exit → Act → World → Prop} {i : Nat} {o : Oper} {k : Act → World → Prop} {a : Act} (hi : ops[i]? = some o) (hnp : ∀ c a w, ¬ Q (.panic c) a w) (hno : ¬ LetsOut Q)
    (h : wpList P ops (fun e a' w' => e = .normal ∧ k a' w') [o] a w) : wpOp P ops Q i k a w := by
  unfold wpOp
  simp only [hi]
  unfold wpList at h
  split at h
  · rename_i hw
    rw [if_pos hw]
    rcases h with h | ⟨_, a', w', h, _⟩
    · left
      unfold Oper.wp at *
      generalize (execOp a.eval o).run P w = r at *
      cases r with
      | ok x w' =>
        cases x <;> simp only [Oper.upon, wpList] at h ⊢
        case value v => exact h.2
        case skip => exact h.2
        case defer d => exact h.2
        case enter f args =>
          refine Calls.mono h fun e w'' he => ?_
          cases e with
          | returned u => exact he.2
          | panicked c => cases he.1
          | outgrown => obtain ⟨_, _, he, _⟩ := he; cases he
        case row row args => exact Rows.mono h fun u w'' he => he.2
      | halt x w' =>
        cases x <;> simp only [Oper.upon] at h ⊢
        case panic v => cases h.1
    · cases h
  · rename_i hw
    rw [if_neg hw]
    exact h.2

theorem endQ_np (c : List PanicEntry) (a : Act) (w : World) : ¬ endQ n K (.panic c) a w := fun h => by cases h.1
theorem endQ_no : ¬ LetsOut (endQ n K) := fun ⟨_, _, h⟩ => by cases h.1

theorem any_step (hτ : TauOk P τ) {i : Nat} {o : Oper} (hi : l[i]? = some o) {a : Act} (hF : Fr n a s)
    (h : wpL P τ n l (fun s' w' => S w' ∧ EvAny P n S l K fuel (listed.setIfInBounds i true) s' w') (fun _ _ _ => False) [o] s w) :
    wpOp P l.toArray (endQ n K) i (fun a' w' => S w' ∧ wpAnyH P .any l.toArray (endQ n K) S fuel (listed.setIfInBounds i true) a' w') a w := by
  refine wpOp_of_list (o := o) (by simpa using hi) endQ_np endQ_no ?_
  exact wpL_sound hτ (l := l) (Q := fun e a' w' => e = .normal ∧ (S w' ∧ wpAnyH P .any l.toArray (endQ n K) S fuel (listed.setIfInBounds i true) a' w'))
    (fun s' w' a' hF' hk => ⟨rfl, hk.1, by have := hk.2; unfold EvAny at this; exact this a' hF'⟩) (fun _ _ _ _ _ hk => hk.elim) [o] s w a hF h

/-- one alone may come up -/
theorem any_one (hτ : TauOk P τ) (i : Nat) {o : Oper} (hi : l[i]? = some o) (hr : Region.ready .any l.toArray listed = [i])
    (h : wpL P τ n l (fun s' w' => S w' ∧ EvAny P n S l K fuel (listed.setIfInBounds i true) s' w') (fun _ _ _ => False) [o] s w) : EvAny P n S l K (fuel + 1) listed s w := by
  unfold EvAny
  intro a hF
  refine wpAnyH_all hr (by simp) fun j hj => ?_
  obtain rfl : j = i := by simpa using hj
  exact any_step hτ hi hF h

/-- one of two -/
theorem any_two (hτ : TauOk P τ) (i j : Nat) {o o' : Oper} (hi : l[i]? = some o) (hj : l[j]? = some o') (hr : Region.ready .any l.toArray listed = [i, j])
    (h1 : wpL P τ n l (fun s' w' => S w' ∧ EvAny P n S l K fuel (listed.setIfInBounds i true) s' w') (fun _ _ _ => False) [o] s w)
    (h2 : wpL P τ n l (fun s' w' => S w' ∧ EvAny P n S l K fuel (listed.setIfInBounds j true) s' w') (fun _ _ _ => False) [o'] s w) : EvAny P n S l K (fuel + 1) listed s w := by
  unfold EvAny
  intro a hF
  refine wpAnyH_all hr (by simp) fun m hm => ?_
  have : m = i ∨ m = j := by simpa using hm
  rcases this with rfl | rfl
  · exact any_step hτ hi hF h1
  · exact any_step hτ hj hF h2

theorem any_done (hr : Region.ready .any l.toArray listed = []) (h : K .normal s w) : EvAny P n S l K fuel listed s w := by
  unfold EvAny
  intro a hF
  exact wpAnyH_done hr ⟨rfl, s, hF, h⟩ fuel
end

theorem ldNK {w : World} {b o n : Nat} {k : Value → Prop} (cs : List Value) (hn : cs.length = n) (h : ∀ j v, cs[j]? = some v → Cl w.heap b (o + j) v) (hk : k (.agg cs.toArray)) : EvLdNQ (fun w' => Kp [] w w') ⟨b, o, none⟩ n k := by
  unfold EvLdNQ
  refine ⟨cs, hn, fun w' hw j v hj => ?_, hk⟩
  have := ((h j v hj).kp hw (by simp)).cell
  unfold Addr.add
  split
  · rename_i h0
    subst h0
    simpa using this
  · exact this

/-- all but these slots is forgotten -/
theorem any_weak {P : Program} {n : Nat} {S : World → Prop} {l : List Oper} {K : Exit → St → World → Prop} {fuel : Nat} {listed : Array Bool} {s : St} {w : World} (sl : List (Nat × Value)) (hs : Has s sl)
    (h : EvAny P n S l K fuel listed ⟨sl, s.d⟩ w) : EvAny P n S l K fuel listed s w := by
  unfold EvAny at *
  intro a hF
  exact h a ⟨hF.size, hF.defers, fun t v hv => hF.has t v (hs.get t v hv)⟩

theorem any_cast {P : Program} {n : Nat} {S : World → Prop} {l : List Oper} {K : Exit → St → World → Prop} {fuel fuel' : Nat} {listed : Array Bool} {s : St} {w : World} (listed' : Array Bool) (hl : listed = listed') (hf : fuel = fuel')
    (h : EvAny P n S l K fuel' listed' s w) : EvAny P n S l K fuel listed s w := by
  subst hl hf
  exact h

/-- where several orders meet -/
theorem any_fork {P : Program} {n : Nat} {S : World → Prop} {l : List Oper} {K : Exit → St → World → Prop} {fuel : Nat} {listed : Array Bool} {s : St} {w : World} (T : St → World → Prop) (fuel' : Nat) (listed' : Array Bool)
    (tail : ∀ s w, T s w → EvAny P n S l K fuel' listed' s w) (main : (∀ s w, T s w → EvAny P n S l K fuel' listed' s w) → EvAny P n S l K fuel listed s w) : EvAny P n S l K fuel listed s w := main tail

/-! ### append to a slice of one's own -/
theorem grown_kp {w w' : World} {row : Option Nat} (h : w.grownBy w' row) : Kp row.toList w w' :=
  ⟨h.os, h.tape, h.output, h.size, fun b hb hx => h.block b hb (fun e => hx (by simp [← e]))⟩

/-- what is one's own, as cells -/
theorem own_cells {w : World} {base e sz n : Nat} {v : Value} {xs : List Value} (h : w.ownsRow base e sz v n xs) :
    ∃ a cap, v = .slice a n cap ∧ xs.length = n * sz ∧ n ≤ cap ∧ (n = 0 ∨ ∃ g, a = some ⟨g, 0, none⟩ ∧ base ≤ g ∧ g < w.heap.size ∧ ∀ j u, xs[j]? = some u → Cl w.heap g j u) := by
  obtain ⟨h1, h2⟩ := h
  rcases h2 with ⟨rfl, rfl⟩ | ⟨g, cap, cur, rfl, hb, hg, hn, hm, hc, ht⟩
  · exact ⟨none, 0, rfl, h1, Nat.le_refl _, .inl rfl⟩
  · refine ⟨_, cap, rfl, h1, hn, .inr ⟨g, rfl, hb, (Array.getElem?_eq_some_iff.1 hg).1, fun j u hu => ⟨cur, e, _, hg, ?_⟩⟩⟩
    rw [← ht, List.getElem?_take] at hu
    split at hu
    · simpa using hu
    · cases hu

theorem own_bk {w : World} {b base e sz n : Nat} {cs : List Value} (h : Bk w.heap b cs e) (hb : base ≤ b) (hc : cs.length = n * sz) (hm : n ≤ maxLen) : w.ownsRow base e sz (.slice (some ⟨b, 0, none⟩) n n) n cs :=
  ⟨hc, .inr ⟨b, n, cs.toArray, rfl, hb, h, Nat.le_refl _, hm, by simpa using hc, by rw [← hc]; simp⟩⟩

theorem own_kp {w w' : World} {base e sz n : Nat} {v : Value} {xs : List Value} {X : List Nat} (h : w.ownsRow base e sz v n xs) (hk : Kp X w w') (hx : ∀ g, v.ownBlock = some g → g ∉ X) : w'.ownsRow base e sz v n xs := by
  obtain ⟨h1, h2⟩ := h
  refine ⟨h1, ?_⟩
  rcases h2 with h2 | ⟨g, cap, cur, rfl, hb, hg, rest⟩
  · exact .inl h2
  · refine .inr ⟨g, cap, cur, rfl, hb, ?_, rest⟩
    rw [hk.block g (Array.getElem?_eq_some_iff.1 hg).1 (hx g rfl)]
    exact hg

theorem append_none {P : Program} {w : World} {base size : Nat} (t ty e : TypeId) (i : TypeInfo) (ht : P.underlying t = some (.slice e)) (hi : P.info? e = some i)
    (v : Value) (n : Nat) (xs : List Value) (hown : w.ownsRow base e size v n xs) (c : Nat) : (Builtin.append_ #[t, t] ty #[v, .slice none 0 c]).run P w = .ok v w := by
  rcases hown.2 with ⟨rfl, rfl⟩ | ⟨g, cap, cur, rfl, _, _, hnc, _⟩
  · simp [Builtin.append_, run_underlying ht, sizeOf, typeInfo, hi, Builtin.lenOf, Builtin.firstCells]
  · simp [Builtin.append_, run_underlying ht, sizeOf, typeInfo, hi, Builtin.lenOf, Builtin.firstCells, hnc, storeCells]

theorem ap {P : Program} {τ : Tau} (hτ : TauOk P τ) {T e sz bs : Nat} (hs : look τ.slcs T = some (e, sz, bs)) {z : List Value} (hz : τ.zero e = some z) (hsz : 0 < sz) {w : World} {k : Value → World → Prop} {v : Value} {n m c ty : Nat} {xs : List Value} {a : Option Addr}
    (base : Nat) (hown : w.ownsRow base e sz v n xs) (news : List Value) (hl : news.length = m * sz) (hnews : m = 0 ∨ ∃ b o, a = some ⟨b, o, none⟩ ∧ ∀ j u, news[j]? = some u → Cl w.heap b (o + j) u)
    (h1 : ∀ u ∈ news, u.oneCell' = true) (hbytes : (n + m) * bs ≤ 140737488355328) (h63 : n + m ≤ maxLen) (hbase : base ≤ w.heap.size)
    (hk : ∀ v' w', w'.ownsRow base e sz v' (n + m) (xs ++ news) → Kp v.ownBlock.toList w w' → k v' w') : EvRun P (Builtin.append_ #[T, T] ty #[v, .slice a m c]) w k := by
  obtain ⟨hu, inf, hinf, hsize, hbs⟩ := hτ.slcs T e sz bs hs
  obtain ⟨inf', v0, hinf', hv, hc, hsz'⟩ := zero_ok hτ hz
  have : inf' = inf := by rw [hinf'] at hinf; simpa using hinf
  subst this
  have hzs : v0.cells.size = sz := by rw [hc, ← hsize, hsz']; simp
  have go : ∀ ad, a = some ad → (∀ j u, news[j]? = some u → w.cell? (ad.add j) = some u) → EvRun P (Builtin.append_ #[T, T] ty #[v, .slice a m c]) w k := fun ad ha hn => by
    subst ha
    obtain ⟨v', w', hr, ho, hg, _⟩ := run_append_own (P := P) w base T ty e inf' v0 sz bs hu hinf hv hsize hbs hzs hsz v n xs hown ad m c news hl hn h1 h63 hbytes hbase
    exact run hr (hk v' w' ho (grown_kp hg))
  rcases hnews with rfl | ⟨b, o, rfl, hn⟩
  · have hn0 : news = [] := List.eq_nil_of_length_eq_zero (by simpa using hl)
    subst hn0
    cases a with
    | some ad => exact go ad rfl (by simp)
    | none =>
      refine run (append_none T ty e inf' hu hinf v n xs hown c) (hk v w (by simpa using hown) (Kp.refl _ _))
  · refine go _ rfl fun j u hj => ?_
    rw [show (⟨b, o, none⟩ : Addr).add j = ⟨b, o + j, none⟩ by unfold Addr.add; split <;> simp_all]
    exact (hn j u hj).cell
end Go.Wx

