/-
  Own texts put together: WxK, WxU, NmA, CdA, Tau.
-/
import Derived.Test.YtbggaljmollhmaaGreatDoorMg03
import Derived.Lib.SliceRun
import Derived.Test.YtbggaljmollhmaaGreatDoorProg
import Derived.KernelRfl
/-
  Wx: rows of flat elements appended; small helps for rows of one's own (the same as in the Code texts).
-/
set_option linter.unusedSimpArgs false
set_option linter.unusedVariables false
namespace Go.Wx
/-- readings that look at no other cell -/
def Flat {α : Type} (R : Rd α) : Prop := ∀ (C C' : Mem) (cs : List Value) (x : α), R.den C cs x → R.den C' cs x

theorem flat8 : Flat rU8 := fun _ _ _ _ h => h

theorem flatI : Flat rInt := fun _ _ _ _ h => h

theorem flatB : Flat rBool := fun _ _ _ _ h => h

theorem cells_of {α : Type} {R : Rd α} {C : Mem} {b : Nat} : ∀ (l : List α) (o : Nat), (∀ i x, l[i]? = some x → R.At C b (o + i * R.sz) x) → ∃ css, All2 (R.den C) css l ∧ ∀ i x j u, css[i]? = some x → x[j]? = some u → C b (o + i * R.sz + j) u
  | [], o, h => ⟨[], trivial, fun i x j u hi => by simp at hi⟩
  | y :: r, o, h => by
    obtain ⟨cs, h1, h2⟩ := h 0 y rfl
    obtain ⟨css, h3, h4⟩ := cells_of r (o + R.sz) (fun i x hi => by
      have := h (i + 1) x (by simpa using hi)
      rwa [show o + (i + 1) * R.sz = o + R.sz + i * R.sz by rw [Nat.add_mul]; omega] at this)
    refine ⟨cs :: css, ⟨h1, h3⟩, fun i x j u hi hj => ?_⟩
    match i with
    | 0 =>
      simp at hi
      subst hi
      exact h2 j u hj
    | i + 1 =>
      have := h4 i x j u (by simpa using hi) hj
      rwa [show o + (i + 1) * R.sz + j = o + R.sz + i * R.sz + j by rw [Nat.add_mul]; omega]

theorem Own.apF {α : Type} {R : Rd α} {e lo : Nat} {w : World} {v : Value} {l : List α} {P : Program} {τ : Tau} (hτ : TauOk P τ) {T bs : Nat} (hs : look τ.slcs T = some (e, R.sz, bs)) {z : List Value} (hz : τ.zero e = some z) (hsz : 0 < R.sz) {k : Value → World → Prop} {c ty : Nat} {a : Option Addr}
    (h : Own R e lo w v l) (hf : Flat R) {C : Mem} (hS : Sub C w) (xs : List α) (hx : Sl R C a xs)
    (hbytes : (l.length + xs.length) * bs ≤ 140737488355328) (h63 : l.length + xs.length ≤ maxLen)
    (hk : ∀ v' w', Own R e lo w' v' (l ++ xs) → Kp v.ownBlock.toList w w' → (v'.ownBlock = v.ownBlock ∨ v'.ownBlock = some w.heap.size) → k v' w') : EvRun P (Builtin.append_ #[T, T] ty #[v, .slice a xs.length c]) w k := by
  rcases hx.2 with h0 | ⟨b, o, rfl, h2⟩
  · have : xs = [] := List.length_eq_zero_iff.1 h0
    subst this
    exact h.ap hτ hs hz hsz [] [] rfl trivial (.inl rfl) hbytes h63 hk
  · obtain ⟨css, h3, h4⟩ := cells_of xs o h2
    exact h.ap hτ hs hz hsz xs css rfl (h3.mono fun cs x hx => hf _ _ _ _ hx) (.inr ⟨b, o, rfl, fun i x j u hi hj => hS _ _ _ (h4 i x j u hi hj)⟩) hbytes h63 hk

theorem Own.cap {α : Type} {R : Rd α} {e lo : Nat} {w : World} {v : Value} {l : List α} (h : Own R e lo w v l) : ∃ a cap, v = .slice a l.length cap ∧ l.length ≤ cap := by
  obtain ⟨css, h1, _⟩ := h.row
  rcases h1.2 with ⟨rfl, h0⟩ | ⟨g', cap, cur, rfl, _, _, hn, _⟩
  · exact ⟨none, 0, by rw [h0], by omega⟩
  · exact ⟨_, cap, rfl, hn⟩

theorem Own.kpl {α : Type} {R : Rd α} {e lo : Nat} {w w' : World} {v : Value} {l : List α} {X : List Nat} (h : Own R e lo w v l) (k : Kp X w w') (hx : ∀ x ∈ X, x < lo) : Own R e lo w' v l := by
  have hb := h.block
  obtain ⟨⟨css, h1, h2⟩, h3⟩ := h
  refine ⟨⟨css, own_kp h1 k fun g hg hgx => ?_, h2.mono fun cs x hx' => R.mono (fun b o u hu => ⟨hu.1, hu.2.1, hu.2.2.kp k fun hb => ?_⟩) hx'⟩, Nat.le_trans h3 k.size⟩
  · have := hx g hgx; have := (hb g hg).1; omega
  · have := hx b hb; have := hu.1; omega

theorem Sub.lt {C : Mem} {w : World} (h : Sub C w) : ∀ b o v, C b o v → b < w.heap.size := fun b o v hc => (h b o v hc).lt

theorem resN {P : Program} {τ : Tau} (hτ : TauOk P τ) {T : Nat} {fs : List (Nat × Nat × Bool)} {z : List Nat} (hr : look τ.tab T = some (fs, z)) {b : Nat} {w : World} {K : Value → Prop} (cs : List Value) (hl : cs.length = z.length) (hc : ∀ j v, cs[j]? = some v → Cl w.heap b j v) (hk : K (.agg cs.toArray)) :
    EvRun P (loadVar T ⟨b, 0, none⟩) w fun v w' => w' = w ∧ K v := by
  obtain ⟨gs, hu, hfs, hinf, i, hi, hsz, hz⟩ := hτ.tab T fs z hr
  have := run_loadCells_list (P := P) (w := w) ⟨b, 0, none⟩ cs (fun j v hj => by rw [add_off, Nat.zero_add]; exact (hc j v hj).cell)
  rw [hl] at this
  refine run (v := .agg cs.toArray) (w' := w) ?_ ⟨rfl, hk⟩
  simp [loadVar, isAgg, run_underlying hu, sizeOf, typeInfo, hi, hsz, this]

theorem new_dn {w4 w5 w7 : World} {lo : Nat} {v : Value} {α : Type} {R : Rd α} {e : Nat} {l : List α} (hO : Own R e lo w4 v l) (k : Kp [] w5 w7) : ∀ b o u, New w4.heap.size w5 b o u → Dn lo v w7 b o u := fun b o u hu =>
  ⟨Nat.le_trans hO.low hu.1, fun e => by have := (hO.block b e.symm).2; have := hu.1; omega, hu.2.kp k (by simp)⟩

theorem Kp.ownX {α : Type} {R : Rd α} {e : Nat} {w0 w w' : World} {v : Value} {l : List α} {X : List Nat} (k0 : Kp X w0 w) (k : Kp v.ownBlock.toList w w') (h : Own R e w0.heap.size w v l) : Kp X w0 w' :=
  k0.trans k fun x hx hl => by
    have hx : v.ownBlock = some x := by simpa using hx
    have := (h.block x hx).1
    omega
theorem eqNil {P : Program} {τ : Tau} (hτ : TauOk P τ) {T e sz bs : Nat} (hs : look τ.slcs T = some (e, sz, bs)) {x y : Operand} {a : Option Addr} {n c : Nat} {w : World} {k : Value → World → Prop} (h : k (.bool a.isNone) w) :
    EvRun P (do eqGuard .eql T x y (.slice a n c) (.slice none 0 0); binOp .eql T (.slice a n c) (.slice none 0 0)) w k := by
  obtain ⟨hu, _⟩ := hτ.slcs T e sz bs hs
  refine run (v := .bool a.isNone) ?_ h
  rw [eqGuard_at_slice]
  simp only [Sem.run_bind, Sem.run_pure, Result.andThen_ok]
  exact Lib.run_eql_slice_nil w T e a n c 0 0 hu

theorem flat_set {α : Type} {k : Nat} : ∀ (css : List (List α)), (∀ cs ∈ css, cs.length = k) → ∀ (i j : Nat) (cs : List α) (u : α), css[i]? = some cs → j < k → (css.set i (cs.set j u)).flatten = css.flatten.set (i * k + j) u
  | [], _, i, j, cs, u, h1, _ => by simp at h1
  | c :: r, h, 0, j, cs, u, h1, h2 => by
    simp at h1
    subst h1
    have hc := h c (by simp)
    rw [List.set_cons_zero, List.flatten_cons, List.flatten_cons, Nat.zero_mul, Nat.zero_add, List.set_append_left _ _ (by omega)]
  | c :: r, h, i + 1, j, cs, u, h1, h2 => by
    have hc := h c (by simp)
    have := flat_set r (fun c hc => h c (by simp [hc])) i j cs u (by simpa using h1) h2
    rw [List.set_cons_succ, List.flatten_cons, List.flatten_cons, this, List.set_append_right _ _ (by rw [hc, Nat.add_mul]; omega)]
    rw [show (i + 1) * k + j - c.length = i * k + j by rw [hc, Nat.add_mul]; omega]

theorem All2.set {α β : Type} {p : β → α → Prop} {b : β} {a : α} (h0 : p b a) : ∀ {l : List β} {m : List α} {i : Nat}, All2 p l m → All2 p (l.set i b) (m.set i a)
  | [], [], _, _ => trivial
  | _ :: _, _ :: _, 0, h => ⟨h0, h.2⟩
  | _ :: _, _ :: _, i + 1, h => ⟨h.1, All2.set h0 h.2⟩
  | [], _ :: _, _, h => h.elim
  | _ :: _, [], _, h => h.elim

/-- a cell of an element of a row of one's own -/
theorem Own.st {α : Type} {R : Rd α} {e lo : Nat} {w : World} {v : Value} {l : List α} (h : Own R e lo w v l) {i j : Nat} {x y : α} (hi : l[i]? = some x) (hj : j < R.sz) {u : Value} (hu : u.oneCell' = true)
    (hy : ∀ cs, R.den (Dn lo v w) cs x → R.den (Dn lo v w) (cs.set j u) y) :
    ∃ g cap, v = .slice (some ⟨g, 0, none⟩) l.length cap ∧ lo ≤ g ∧
      ∀ {K : World → Prop}, (∀ w', Own R e lo w' v (l.set i y) → w'.heap.size = w.heap.size → Kp [g] w w' → K w') → EvSt w ⟨g, 0 + i * R.sz + j, none⟩ u K := by
  obtain ⟨⟨css, h1, h2⟩, h3⟩ := h
  have hil := get_lt hi
  have hlen := h2.length
  have hk : ∀ cs ∈ css, cs.length = R.sz := by
    intro cs hcs
    obtain ⟨i, hi⟩ := List.getElem?_of_mem hcs
    have hil := (List.getElem?_eq_some_iff.1 hi).1
    obtain ⟨cs', h4, h5⟩ := h2.get (i := i) (a := l[i]'(by omega)) (by simp)
    rw [hi] at h4
    obtain rfl := Option.some.inj h4
    exact R.len h5
  rcases h1 with ⟨hl1, ⟨rfl, h0⟩ | ⟨g, cap, cur, rfl, hb, hg, hn, hm, hc, ht⟩⟩
  · omega
  refine ⟨g, cap, rfl, hb, fun {K} hK => ?_⟩
  obtain ⟨cs, hcs, hden⟩ := h2.get hi
  have hB : Bk w.heap g cur.toList e := by unfold Bk; simpa using hg
  have hlt : i * R.sz + j < l.length * R.sz := by
    have : (i + 1) * R.sz ≤ l.length * R.sz := Nat.mul_le_mul_right _ (by omega)
    rw [Nat.add_mul] at this
    omega
  have hle : l.length * R.sz ≤ cap * R.sz := Nat.mul_le_mul_right _ hn
  rw [Nat.zero_add]
  refine Go.Wx.st hB (by simp; omega) hu fun w' hB' hs hkp => hK w' ?_ hs hkp
  refine ⟨⟨css.set i (cs.set j u), ⟨?_, .inr ⟨g, cap, (cur.toList.set (i * R.sz + j) u).toArray, by simp, hb, ?_, by simpa using hn, hm, by simp [hc], ?_⟩⟩, ?_⟩, by omega⟩
  · rw [flat_set css hk i j cs u hcs hj]
    simpa using hl1
  · simpa [Bk] using hB'
  · rw [flat_set css hk i j cs u hcs hj]
    simp only [List.length_set]
    rw [List.take_set, ht]
  · have step : ∀ b o u, Dn lo (.slice (some ⟨g, 0, none⟩) l.length cap) w b o u → Dn lo (.slice (some ⟨g, 0, none⟩) l.length cap) w' b o u := fun b o u hu => ⟨hu.1, hu.2.1, hu.2.2.kp hkp (by
      have h := hu.2.1
      simp [Value.ownBlock] at h
      simpa using h)⟩
    exact All2.set (R.mono step (hy cs hden)) (h2.mono fun cs x hx => R.mono step hx)
end Go.Wx

/-
  Wx: rows of unsigned numbers; bits of 32-bit numbers; a shorter part of a row of one's own.
-/
set_option linter.unusedSimpArgs false
set_option linter.unusedVariables false
namespace Go.Wx
def rNat (j : IntKind) (B : Nat) : Rd Nat where
  sz := 1
  den _ cs x := cs = [.int j (x : Int)] ∧ x < B
  len := by rintro _ cs x ⟨rfl, _⟩; rfl
  mono := by rintro _ _ cs x _ h; exact h
  one := by rintro _ cs x ⟨rfl, _⟩ u hu; simp at hu; subst hu; rfl
theorem flatN (j : IntKind) (B : Nat) : Flat (rNat j B) := fun _ _ _ _ h => h
theorem Sl.nat {j : IntKind} {B : Nat} {C : Mem} {a : Option Addr} {l : List Nat} (h : Sl (rNat j B) C a l) {i x : Nat} (hi : l[i]? = some x) : ∃ b o, a = some ⟨b, o, none⟩ ∧ C b (o + i * 1) (.int j (x : Int)) ∧ x < B := by
  obtain ⟨b, o, ha, hc⟩ := h.at (List.getElem?_eq_some_iff.1 hi).1
  obtain ⟨cs, ⟨rfl, h64⟩, h2⟩ := hc i x hi
  exact ⟨b, o, ha, h2 0 _ rfl, h64⟩
theorem Sl.dig {j : IntKind} {B : Nat} {C : Mem} {a : Option Addr} {l : List Nat} (h : Sl (rNat j B) C a l) : ∀ d ∈ l, d < B := fun d hd => by
  obtain ⟨i, hi⟩ := List.getElem?_of_mem hd
  obtain ⟨_, _, _, _, h⟩ := h.nat hi
  exact h
/-- a block of numbers -/
def RowN (j : IntKind) (h : Array Obj) (b : Nat) (l : List Nat) (T : TypeId) : Prop := Bk h b (l.map fun x : Nat => Value.int j (x : Int)) T
section
variable {j : IntKind} {T : TypeId} {b : Nat} {l : List Nat}
theorem RowN.cl {h : Array Obj} (hb : RowN j h b l T) {k : Nat} (hk : k < l.length) : Cl h b (0 + k * 1) (.int j (l.getD k 0 : Nat)) :=
  Bk.cl hb (by rw [Nat.zero_add, Nat.mul_one, List.getElem?_map, List.getD_eq_getElem?_getD, List.getElem?_eq_getElem hk]; rfl)
theorem RowN.kp {X : List Nat} {w w' : World} (hb : RowN j w.heap b l T) (h : Kp X w w') (hx : b ∉ X) : RowN j w'.heap b l T := Bk.kp hb h hx
theorem RowN.lt {h : Array Obj} (hb : RowN j h b l T) : b < h.size := Bk.lt hb
theorem stN' {w : World} {k x : Nat} {K : World → Prop} (hb : RowN j w.heap b l T) (hk : k < l.length)
    (h : ∀ w', RowN j w'.heap b (l.set k x) T → w'.heap.size = w.heap.size → Kp [b] w w' → K w') : EvSt w ⟨b, 0 + k * 1, none⟩ (.int j (x : Int)) K := by
  refine st hb (by simpa using hk) rfl fun w' hb' hs hkp => h w' ?_ hs hkp
  unfold RowN
  have : (l.set k x).map (fun x : Nat => Value.int j (x : Int)) = (l.map (fun x : Nat => Value.int j (x : Int))).set (0 + k * 1) (.int j (x : Int)) := by
    rw [Nat.zero_add, Nat.mul_one, List.map_set]
  rw [this]
  exact hb'
theorem RowN.sl {w : World} {B lo : Nat} (hb : RowN j w.heap b l T) (hd : ∀ d ∈ l, d < B) (hl : l.length ≤ 1099511627776) (hlo : lo ≤ b) : Sl (rNat j B) (New lo w) (some ⟨b, 0, none⟩) l := by
  refine ⟨hl, .inr ⟨b, 0, rfl, fun i x hx => ⟨[.int j (x : Int)], ⟨rfl, hd x (List.mem_of_getElem? hx)⟩, fun k v hk => ⟨hlo, ?_⟩⟩⟩⟩
  match k, hk with
  | 0, hk =>
    obtain rfl := Option.some.inj hk
    refine Bk.cu hb ?_
    show (l.map fun x : Nat => Value.int j (x : Int))[0 + i * 1 + 0]? = _
    rw [show 0 + i * 1 + 0 = i by omega, List.getElem?_map, hx]
    rfl
theorem RowN.rep {h : Array Obj} {n : Nat} (hb : Bk h b (rep [.int j 0] n) T) : RowN j h b (List.replicate n 0) T := by
  unfold RowN
  rw [List.map_replicate]
  rw [rep_one] at hb
  exact hb
theorem Sl.takeN {α : Type} {R : Rd α} {C : Mem} {a : Option Addr} {l : List α} (h : Sl R C a l) (k : Nat) : Sl R C a (l.take k) := by
  refine ⟨by have := h.1; simp; omega, ?_⟩
  rcases h.2 with h0 | ⟨b', o', e, hc⟩
  · left; rw [List.length_take]; omega
  · refine .inr ⟨b', o', e, fun i x hi => ?_⟩
    rw [List.getElem?_take] at hi
    split at hi
    · exact hc i x hi
    · cases hi
theorem Sl.dropN {α : Type} {R : Rd α} {C : Mem} {b o : Nat} {l : List α} (h : Sl R C (some ⟨b, o, none⟩) l) (k : Nat) : Sl R C (some ⟨b, o + k * R.sz, none⟩) (l.drop k) := by
  refine ⟨by have := h.1; rw [List.length_drop]; omega, ?_⟩
  rcases h.2 with h0 | ⟨b', o', e, hc⟩
  · left; rw [List.length_drop]; omega
  · have e := Option.some.inj e
    injection e with e1 e2
    subst e1 e2
    refine .inr ⟨_, _, rfl, fun i x hi => ?_⟩
    rw [List.getElem?_drop] at hi
    have := hc _ _ hi
    rwa [Nat.add_mul, ← Nat.add_assoc] at this
end

/-- copy into a row of numbers of one's own, from its beginning -/
theorem copyN {P : Program} {τ : Tau} (hτ : TauOk P τ) {T e bs : Nat} (hs : look τ.slcs T = some (e, 1, bs)) {ty g dl dc sl sc : Nat} {w : World} {k : Value → World → Prop} {j : IntKind} {l : List Nat} {C : Mem} {a : Option Addr} {B : Nat} (xs : List Nat) (hb : RowN j w.heap g l e) (hdl : dl = l.length) (hC : Sub C w)
    (hx : Sl (rNat j B) C a xs) (hsl : sl = xs.length)
    (h : ∀ w', RowN j w'.heap g (xs.take l.length ++ l.drop xs.length) e → w'.heap.size = w.heap.size → Kp [g] w w' → k (.int .i64 (min xs.length l.length : Nat)) w') : EvRun P (Builtin.copy_ #[T, T] ty #[.slice (some ⟨g, 0, none⟩) dl dc, .slice a sl sc]) w k := by
  obtain ⟨hu, inf, hinf, hsize, hbs⟩ := hτ.slcs T e 1 bs hs
  subst hdl hsl
  have hxl : (xs.take l.length).length = min xs.length l.length := by rw [List.length_take]; omega
  have hg : g < w.heap.size := RowN.lt hb
  cases a with
  | none =>
    have h0 : xs = [] := by
      rcases hx.2 with h | ⟨_, _, h, _⟩
      · exact List.length_eq_zero_iff.1 h
      · cases h
    subst h0
    refine run (v := .int .i64 0) (w' := w) ?_ (h w (by simpa using hb) rfl (Kp.refl _ _))
    cases hq : P.info? e with
    | none => rw [hq] at hinf; cases hinf
    | some i => simp [Builtin.copy_, run_underlying hu, Builtin.lenOf, Builtin.firstCells, sizeOf, typeInfo, hq, storeCells, goInt]
  | some ad =>
    have hsrc : ∀ (i : Nat) v, ((xs.take l.length).map fun x : Nat => Value.int j (x : Int))[i]? = some v → w.cell? (ad.add i) = some v := fun i v hi => by
      rw [List.getElem?_map] at hi
      cases hxi : (xs.take l.length)[i]? with
      | none => rw [hxi] at hi; cases hi
      | some x =>
        rw [hxi] at hi
        have hi : Value.int j (x : Int) = v := by simpa using hi
        subst hi
        rw [List.getElem?_take] at hxi
        split at hxi
        · obtain ⟨b, o, e1, hc, _⟩ := hx.nat hxi
          obtain rfl := Option.some.inj e1
          rw [add_off]
          have := (hC _ _ _ hc).cell
          rwa [Nat.mul_one] at this
        · cases hxi
    have hr := run_copy_row (P := P) w T T ty e g 0 l.length dc ad xs.length sc ((l.map fun x : Nat => Value.int j (x : Int)).toArray) e ((xs.take l.length).map fun x : Nat => Value.int j (x : Int)) hu (by simp [hinf, hsize]) hb (by rw [List.length_map, hxl]) hsrc (by simp; omega) (fun v hv => by obtain ⟨x, _, rfl⟩ := List.mem_map.1 hv; rfl)
    refine run hr ?_
    have e1 : goInt ((xs.take l.length).map fun x : Nat => Value.int j (x : Int)).length = .int .i64 (min xs.length l.length : Nat) := by rw [List.length_map, hxl]; rfl
    rw [e1]
    refine h _ ?_ (by simp [World.setRow]) ⟨rfl, rfl, rfl, by simp [World.setRow], fun i hi hx => ?_⟩
    · have hb' : w.heap[g]? = some (.cells (l.map fun x : Nat => Value.int j (x : Int)).toArray e (0, 0)) := hb
      unfold RowN Bk
      simp only [World.setRow, Array.getElem?_modify, if_true, hb']
      have e2 : min l.length xs.length + (l.length - xs.length) = l.length := by omega
      by_cases hle : xs.length ≤ l.length
      · simp [List.map_append, List.map_take, List.map_drop, Nat.min_eq_left hle, Nat.min_eq_right hle]
      · simp [List.map_append, List.map_take, List.map_drop, Nat.min_eq_left (Nat.le_of_not_le hle), List.drop_of_length_le (show l.length ≤ xs.length by omega)]
    · have hx : i ≠ g := by simpa using hx
      simp only [World.setRow, Array.getElem?_modify]
      rw [if_neg (fun e => hx e.symm)]
section
variable {P : Program} {k : Value → World → Prop} {kq : Value → Prop} {C : World → Prop} {t : TypeId} {w : World}
theorem wrap32 {x : Int} (h0 : 0 ≤ x) (h : x < 4294967296) : IntKind.wrap .u32 x = x := by
  simp only [IntKind.wrap, IntKind.bits, IntKind.signed]
  simp
  omega
theorem wrap32' (x : Int) : IntKind.wrap .u32 x = x % 4294967296 := by
  simp only [IntKind.wrap, IntKind.bits, IntKind.signed]
  simp
theorem and32_run {x y : Nat} (hx : x < 4294967296) (hy : y < 4294967296) (w : World) : (binOp .and t (.int .u32 (x : Int)) (.int .u32 (y : Int))).run P w = .ok (.int .u32 ((x &&& y : Nat) : Int)) w := by
  have h1 : (x &&& y) ≤ x := Nat.and_le_left
  have e : (BitVec.ofInt 32 (x : Int) &&& BitVec.ofInt 32 (y : Int)).toNat = x &&& y := by
    rw [BitVec.toNat_and]
    simp only [BitVec.ofInt_natCast, BitVec.toNat_ofNat]
    rw [Nat.mod_eq_of_lt (by omega), Nat.mod_eq_of_lt (by omega)]
  have := wrap32 (x := ((x &&& y : Nat) : Int)) (by omega) (by omega)
  simp only [binOp_and, Op.intBits, IntKind.bits, Sem.run_pure]
  exact congrArg (fun z => Result.ok z w) (congrArg _ ((congrArg (fun n : Nat => IntKind.wrap _ (n : Int)) e).trans this))
theorem or32_run {x y : Nat} (hx : x < 4294967296) (hy : y < 4294967296) (w : World) : (binOp .or t (.int .u32 (x : Int)) (.int .u32 (y : Int))).run P w = .ok (.int .u32 ((x ||| y : Nat) : Int)) w := by
  have h1 : (x ||| y) < 2 ^ 32 := Nat.or_lt_two_pow (by omega) (by omega)
  have e : (BitVec.ofInt 32 (x : Int) ||| BitVec.ofInt 32 (y : Int)).toNat = x ||| y := by
    rw [BitVec.toNat_or]
    simp only [BitVec.ofInt_natCast, BitVec.toNat_ofNat]
    rw [Nat.mod_eq_of_lt (by omega), Nat.mod_eq_of_lt (by omega)]
  have := wrap32 (x := ((x ||| y : Nat) : Int)) (by omega) (by omega)
  simp only [binOp_or, Op.intBits, IntKind.bits, Sem.run_pure]
  exact congrArg (fun z => Result.ok z w) (congrArg _ ((congrArg (fun n : Nat => IntKind.wrap _ (n : Int)) e).trans this))
theorem shr32_run {x n : Nat} {j : IntKind} (hn : n ≤ 32) (w : World) : (binOp .shr t (.int .u32 (x : Int)) (.int j (n : Int))).run P w = .ok (.int .u32 ((x / 2 ^ n : Nat) : Int)) w := by
  simp only [binOp_shr, Op.shift, IntKind.bits]
  rw [if_neg (by omega)]
  simp only [Int.toNat_natCast, Sem.run_pure]
  rw [Nat.min_eq_left hn, Int.fdiv_eq_ediv_of_nonneg _ (by exact Int.le_of_lt (Int.pow_pos (by omega)))]
  simp
theorem shl32_run {x n : Nat} {j : IntKind} (hn : n ≤ 32) (w : World) : (binOp .shl t (.int .u32 (x : Int)) (.int j (n : Int))).run P w = .ok (.int .u32 (((x * 2 ^ n) % 4294967296 : Nat) : Int)) w := by
  simp only [binOp_shl, Op.shift, IntKind.bits]
  rw [if_neg (by omega)]
  simp only [Int.toNat_natCast, Sem.run_pure]
  rw [Nat.min_eq_left hn]
  congr 2
/-- a 32-bit number, by a name -/
theorem u32n {r : Int} {k : Value → Prop} (z : Nat) (hz : z < 4294967296) (he : r = z) (hk : k (.int .u32 (z : Int))) : EvInt .u32 r k := by
  subst he
  exact intv _ (wrap32 (by omega) (by omega)) hk
/-- .. that wraps round -/
theorem u32m {r : Nat} {k : Value → Prop} (z : Nat) (hz : r % 4294967296 = z) (hk : k (.int .u32 (z : Int))) : EvInt .u32 (r : Int) k := by
  subst hz
  exact intv _ (by rw [wrap32']; omega) hk
theorem i64n {r : Int} {k : Value → Prop} (z : Int) (h1 : -9223372036854775808 ≤ z) (h2 : z ≤ 9223372036854775807) (he : r = z) (hk : k (.int .i64 z)) : EvInt .i64 r k := by
  subst he
  exact int64 h1 h2 hk
theorem and32 {x y : Nat} (z : Nat) (hx : x < 4294967296) (hy : y < 4294967296) (hz : x &&& y = z) (h : k (.int .u32 (z : Int)) w) : EvRun P (binOp .and t (.int .u32 (x : Int)) (.int .u32 (y : Int))) w k := by
  subst hz
  exact run (and32_run hx hy w) h
theorem or32 {x y : Nat} (z : Nat) (hx : x < 4294967296) (hy : y < 4294967296) (hz : x ||| y = z) (h : k (.int .u32 (z : Int)) w) : EvRun P (binOp .or t (.int .u32 (x : Int)) (.int .u32 (y : Int))) w k := by
  subst hz
  exact run (or32_run hx hy w) h
theorem shr32 {x n : Nat} {j : IntKind} (z : Nat) (hn : n ≤ 32) (hz : x / 2 ^ n = z) (h : k (.int .u32 (z : Int)) w) : EvRun P (binOp .shr t (.int .u32 (x : Int)) (.int j (n : Int))) w k := by
  subst hz
  exact run (shr32_run hn w) h
theorem shl32 {x n : Nat} {j : IntKind} (z : Nat) (hn : n ≤ 32) (hz : x * 2 ^ n % 4294967296 = z) (h : k (.int .u32 (z : Int)) w) : EvRun P (binOp .shl t (.int .u32 (x : Int)) (.int j (n : Int))) w k := by
  subst hz
  exact run (shl32_run hn w) h
end

theorem flat_take {α : Type} {sz : Nat} : ∀ {css : List (List α)} (k : Nat), (∀ cs ∈ css, cs.length = sz) → (css.take k).flatten = css.flatten.take (k * sz)
  | [], k, _ => by simp
  | c :: css, 0, _ => by simp
  | c :: css, k + 1, h => by
    have hc := h c (by simp)
    rw [List.take_succ_cons, List.flatten_cons, List.flatten_cons, flat_take k fun x hx => h x (by simp [hx]), show (k + 1) * sz = c.length + k * sz by rw [hc, Nat.add_mul]; omega, List.take_length_add_append]
theorem All2.take {α β : Type} {p : β → α → Prop} : ∀ {l : List β} {m : List α} (k : Nat), All2 p l m → All2 p (l.take k) (m.take k)
  | [], [], k, h => by simp [All2]
  | [], _ :: _, k, h => h.elim
  | _ :: _, [], k, h => h.elim
  | b :: l, a :: m, 0, h => trivial
  | b :: l, a :: m, k + 1, h => ⟨h.1, All2.take k h.2⟩
/-- the first k of a row of one's own -/
theorem Own.take {α : Type} {R : Rd α} {e lo : Nat} {w : World} {a : Option Addr} {n c k : Nat} {l : List α} (h : Own R e lo w (.slice a n c) l) (hk : k ≤ l.length) : Own R e lo w (.slice a k c) (l.take k) := by
  obtain ⟨⟨css, h1, h2⟩, h3⟩ := h
  have hlen := h2.length
  have hcs : ∀ cs ∈ css, cs.length = R.sz := by
    intro cs hcs
    obtain ⟨i, hi⟩ := List.getElem?_of_mem hcs
    have hil := (List.getElem?_eq_some_iff.1 hi).1
    obtain ⟨cs', h4, h5⟩ := h2.get (i := i) (a := l[i]'(by omega)) (by simp)
    rw [hi] at h4
    obtain rfl := Option.some.inj h4
    exact R.len h5
  have e1 : (css.take k).flatten = css.flatten.take (k * R.sz) := flat_take k hcs
  have hkl : (l.take k).length = k := by rw [List.length_take]; omega
  have hown : Value.ownBlock (.slice a k c) = Value.ownBlock (.slice a n c) := by cases a <;> rfl
  have hD : ∀ b o u, Dn lo (.slice a n c) w b o u → Dn lo (.slice a k c) w b o u := fun b o u hu => ⟨hu.1, by rw [hown]; exact hu.2.1, hu.2.2⟩
  refine ⟨⟨css.take k, ⟨?_, ?_⟩, (h2.take k).mono fun cs x hx => R.mono hD hx⟩, h3⟩
  · rw [e1, List.length_take, h1.1, hkl]
    have : k * R.sz ≤ l.length * R.sz := Nat.mul_le_mul_right _ hk
    omega
  · rcases h1.2 with ⟨hv, h0⟩ | ⟨g, cap, cur, hv, hb, hg, hn, hm, hc, ht⟩
    · injection hv with v1 v2 v3
      subst v1 v2 v3
      have : k = 0 := by omega
      subst this
      exact .inl ⟨rfl, by simp⟩
    · injection hv with v1 v2 v3
      subst v1 v2 v3
      refine .inr ⟨g, c, cur, by rw [hkl], hb, hg, by omega, hm, hc, ?_⟩
      rw [e1, ← ht, List.take_take, hkl, Nat.min_eq_left (Nat.mul_le_mul_right _ hk)]
end Go.Wx

/-
  Numbers by their digits, in plain Lean.
-/
set_option linter.unusedVariables false
set_option linter.unusedSimpArgs false
namespace Nm

/-- the value of digits of base B, the least first -/
def val (B : Nat) : List Nat → Nat
  | [] => 0
  | d :: r => d + B * val B r
/-- the digits of a number, none 0 at the end -/
def digs (B n : Nat) : List Nat := if h : n = 0 ∨ B < 2 then [] else n % B :: digs B (n / B)
termination_by n
decreasing_by exact Nat.div_lt_self (by omega) (by omega)
/-- without zeros at the end -/
def cut (l : List Nat) : List Nat := (l.reverse.dropWhile (· == 0)).reverse
def Dig (B : Nat) (l : List Nat) : Prop := ∀ d ∈ l, d < B

section
variable {B : Nat}
theorem digs_zero : digs B 0 = [] := by rw [digs]; simp
theorem digs_pos (hB : 2 ≤ B) {n : Nat} (h : n ≠ 0) : digs B n = n % B :: digs B (n / B) := by
  rw [digs]
  rw [dif_neg (by omega)]
theorem val_digs (hB : 2 ≤ B) (n : Nat) : val B (digs B n) = n := by
  induction n using Nat.strongRecOn with
  | _ n ih =>
    by_cases h : n = 0
    · subst h; rw [digs_zero]; rfl
    · rw [digs_pos hB h]
      simp only [val]
      rw [ih _ (Nat.div_lt_self (by omega) (by omega))]
      exact Nat.mod_add_div n B
theorem digs_dig (hB : 2 ≤ B) (n : Nat) : Dig B (digs B n) := by
  induction n using Nat.strongRecOn with
  | _ n ih =>
    by_cases h : n = 0
    · subst h; rw [digs_zero]; intro d hd; cases hd
    · rw [digs_pos hB h]
      intro d hd
      rcases List.mem_cons.1 hd with rfl | hd
      · exact Nat.mod_lt _ (by omega)
      · exact ih _ (Nat.div_lt_self (by omega) (by omega)) d hd
theorem val_append (l r : List Nat) : val B (l ++ r) = val B l + B ^ l.length * val B r := by
  induction l with
  | nil => simp [val]
  | cons d l ih =>
    simp only [List.cons_append, val, ih, List.length_cons, Nat.pow_succ]
    rw [Nat.mul_add, ← Nat.mul_assoc, Nat.mul_comm B (B ^ l.length)]
    omega
theorem val_lt {l : List Nat} (h : Dig B l) : val B l < B ^ l.length := by
  induction l with
  | nil => simp [val]
  | cons d l ih =>
    have h1 := h d (by simp)
    have h2 := ih fun x hx => h x (by simp [hx])
    simp only [val, List.length_cons, Nat.pow_succ]
    have : B * (val B l + 1) ≤ B * B ^ l.length := Nat.mul_le_mul_left B h2
    rw [Nat.mul_add, Nat.mul_comm B (B ^ l.length)] at this
    omega
theorem val_rep (k : Nat) : val B (List.replicate k 0) = 0 := by
  induction k with
  | zero => rfl
  | succ k ih => simp [List.replicate_succ, val, ih]
theorem val_zero (hB : 0 < B) : ∀ {l : List Nat}, val B l = 0 → ∀ d ∈ l, d = 0
  | [], _, d, hd => by cases hd
  | x :: l, h, d, hd => by
    simp only [val] at h
    have h1 : x = 0 := by omega
    have h2 : val B l = 0 := by
      have : B * val B l = 0 := by omega
      rcases Nat.mul_eq_zero.1 this with h | h
      · omega
      · exact h
    rcases List.mem_cons.1 hd with rfl | hd
    · exact h1
    · exact val_zero hB h2 d hd

theorem cut_append_zero (l : List Nat) : cut (l ++ [0]) = cut l := by unfold cut; rw [List.reverse_append]; rfl
theorem cut_append_pos (l : List Nat) {d : Nat} (h : d ≠ 0) : cut (l ++ [d]) = l ++ [d] := by simp [cut, List.dropWhile, h]
theorem cut_nil : cut [] = [] := rfl
theorem cut_rep (k : Nat) : cut (List.replicate k 0) = [] := by
  induction k with
  | zero => rfl
  | succ k ih => rw [List.replicate_succ', cut_append_zero, ih]
theorem cut_cons_pos {d : Nat} {l : List Nat} (h : cut l ≠ []) : cut (d :: l) = d :: cut l := by
  unfold cut at h ⊢
  rw [List.reverse_cons, List.dropWhile_append]
  split
  · rename_i h0
    exfalso
    apply h
    have : l.reverse.dropWhile (· == 0) = [] := by simpa using h0
    rw [this]; rfl
  · simp
theorem cut_cons_nil {d : Nat} {l : List Nat} (h : cut l = []) : cut (d :: l) = if d = 0 then [] else [d] := by
  unfold cut at h ⊢
  have h0 : l.reverse.dropWhile (· == 0) = [] := by simpa using h
  rw [List.reverse_cons, List.dropWhile_append, h0]
  by_cases hd : d = 0
  · simp [hd]
  · simp [hd]
theorem cut_nil_iff (hB : 0 < B) {l : List Nat} : cut l = [] ↔ val B l = 0 := by
  induction l with
  | nil => simp [cut_nil, val]
  | cons d l ih =>
    constructor
    · intro h
      by_cases hl : cut l = []
      · rw [cut_cons_nil hl] at h
        split at h
        · rename_i hd; subst hd; simp [val, ih.1 hl]
        · cases h
      · rw [cut_cons_pos hl] at h; cases h
    · intro h
      simp only [val] at h
      have hd : d = 0 := by omega
      have : B * val B l = 0 := by omega
      have hl : val B l = 0 := by
        rcases Nat.mul_eq_zero.1 this with h | h
        · omega
        · exact h
      rw [cut_cons_nil (ih.2 hl), if_pos hd]
/-- digits without zeros at the end are those of their value -/
theorem digs_val (hB : 2 ≤ B) {l : List Nat} (h : Dig B l) : digs B (val B l) = cut l := by
  induction l with
  | nil => simp [val, digs_zero, cut_nil]
  | cons d l ih =>
    have hd := h d (by simp)
    have hl : Dig B l := fun x hx => h x (by simp [hx])
    have ih := ih hl
    by_cases h0 : val B (d :: l) = 0
    · rw [h0, digs_zero, (cut_nil_iff (by omega)).2 h0]
    · rw [digs_pos hB h0]
      have e1 : (val B (d :: l)) % B = d := by
        simp only [val]; rw [Nat.add_mul_mod_self_left, Nat.mod_eq_of_lt hd]
      have e2 : (val B (d :: l)) / B = val B l := by
        simp only [val]; rw [Nat.add_mul_div_left _ _ (by omega), Nat.div_eq_of_lt hd, Nat.zero_add]
      rw [e1, e2, ih]
      by_cases hc : cut l = []
      · rw [cut_cons_nil hc, hc]
        have : val B l = 0 := (cut_nil_iff (by omega)).1 hc
        have hd0 : d ≠ 0 := fun e => h0 (by simp [val, e, this])
        rw [if_neg hd0]
      · rw [cut_cons_pos hc]
theorem val_cut (hB : 2 ≤ B) {l : List Nat} (h : Dig B l) : val B (cut l) = val B l := by rw [← digs_val hB h, val_digs hB]
theorem cut_digs (hB : 2 ≤ B) (n : Nat) : cut (digs B n) = digs B n := by rw [← digs_val hB (digs_dig hB n), val_digs hB]
theorem cut_pre (l : List Nat) : ∃ k, cut l = l.take k ∧ k = (cut l).length := by
  refine ⟨(cut l).length, ?_, rfl⟩
  have h : ∃ t, l = cut l ++ t := by
    refine ⟨(l.reverse.takeWhile (· == 0)).reverse, ?_⟩
    unfold cut
    rw [← List.reverse_append, List.takeWhile_append_dropWhile, List.reverse_reverse]
  obtain ⟨t, ht⟩ := h
  have e : (cut l ++ t).take (cut l).length = cut l := List.take_left
  rw [← ht] at e
  exact e.symm
theorem digs_len_le (hB : 2 ≤ B) {n k : Nat} (h : n < B ^ k) : (digs B n).length ≤ k := by
  induction k generalizing n with
  | zero =>
    have : n = 0 := by simpa using h
    subst this
    simp [digs_zero]
  | succ k ih =>
    by_cases h0 : n = 0
    · subst h0; simp [digs_zero]
    · rw [digs_pos hB h0, List.length_cons]
      have : n / B < B ^ k := by
        rw [Nat.div_lt_iff_lt_mul (by omega), ← Nat.pow_succ]; exact h
      have := ih this
      omega
theorem digs_len_ge (hB : 2 ≤ B) {n k : Nat} (h : B ^ k ≤ n) : k < (digs B n).length := by
  have h1 := val_lt (digs_dig hB n)
  rw [val_digs hB] at h1
  have h2 : B ^ k < B ^ (digs B n).length := Nat.lt_of_le_of_lt h h1
  exact (Nat.pow_lt_pow_iff_right (by omega)).1 h2
theorem digs_len_pow (hB : 2 ≤ B) {n : Nat} (h : n ≠ 0) : B ^ ((digs B n).length - 1) ≤ n := by
  induction n using Nat.strongRecOn with
  | _ n ih =>
    rw [digs_pos hB h, List.length_cons, Nat.add_sub_cancel]
    by_cases h0 : n / B = 0
    · rw [h0, digs_zero]; simp; omega
    · have := ih _ (Nat.div_lt_self (by omega) (by omega)) h0
      have hl : 0 < (digs B (n / B)).length := by rw [digs_pos hB h0]; simp
      have e : (digs B (n / B)).length = (digs B (n / B)).length - 1 + 1 := by omega
      rw [e, Nat.pow_succ]
      exact Nat.le_trans (Nat.mul_le_mul_right B this) (Nat.div_mul_le_self n B)
theorem digs_nil_iff (hB : 2 ≤ B) {n : Nat} : digs B n = [] ↔ n = 0 := by
  constructor
  · intro h
    by_cases h0 : n = 0
    · exact h0
    · rw [digs_pos hB h0] at h; cases h
  · rintro rfl; exact digs_zero
theorem digs_one (hB : 2 ≤ B) {n : Nat} (h0 : n ≠ 0) (h : n < B) : digs B n = [n] := by
  rw [digs_pos hB h0, Nat.mod_eq_of_lt h, Nat.div_eq_of_lt h, digs_zero]
/-- the product's digits -/
theorem mul_len (hB : 2 ≤ B) {a b : Nat} (ha : a ≠ 0) (hb : b ≠ 0) : (digs B a).length + (digs B b).length - 1 ≤ (digs B (a * b)).length := by
  have h1 := digs_len_pow hB ha
  have h2 := digs_len_pow hB hb
  have h3 := Nat.mul_le_mul h1 h2
  rw [← Nat.pow_add] at h3
  have h4 := digs_len_ge hB h3
  have := List.length_pos_iff.2 (fun e => ha ((digs_nil_iff hB).1 e))
  have := List.length_pos_iff.2 (fun e => hb ((digs_nil_iff hB).1 e))
  omega
theorem mul_len' (hB : 2 ≤ B) (a b : Nat) : (digs B (a * b)).length ≤ (digs B a).length + (digs B b).length := by
  refine digs_len_le hB ?_
  rw [Nat.pow_add]
  have h1 := val_lt (digs_dig hB a)
  have h2 := val_lt (digs_dig hB b)
  rw [val_digs hB] at h1 h2
  exact Nat.mul_lt_mul'' h1 h2
theorem add_len (hB : 2 ≤ B) (a b : Nat) : (digs B (a + b)).length ≤ max (digs B a).length (digs B b).length + 1 := by
  refine digs_len_le hB ?_
  have h1 := val_lt (digs_dig hB a)
  have h2 := val_lt (digs_dig hB b)
  rw [val_digs hB] at h1 h2
  have h3 : B ^ (digs B a).length ≤ B ^ max (digs B a).length (digs B b).length := Nat.pow_le_pow_right (by omega) (Nat.le_max_left _ _)
  have h4 : B ^ (digs B b).length ≤ B ^ max (digs B a).length (digs B b).length := Nat.pow_le_pow_right (by omega) (Nat.le_max_right _ _)
  rw [Nat.pow_succ]
  have : B ^ max (digs B a).length (digs B b).length * 2 ≤ B ^ max (digs B a).length (digs B b).length * B := Nat.mul_le_mul_left _ hB
  omega
theorem len_mono (hB : 2 ≤ B) {a b : Nat} (h : a ≤ b) : (digs B a).length ≤ (digs B b).length := by
  refine digs_len_le hB ?_
  have h2 := val_lt (digs_dig hB b)
  rw [val_digs hB] at h2
  omega

/-! ### step by step -/
theorem val_take_succ {l : List Nat} {i x : Nat} (h : l[i]? = some x) : val B (l.take (i + 1)) = val B (l.take i) + B ^ i * x := by
  rw [Go.Wx.take_get h, val_append]
  have := Go.Wx.get_lt h
  rw [List.length_take, Nat.min_eq_left (by omega)]
  simp [val]
theorem val_take_ge {l : List Nat} {i : Nat} (h : l.length ≤ i) : val B (l.take i) = val B l := by rw [List.take_of_length_le h]
/-- a digit, 0 behind the end -/
theorem val_take_getD {l : List Nat} (i : Nat) : val B (l.take (i + 1)) = val B (l.take i) + B ^ i * l.getD i 0 := by
  by_cases h : i < l.length
  · obtain ⟨x, hx, _⟩ := Go.Wx.drop_get h
    rw [val_take_succ hx]
    simp [List.getD, hx]
  · rw [val_take_ge (by omega), val_take_ge (by omega)]
    simp [List.getD, List.getElem?_eq_none (Nat.le_of_not_lt h)]
theorem val_set {l : List Nat} {i x : Nat} (h : i < l.length) : val B (l.set i x) + B ^ i * l.getD i 0 = val B l + B ^ i * x := by
  induction l generalizing i with
  | nil => cases h
  | cons d l ih =>
    cases i with
    | zero => simp [val]; omega
    | succ i =>
      simp only [List.set_cons_succ, val, List.getD_cons_succ, Nat.pow_succ]
      have := ih (i := i) (by simpa using h)
      have h2 := congrArg (B * ·) this
      simp only [Nat.mul_add] at h2
      rw [Nat.mul_comm (B ^ i) B, Nat.mul_assoc, Nat.mul_assoc]
      omega
theorem dig_getD {l : List Nat} (h : Dig B l) (hB : 0 < B) (i : Nat) : l.getD i 0 < B := by
  unfold List.getD
  cases hx : l[i]? with
  | none => exact hB
  | some x => exact h x (List.mem_of_getElem? hx)
theorem dig_take {l : List Nat} (h : Dig B l) (k : Nat) : Dig B (l.take k) := fun d hd => h d (List.mem_of_mem_take hd)
theorem dig_append {l r : List Nat} (h : Dig B l) (h' : Dig B r) : Dig B (l ++ r) := fun d hd => (List.mem_append.1 hd).elim (h d) (h' d)
theorem dig_one {d : Nat} (h : d < B) : Dig B [d] := fun x hx => by simp at hx; omega
theorem dig_set {l : List Nat} {i x : Nat} (h : Dig B l) (hx : x < B) : Dig B (l.set i x) := fun d hd => by
  rcases List.mem_or_eq_of_mem_set hd with hd | rfl
  · exact h d hd
  · exact hx
theorem dig_rep (hB : 0 < B) (k : Nat) : Dig B (List.replicate k 0) := fun d hd => by have := List.eq_of_mem_replicate hd; omega
theorem dig_cut {l : List Nat} (h : Dig B l) : Dig B (cut l) := by
  obtain ⟨k, hk, _⟩ := cut_pre l
  rw [hk]
  exact dig_take h k
end
end Nm

/-
  Code, in plain Lean: instructions, which code may be; how they read in memory.
-/
set_option linter.unusedVariables false
namespace Cd
open Go Go.Wx

structure Ins where
  op : Int
  a : Int
  b : Int
  to : List Int
structure Shp where
  params : Int
  kept : List (List Bool)
structure Fn where
  caps : Int
  code : List Ins
structure Cod where
  nat : Int
  shapes : List Shp
  funs : List Fn
  bodies : List (List Ins)
  main : List Ins

/-! ### how they read -/
def rIns : Rd Ins where
  sz := 4
  den C cs x := ∃ a cap, cs = [.int .i64 x.op, .int .i64 x.a, .int .i64 x.b, .slice a x.to.length cap] ∧ Sl rInt C a x.to ∧ I64 x.op ∧ I64 x.a ∧ I64 x.b
  len := by rintro C cs x ⟨a, cap, rfl, _⟩; rfl
  mono := by rintro C C' cs x hc ⟨a, cap, rfl, h, h'⟩; exact ⟨a, cap, rfl, h.mono hc, h'⟩
  one := by rintro C cs x ⟨a, cap, rfl, _⟩ u hu; simp at hu; rcases hu with rfl | rfl | rfl | rfl <;> rfl
def rShp : Rd Shp where
  sz := 2
  den C cs x := ∃ a cap, cs = [.int .i64 x.params, .slice a x.kept.length cap] ∧ Sl (rSl rBool) C a x.kept ∧ I64 x.params
  len := by rintro C cs x ⟨a, cap, rfl, _⟩; rfl
  mono := by rintro C C' cs x hc ⟨a, cap, rfl, h, h'⟩; exact ⟨a, cap, rfl, h.mono hc, h'⟩
  one := by rintro C cs x ⟨a, cap, rfl, _⟩ u hu; simp at hu; rcases hu with rfl | rfl <;> rfl
def rFn : Rd Fn where
  sz := 2
  den C cs x := ∃ a cap, cs = [.int .i64 x.caps, .slice a x.code.length cap] ∧ Sl rIns C a x.code ∧ I64 x.caps
  len := by rintro C cs x ⟨a, cap, rfl, _⟩; rfl
  mono := by rintro C C' cs x hc ⟨a, cap, rfl, h, h'⟩; exact ⟨a, cap, rfl, h.mono hc, h'⟩
  one := by rintro C cs x ⟨a, cap, rfl, _⟩ u hu; simp at hu; rcases hu with rfl | rfl <;> rfl
def rCod : Rd Cod where
  sz := 5
  den C cs x := ∃ a1 c1 a2 c2 a3 c3 a4 c4, cs = [.int .i64 x.nat, .slice a1 x.shapes.length c1, .slice a2 x.funs.length c2, .slice a3 x.bodies.length c3, .slice a4 x.main.length c4] ∧
    Sl rShp C a1 x.shapes ∧ Sl rFn C a2 x.funs ∧ Sl (rSl rIns) C a3 x.bodies ∧ Sl rIns C a4 x.main ∧ I64 x.nat
  len := by rintro C cs x ⟨a1, c1, a2, c2, a3, c3, a4, c4, rfl, _⟩; rfl
  mono := by
    rintro C C' cs x hc ⟨a1, c1, a2, c2, a3, c3, a4, c4, rfl, h1, h2, h3, h4, h'⟩
    exact ⟨a1, c1, a2, c2, a3, c3, a4, c4, rfl, h1.mono hc, h2.mono hc, h3.mono hc, h4.mono hc, h'⟩
  one := by rintro C cs x ⟨a1, c1, a2, c2, a3, c3, a4, c4, rfl, _⟩ u hu; simp at hu; rcases hu with rfl | rfl | rfl | rfl | rfl <;> rfl

section
variable {C : Mem} {a : Option Addr} {i : Nat}
theorem sl_ins {l : List Ins} (h : Sl rIns C a l) {x : Ins} (hi : l[i]? = some x) : ∃ b o, a = some ⟨b, o, none⟩ ∧ ∃ at' cap, Sl rInt C at' x.to ∧ I64 x.op ∧ I64 x.a ∧ I64 x.b ∧
    ∀ j v, [Value.int .i64 x.op, .int .i64 x.a, .int .i64 x.b, .slice at' x.to.length cap][j]? = some v → C b (o + i * 4 + j) v := by
  obtain ⟨b, o, ha, hc⟩ := h.at (get_lt hi)
  obtain ⟨cs, ⟨a', cap, rfl, h1, h2, h3, h4⟩, h5⟩ := hc i x hi
  exact ⟨b, o, ha, a', cap, h1, h2, h3, h4, h5⟩
theorem sl_shp {l : List Shp} (h : Sl rShp C a l) {x : Shp} (hi : l[i]? = some x) : ∃ b o, a = some ⟨b, o, none⟩ ∧ ∃ at' cap, Sl (rSl rBool) C at' x.kept ∧ I64 x.params ∧
    C b (o + i * 2) (.int .i64 x.params) ∧ C b (o + i * 2 + 1) (.slice at' x.kept.length cap) := by
  obtain ⟨b, o, ha, hc⟩ := h.at (get_lt hi)
  obtain ⟨cs, ⟨a', cap, rfl, h1, h2⟩, h5⟩ := hc i x hi
  exact ⟨b, o, ha, a', cap, h1, h2, h5 0 _ rfl, h5 1 _ rfl⟩
theorem sl_fn {l : List Fn} (h : Sl rFn C a l) {x : Fn} (hi : l[i]? = some x) : ∃ b o, a = some ⟨b, o, none⟩ ∧ ∃ at' cap, Sl rIns C at' x.code ∧ I64 x.caps ∧
    C b (o + i * 2) (.int .i64 x.caps) ∧ C b (o + i * 2 + 1) (.slice at' x.code.length cap) := by
  obtain ⟨b, o, ha, hc⟩ := h.at (get_lt hi)
  obtain ⟨cs, ⟨a', cap, rfl, h1, h2⟩, h5⟩ := hc i x hi
  exact ⟨b, o, ha, a', cap, h1, h2, h5 0 _ rfl, h5 1 _ rfl⟩
end

/-! ### which code may be -/
def inM (n low high : Int) : Bool := decide (low ≤ n) && decide (n ≤ high)
def Ins.zero (n : Ins) : Bool := decide (n.a = 0) && decide (n.b = 0)

def famM (c : Cod) (e : Int) : Bool := inM e 0 (c.shapes.length - 1) && decide (((c.bodies[e.toNat]?).getD []).length = 0)
def keptM (c : Cod) (e : Int) : List (List Bool) := ((c.shapes[e.toNat]?).map Shp.kept).getD []
def ctorM (c : Cod) (a args : Int) : Bool :=
  decide (0 ≤ a) && (famM c (a / 16) && (match (keptM c (a / 16))[(a % 16).toNat]? with
    | some k => decide ((k.length : Int) = args)
    | none => false))

/-- how much an instruction pops that goes on to the next one alone -/
def plainM (c : Cod) (n : Ins) (h : Int) : Option Int :=
  if n.op = 1 then (if n.zero then some 0 else none)
  else if n.op = 2 then (if inM n.a 0 1048576 && decide (n.b = 0) then some 0 else none)
  else if n.op = 3 then (if inM n.a 0 (h - 1) && decide (n.b = 0) then some 0 else none)
  else if n.op = 4 then (if inM n.a 0 (c.funs.length - 1) && decide (some n.b = (c.funs[n.a.toNat]?).map Fn.caps) then some n.b else none)
  else if n.op = 5 then (if n.zero then some 2 else none)
  else if n.op = 7 then (if inM n.a 0 (c.bodies.length - 1) && decide (0 < ((c.bodies[n.a.toNat]?).getD []).length) && decide (n.b = 0) then some 0 else none)
  else if n.op = 8 then (if ctorM c n.a n.b then some n.b else none)
  else if n.op = 10 then (if n.zero then some 1 else none)
  else if n.op = 12 then (if inM n.a 1 3 && decide (n.b = 0) then some 2 else none)
  else if n.op = 14 then (if decide (1 ≤ n.a) && decide (n.b = 0) then some (min n.a h + 1) else none)
  else none

def armsL : List (List Bool) → List Int → Int → Option (List (Int × Int))
  | [], _, _ => some []
  | k :: r, t :: m :: to, h => if m = k.length then (armsL r to h).map ((t, h - 1 + k.length) :: ·) else none
  | _ :: _, _, _ => none

def armsM (c : Cod) (n : Ins) (h : Int) : Option (List (Int × Int)) :=
  if famM c n.a && decide (n.a ≠ c.nat) && decide (1 ≤ n.b) && decide (n.b = (keptM c n.a).length) && decide ((n.to.length : Int) = 2 * n.b) then armsL (keptM c n.a) n.to h else none

/-- where an instruction goes on, and at which heights -/
def nextM (c : Cod) (i : Int) (n : Ins) (h fl : Int) : Option (List (Int × Int)) :=
  if n.op = 6 then (if n.zero && decide (n.to.length = 0) && decide (h - fl = 1) then some [] else none)
  else if n.op = 13 then (if n.zero && decide (n.to.length = 1) then some [(n.to.getD 0 0, h)] else none)
  else if n.op = 11 then (if n.zero && decide (n.to.length = 1) && decide (1 ≤ h - fl) then some [(n.to.getD 0 0, h - 1), (i + 1, h)] else none)
  else if n.op = 9 then (if 1 ≤ h - fl then armsM c n h else none)
  else match plainM c n h with
    | some p => if n.to.length = 0 ∧ p ≤ h - fl then some [(i + 1, h - p + 1)] else none
    | none => none

/-- one way on: heights that are not met are -1 -/
def goesM (len : Nat) (i : Int) (t : Int × Int) (s : List Int × Int) : Option (List Int × Int) :=
  if t.1 ≤ i ∨ (len : Int) ≤ t.1 then none
  else if s.1.getD t.1.toNat 0 = -1 then some (s.1.set t.1.toNat t.2, max s.2 t.2)
  else if s.1.getD t.1.toNat 0 = t.2 then some (s.1, max s.2 t.2)
  else none

def goM (len : Nat) (i : Int) : List (Int × Int) → List Int × Int → Option (List Int × Int)
  | [], s => some s
  | t :: r, s => (goesM len i t s).bind (goM len i r)

def oneM (c : Cod) (len : Nat) (fl : Int) (i : Nat) (n : Ins) (s : List Int × Int) : Option (List Int × Int) :=
  (nextM c i n (s.1.getD i 0) fl).bind fun l => goM len i l s

def blkM (c : Cod) (len : Nat) (fl : Int) : Nat → List Ins → List Int × Int → Option Int
  | _, [], s => some s.2
  | i, n :: r, s => if s.1.getD i 0 = -1 then none else (oneM c len fl i n s).bind (blkM c len fl (i + 1) r)

def blockM (c : Cod) (code : List Ins) (fl : Int) : Option Int :=
  if code.length = 0 then none else blkM c code.length fl 0 code (fl :: List.replicate (code.length - 1) (-1), fl)

/-! ### heights keep small -/
def Hb (fl : Int) (B : Int) (s : List Int × Int) : Prop := (∀ x ∈ s.1, x = -1 ∨ fl ≤ x ∧ x ≤ B) ∧ fl ≤ s.2 ∧ s.2 ≤ B

theorem getD_mem0 {l : List Int} {i : Nat} (h : i < l.length) : l.getD i 0 ∈ l := by
  rw [List.getD_eq_getElem?_getD, List.getElem?_eq_getElem h]
  simp
theorem goesM_len {len : Nat} {i : Int} {t : Int × Int} {s s' : List Int × Int} (h : goesM len i t s = some s') : s'.1.length = s.1.length := by
  unfold goesM at h
  split at h
  · cases h
  split at h
  · obtain rfl := Option.some.inj h; simp
  split at h
  · obtain rfl := Option.some.inj h; rfl
  · cases h
theorem goesM_hb {fl B : Int} {len : Nat} {i : Int} {t : Int × Int} {s s' : List Int × Int} (h : goesM len i t s = some s') (hs : Hb fl B s) (ht : fl ≤ t.2 ∧ t.2 ≤ B) : Hb fl B s' := by
  obtain ⟨h1, h2, h3⟩ := hs
  unfold goesM at h
  split at h
  · cases h
  split at h
  · obtain rfl := Option.some.inj h
    refine ⟨fun x hx => ?_, by simp only; omega, by simp only; omega⟩
    rcases List.mem_or_eq_of_mem_set hx with hx | rfl
    · exact h1 x hx
    · exact .inr ht
  split at h
  · obtain rfl := Option.some.inj h
    exact ⟨h1, by simp only; omega, by simp only; omega⟩
  · cases h
theorem goM_hb {fl B : Int} {len : Nat} {i : Int} : ∀ {l : List (Int × Int)} {s s' : List Int × Int}, goM len i l s = some s' → Hb fl B s → (∀ t ∈ l, fl ≤ t.2 ∧ t.2 ≤ B) → Hb fl B s' ∧ s'.1.length = s.1.length
  | [], s, s', h, hs, _ => by obtain rfl := Option.some.inj h; exact ⟨hs, rfl⟩
  | t :: r, s, s', h, hs, ht => by
    simp only [goM] at h
    cases h1 : goesM len i t s with
    | none => rw [h1] at h; cases h
    | some s1 =>
      rw [h1] at h
      obtain ⟨h2, h3⟩ := goM_hb (l := r) h (goesM_hb h1 hs (ht t (by simp))) fun t ht' => ht t (by simp [ht'])
      exact ⟨h2, h3.trans (goesM_len h1)⟩
theorem Hb.mono {fl B B' : Int} {s : List Int × Int} (h : Hb fl B s) (hB : B ≤ B') : Hb fl B' s :=
  ⟨fun x hx => by rcases h.1 x hx with h | h <;> omega, h.2.1, by have := h.2.2; omega⟩
theorem armsL_bd {h fl : Int} (hf : 1 ≤ h - fl) {M : Int} : ∀ {ks : List (List Bool)} {to : List Int} {l : List (Int × Int)}, armsL ks to h = some l → (∀ k ∈ ks, (k.length : Int) ≤ M) → ∀ t ∈ l, fl ≤ t.2 ∧ t.2 ≤ h + M
  | [], to, l, e, _, t, ht => by
    simp only [armsL] at e
    obtain rfl := Option.some.inj e; simp at ht
  | k :: r, [], l, e, _, t, ht => by simp [armsL] at e
  | k :: r, [_], l, e, _, t, ht => by simp [armsL] at e
  | k :: r, x :: m :: to, l, e, hM, t, ht => by
    simp only [armsL] at e
    split at e
    · cases h1 : armsL r to h with
      | none => rw [h1] at e; cases e
      | some l' =>
        rw [h1] at e
        obtain rfl := Option.some.inj e
        rcases List.mem_cons.1 ht with rfl | ht
        · have := hM k (by simp)
          simp only
          omega
        · exact armsL_bd hf h1 (fun k hk => hM k (by simp [hk])) t ht
    · cases e

/-- what is asked of code, for its heights to keep small -/
structure CodOk (c : Cod) : Prop where
  caps : ∀ f ∈ c.funs, 0 ≤ f.caps ∧ f.caps ≤ 255
  len : c.bodies.length = c.shapes.length
  kept : ∀ s ∈ c.shapes, ∀ k ∈ s.kept, k.length ≤ 1099511627776

theorem plainM_pos {c : Cod} (hc : CodOk c) {n : Ins} {h p : Int} (hh : 0 ≤ h) (e : plainM c n h = some p) : 0 ≤ p := by
  unfold plainM at e
  by_cases h1 : n.op = 1
  · rw [if_pos h1] at e
    split at e
    · obtain rfl := Option.some.inj e; omega
    · cases e
  rw [if_neg h1] at e
  by_cases h2 : n.op = 2
  · rw [if_pos h2] at e
    split at e
    · obtain rfl := Option.some.inj e; omega
    · cases e
  rw [if_neg h2] at e
  by_cases h3 : n.op = 3
  · rw [if_pos h3] at e
    split at e
    · obtain rfl := Option.some.inj e; omega
    · cases e
  rw [if_neg h3] at e
  by_cases h4 : n.op = 4
  · rw [if_pos h4] at e
    split at e
    · rename_i hb
      obtain rfl := Option.some.inj e
      simp only [Bool.and_eq_true, decide_eq_true_eq] at hb
      cases hf : c.funs[n.a.toNat]? with
      | none => rw [hf] at hb; simp at hb
      | some f =>
        rw [hf] at hb
        have := hc.caps f (List.mem_of_getElem? hf)
        have h2 := hb.2
        simp at h2
        omega
    · cases e
  rw [if_neg h4] at e
  by_cases h5 : n.op = 5
  · rw [if_pos h5] at e
    split at e
    · obtain rfl := Option.some.inj e; omega
    · cases e
  rw [if_neg h5] at e
  by_cases h7 : n.op = 7
  · rw [if_pos h7] at e
    split at e
    · obtain rfl := Option.some.inj e; omega
    · cases e
  rw [if_neg h7] at e
  by_cases h8 : n.op = 8
  · rw [if_pos h8] at e
    split at e
    · rename_i hb
      obtain rfl := Option.some.inj e
      simp only [ctorM, Bool.and_eq_true, decide_eq_true_eq] at hb
      have h2 := hb.2.2
      split at h2
      · simp at h2; omega
      · cases h2
    · cases e
  rw [if_neg h8] at e
  by_cases h10 : n.op = 10
  · rw [if_pos h10] at e
    split at e
    · obtain rfl := Option.some.inj e; omega
    · cases e
  rw [if_neg h10] at e
  by_cases h12 : n.op = 12
  · rw [if_pos h12] at e
    split at e
    · obtain rfl := Option.some.inj e; omega
    · cases e
  rw [if_neg h12] at e
  by_cases h14 : n.op = 14
  · rw [if_pos h14] at e
    split at e
    · rename_i hb
      obtain rfl := Option.some.inj e
      simp only [Bool.and_eq_true, decide_eq_true_eq] at hb
      omega
    · cases e
  rw [if_neg h14] at e
  cases e

theorem nextM_bd {c : Cod} (hc : CodOk c) {i : Int} {n : Ins} {h fl : Int} (hh : fl ≤ h) (hf : 0 ≤ fl) {l : List (Int × Int)} (e : nextM c i n h fl = some l) : ∀ t ∈ l, fl ≤ t.2 ∧ t.2 ≤ h + 1099511627776 := by
  unfold nextM at e
  split at e
  · split at e
    · obtain rfl := Option.some.inj e; simp
    · cases e
  split at e
  · split at e
    · obtain rfl := Option.some.inj e
      intro t ht
      simp at ht
      subst ht
      simp only
      omega
    · cases e
  split at e
  · split at e
    · rename_i hb
      simp only [Bool.and_eq_true, decide_eq_true_eq] at hb
      obtain rfl := Option.some.inj e
      intro t ht
      simp at ht
      rcases ht with rfl | rfl <;> simp only <;> omega
    · cases e
  split at e
  · split at e
    · rename_i hb
      unfold armsM at e
      split at e
      · refine armsL_bd hb e fun k hk => ?_
        unfold keptM at hk
        cases hs : c.shapes[n.a.toNat]? with
        | none => rw [hs] at hk; simp at hk
        | some s =>
          rw [hs] at hk
          have := hc.kept s (List.mem_of_getElem? hs) k (by simpa using hk)
          omega
      · cases e
    · cases e
  split at e
  · rename_i p hp
    split at e
    · have := plainM_pos hc (by omega) hp
      obtain rfl := Option.some.inj e
      intro t ht
      simp at ht
      subst ht
      simp only
      omega
    · cases e
  · cases e

end Cd

/-
  The seat's types, laid by program (tau.py) and checked by the kernel.
-/
namespace Go.Proofs.YtbggaljmollhmaaGreatDoor
open Go.Wx

def τ : Tau where
  tab := [(7, [(0, 1, false), (1, 1, false), (2, 1, false), (3, 1, false)], [0, 0, 1, 7]), (8, [(0, 1, false), (1, 1, false), (2, 1, false), (3, 1, false)], [0, 0, 1, 7]), (13, [(0, 1, false), (1, 1, false)], [9, 11]), (14, [(0, 1, false), (1, 1, false)], [9, 11]), (18, [(0, 1, false)], [3]), (19, [(0, 1, false)], [3]), (27, [(0, 1, false), (1, 1, false), (2, 1, false), (3, 1, false), (4, 1, false)], [0, 2, 2, 2, 2]), (28, [(0, 1, false), (1, 1, false), (2, 1, false), (3, 1, false), (4, 1, false)], [0, 2, 2, 2, 2]), (35, [(0, 1, false), (1, 1, false), (2, 1, false), (3, 1, false), (4, 1, false), (5, 1, false)], [0, 0, 2, 0, 0, 0]), (36, [(0, 1, false), (1, 1, false), (2, 1, false), (3, 1, false), (4, 1, false), (5, 1, false)], [0, 0, 2, 0, 0, 0]), (42, [(0, 1, false), (1, 1, false), (2, 1, false), (3, 1, false)], [0, 0, 0, 2]), (43, [(0, 1, false), (1, 1, false), (2, 1, false), (3, 1, false)], [0, 0, 0, 2]), (67, [(0, 1, false), (1, 1, false), (2, 1, false), (3, 1, false), (4, 1, false), (5, 1, false), (6, 6, true)], [3, 3, 0, 0, 2, 2, 0, 0, 2, 0, 0, 0]), (68, [(0, 1, false), (1, 1, false), (2, 1, false), (3, 1, false), (4, 1, false), (5, 1, false), (6, 6, true)], [3, 3, 0, 0, 2, 2, 0, 0, 2, 0, 0, 0]), (75, [(0, 1, false), (1, 1, false), (2, 1, false)], [2, 0, 0]), (76, [(0, 1, false), (1, 1, false), (2, 1, false)], [2, 0, 0]), (78, [(0, 5, true), (5, 1, false), (6, 1, false), (7, 1, false), (8, 1, false), (9, 6, true)], [0, 2, 2, 2, 2, 3, 0, 2, 2, 0, 0, 2, 0, 0, 0]), (79, [(0, 5, true), (5, 1, false), (6, 1, false), (7, 1, false), (8, 1, false), (9, 6, true)], [0, 2, 2, 2, 2, 3, 0, 2, 2, 0, 0, 2, 0, 0, 0]), (93, [(0, 1, false), (1, 1, false), (2, 1, false), (3, 1, false), (4, 1, false)], [2, 2, 2, 0, 2]), (94, [(0, 1, false), (1, 1, false), (2, 1, false), (3, 1, false), (4, 1, false)], [2, 2, 2, 0, 2]), (97, [(0, 1, false), (1, 1, false)], [0, 2]), (98, [(0, 1, false), (1, 1, false)], [0, 2]), (103, [(0, 1, false)], [3]), (104, [(0, 1, false)], [3]), (108, [(0, 1, false), (1, 1, false)], [0, 2]), (109, [(0, 1, false), (1, 1, false)], [0, 2]), (127, [(0, 1, false), (1, 1, false)], [2, 4]), (128, [(0, 1, false), (1, 1, false)], [2, 4]), (130, [(0, 1, false), (1, 2, true)], [0, 2, 4]), (131, [(0, 1, false), (1, 2, true)], [0, 2, 4]), (132, [(0, 1, false), (1, 1, false), (2, 1, false)], [2, 0, 0]), (133, [(0, 1, false), (1, 1, false), (2, 1, false)], [2, 0, 0]), (134, [(0, 1, false), (1, 1, false)], [0, 0]), (135, [(0, 1, false), (1, 1, false)], [0, 0]), (138, [(0, 1, false), (1, 1, false), (2, 1, false)], [0, 0, 0]), (139, [(0, 1, false), (1, 1, false), (2, 1, false)], [0, 0, 0]), (144, [(0, 1, false), (1, 1, false)], [0, 2]), (145, [(0, 1, false), (1, 1, false)], [0, 2]), (160, [(0, 1, false), (1, 1, false)], [0, 0]), (161, [(0, 1, false), (1, 1, false)], [0, 0]), (163, [(0, 1, false), (1, 1, false)], [2, 0]), (164, [(0, 1, false), (1, 1, false)], [2, 0]), (165, [(0, 2, true), (2, 1, false)], [2, 0, 0]), (166, [(0, 2, true), (2, 1, false)], [2, 0, 0]), (178, [(0, 1, false), (1, 1, false), (2, 1, false), (3, 1, false), (4, 1, false)], [3, 2, 0, 2, 0]), (179, [(0, 1, false), (1, 1, false), (2, 1, false), (3, 1, false), (4, 1, false)], [3, 2, 0, 2, 0]), (196, [(0, 1, false), (1, 1, false), (2, 1, false), (3, 1, false)], [0, 0, 0, 2]), (197, [(0, 1, false), (1, 1, false), (2, 1, false), (3, 1, false)], [0, 0, 0, 2]), (226, [(0, 1, false), (1, 2, true)], [3, 2, 4]), (227, [(0, 1, false), (1, 2, true)], [3, 2, 4]), (236, [(0, 3, true), (3, 1, false)], [0, 0, 0, 2]), (237, [(0, 3, true), (3, 1, false)], [0, 0, 0, 2]), (251, [(0, 1, false), (1, 1, false), (2, 1, false)], [0, 0, 0]), (252, [(0, 1, false), (1, 1, false), (2, 1, false)], [0, 0, 0]), (272, [(0, 1, false), (1, 1, false), (2, 1, false), (3, 1, false)], [3, 3, 3, 9]), (273, [(0, 1, false), (1, 1, false), (2, 1, false), (3, 1, false)], [3, 3, 3, 9]), (283, [(0, 1, false), (1, 1, false), (2, 1, false), (3, 1, false), (4, 1, false), (5, 1, false), (6, 1, false), (7, 1, false), (8, 1, false), (9, 1, false), (10, 1, false)], [11, 11, 6, 7, 7, 7, 7, 5, 3, 12, 12]), (284, [(0, 1, false), (1, 1, false), (2, 1, false), (3, 1, false), (4, 1, false), (5, 1, false), (6, 1, false), (7, 1, false), (8, 1, false), (9, 1, false), (10, 1, false)], [11, 11, 6, 7, 7, 7, 7, 5, 3, 12, 12])]
  ones := [(2, 0), (3, 0), (4, 1), (5, 7), (6, 7), (9, 9), (10, 9), (11, 9), (12, 11), (15, 3), (16, 3), (17, 3), (20, 8), (21, 12), (22, 2), (23, 2), (24, 2), (25, 2), (26, 2), (29, 2), (33, 0), (34, 2), (40, 6), (44, 2), (45, 2), (47, 11), (60, 3), (63, 3), (64, 3), (65, 2), (66, 2), (71, 3), (74, 3), (77, 2), (82, 6), (83, 11), (89, 2), (90, 2), (91, 2), (92, 2), (101, 3), (107, 2), (126, 4), (143, 2), (157, 2), (176, 3), (181, 3), (190, 2), (209, 3), (224, 3), (225, 3), (229, 6), (235, 2), (256, 2), (277, 7), (278, 7), (280, 3), (281, 12), (282, 12), (285, 3), (1, 5), (30, 5), (31, 5), (32, 5), (37, 5), (38, 5), (39, 5), (41, 5), (46, 5), (48, 5), (49, 5), (50, 5), (51, 5), (52, 5), (53, 5), (55, 5), (56, 5), (57, 5), (58, 5), (59, 5), (62, 5), (69, 5), (70, 5), (73, 5), (80, 5), (81, 5), (84, 5), (85, 5), (86, 5), (87, 5), (88, 5), (95, 5), (96, 5), (99, 5), (100, 5), (102, 5), (105, 5), (106, 5), (110, 5), (111, 5), (112, 5), (113, 5), (114, 5), (115, 5), (116, 5), (117, 5), (118, 5), (119, 5), (120, 5), (121, 5), (122, 5), (123, 5), (125, 5), (129, 5), (137, 5), (140, 5), (142, 5), (147, 5), (148, 5), (149, 5), (150, 5), (152, 5), (154, 5), (155, 5), (156, 5), (158, 5), (159, 5), (162, 5), (167, 5), (168, 5), (169, 5), (170, 5), (171, 5), (172, 5), (173, 5), (174, 5), (175, 5), (177, 5), (180, 5), (182, 5), (183, 5), (184, 5), (185, 5), (186, 5), (187, 5), (188, 5), (189, 5), (192, 5), (194, 5), (195, 5), (198, 5), (200, 5), (201, 5), (203, 5), (204, 5), (205, 5), (206, 5), (207, 5), (208, 5), (210, 5), (211, 5), (213, 5), (214, 5), (216, 5), (217, 5), (218, 5), (219, 5), (220, 5), (222, 5), (223, 5), (228, 5), (231, 5), (232, 5), (234, 5), (239, 5), (240, 5), (241, 5), (242, 5), (243, 5), (244, 5), (245, 5), (246, 5), (247, 5), (249, 5), (250, 5), (254, 5), (255, 5), (257, 5), (258, 5), (259, 5), (260, 5), (262, 5), (263, 5), (264, 5), (265, 5), (266, 5), (267, 5), (268, 5), (269, 5), (270, 5), (271, 5), (279, 5)]
  slcs := [(22, 109, 2, 32), (23, 98, 2, 32), (24, 26, 1, 24), (25, 43, 4, 48), (26, 43, 4, 48), (29, 3, 1, 8), (34, 5, 1, 1), (44, 40, 1, 4), (45, 40, 1, 4), (65, 82, 1, 4), (66, 133, 3, 40), (77, 76, 3, 40), (89, 91, 1, 24), (90, 139, 3, 24), (91, 139, 3, 24), (92, 161, 2, 16), (107, 157, 1, 24), (143, 197, 4, 48), (157, 4, 1, 1), (190, 193, 2, 16), (235, 237, 4, 48), (256, 45, 1, 24)]

theorem τok : TauOk Tryz.prog τ := tauCheck_ok (by kernel_rfl)

end Go.Proofs.YtbggaljmollhmaaGreatDoor

