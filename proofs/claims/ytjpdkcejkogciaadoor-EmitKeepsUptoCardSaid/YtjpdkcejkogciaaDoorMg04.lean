/-
  Own texts put together: WxK, TrA, CdA, Tau, CdB.
-/
import Derived.Test.YtjpdkcejkogciaaDoorMg03
import Derived.Lib.SliceRun
import Derived.Test.YtjpdkcejkogciaaDoorProg
import Derived.KernelRfl
/-
  Wx: rows of flat elements appended; small helps for rows of one's own (the same as in the Code texts).
-/
set_option linter.unusedSimpArgs false
set_option linter.unusedVariables false
namespace Go.Wx
/-- readings that look at no other cell -/
def Flat {α : Type} (R : Rd α) : Prop := ∀ (C C' : Mem) (cs : List Value) (x : α), R.den C cs x → R.den C' cs x

theorem flat8 : Flat rU8 := fun _ _ _ _ h => h

theorem flatI : Flat rInt := fun _ _ _ _ h => h

theorem flatB : Flat rBool := fun _ _ _ _ h => h

theorem cells_of {α : Type} {R : Rd α} {C : Mem} {b : Nat} : ∀ (l : List α) (o : Nat), (∀ i x, l[i]? = some x → R.At C b (o + i * R.sz) x) → ∃ css, All2 (R.den C) css l ∧ ∀ i x j u, css[i]? = some x → x[j]? = some u → C b (o + i * R.sz + j) u
  | [], o, h => ⟨[], trivial, fun i x j u hi => by simp at hi⟩
  | y :: r, o, h => by
    obtain ⟨cs, h1, h2⟩ := h 0 y rfl
    obtain ⟨css, h3, h4⟩ := cells_of r (o + R.sz) (fun i x hi => by
      have := h (i + 1) x (by simpa using hi)
      rwa [show o + (i + 1) * R.sz = o + R.sz + i * R.sz by rw [Nat.add_mul]; omega] at this)
    refine ⟨cs :: css, ⟨h1, h3⟩, fun i x j u hi hj => ?_⟩
    match i with
    | 0 =>
      simp at hi
      subst hi
      exact h2 j u hj
    | i + 1 =>
      have := h4 i x j u (by simpa using hi) hj
      rwa [show o + (i + 1) * R.sz + j = o + R.sz + i * R.sz + j by rw [Nat.add_mul]; omega]

theorem Own.apF {α : Type} {R : Rd α} {e lo : Nat} {w : World} {v : Value} {l : List α} {P : Program} {τ : Tau} (hτ : TauOk P τ) {T bs : Nat} (hs : look τ.slcs T = some (e, R.sz, bs)) {z : List Value} (hz : τ.zero e = some z) (hsz : 0 < R.sz) {k : Value → World → Prop} {c ty : Nat} {a : Option Addr}
    (h : Own R e lo w v l) (hf : Flat R) {C : Mem} (hS : Sub C w) (xs : List α) (hx : Sl R C a xs)
    (hbytes : (l.length + xs.length) * bs ≤ 140737488355328) (h63 : l.length + xs.length ≤ maxLen)
    (hk : ∀ v' w', Own R e lo w' v' (l ++ xs) → Kp v.ownBlock.toList w w' → (v'.ownBlock = v.ownBlock ∨ v'.ownBlock = some w.heap.size) → k v' w') : EvRun P (Builtin.append_ #[T, T] ty #[v, .slice a xs.length c]) w k := by
  rcases hx.2 with h0 | ⟨b, o, rfl, h2⟩
  · have : xs = [] := List.length_eq_zero_iff.1 h0
    subst this
    exact h.ap hτ hs hz hsz [] [] rfl trivial (.inl rfl) hbytes h63 hk
  · obtain ⟨css, h3, h4⟩ := cells_of xs o h2
    exact h.ap hτ hs hz hsz xs css rfl (h3.mono fun cs x hx => hf _ _ _ _ hx) (.inr ⟨b, o, rfl, fun i x j u hi hj => hS _ _ _ (h4 i x j u hi hj)⟩) hbytes h63 hk

theorem Own.cap {α : Type} {R : Rd α} {e lo : Nat} {w : World} {v : Value} {l : List α} (h : Own R e lo w v l) : ∃ a cap, v = .slice a l.length cap ∧ l.length ≤ cap := by
  obtain ⟨css, h1, _⟩ := h.row
  rcases h1.2 with ⟨rfl, h0⟩ | ⟨g', cap, cur, rfl, _, _, hn, _⟩
  · exact ⟨none, 0, by rw [h0], by omega⟩
  · exact ⟨_, cap, rfl, hn⟩

theorem Own.kpl {α : Type} {R : Rd α} {e lo : Nat} {w w' : World} {v : Value} {l : List α} {X : List Nat} (h : Own R e lo w v l) (k : Kp X w w') (hx : ∀ x ∈ X, x < lo) : Own R e lo w' v l := by
  have hb := h.block
  obtain ⟨⟨css, h1, h2⟩, h3⟩ := h
  refine ⟨⟨css, own_kp h1 k fun g hg hgx => ?_, h2.mono fun cs x hx' => R.mono (fun b o u hu => ⟨hu.1, hu.2.1, hu.2.2.kp k fun hb => ?_⟩) hx'⟩, Nat.le_trans h3 k.size⟩
  · have := hx g hgx; have := (hb g hg).1; omega
  · have := hx b hb; have := hu.1; omega

theorem Sub.lt {C : Mem} {w : World} (h : Sub C w) : ∀ b o v, C b o v → b < w.heap.size := fun b o v hc => (h b o v hc).lt

theorem resN {P : Program} {τ : Tau} (hτ : TauOk P τ) {T : Nat} {fs : List (Nat × Nat × Bool)} {z : List Nat} (hr : look τ.tab T = some (fs, z)) {b : Nat} {w : World} {K : Value → Prop} (cs : List Value) (hl : cs.length = z.length) (hc : ∀ j v, cs[j]? = some v → Cl w.heap b j v) (hk : K (.agg cs.toArray)) :
    EvRun P (loadVar T ⟨b, 0, none⟩) w fun v w' => w' = w ∧ K v := by
  obtain ⟨gs, hu, hfs, hinf, i, hi, hsz, hz⟩ := hτ.tab T fs z hr
  have := run_loadCells_list (P := P) (w := w) ⟨b, 0, none⟩ cs (fun j v hj => by rw [add_off, Nat.zero_add]; exact (hc j v hj).cell)
  rw [hl] at this
  refine run (v := .agg cs.toArray) (w' := w) ?_ ⟨rfl, hk⟩
  simp [loadVar, isAgg, run_underlying hu, sizeOf, typeInfo, hi, hsz, this]

theorem new_dn {w4 w5 w7 : World} {lo : Nat} {v : Value} {α : Type} {R : Rd α} {e : Nat} {l : List α} (hO : Own R e lo w4 v l) (k : Kp [] w5 w7) : ∀ b o u, New w4.heap.size w5 b o u → Dn lo v w7 b o u := fun b o u hu =>
  ⟨Nat.le_trans hO.low hu.1, fun e => by have := (hO.block b e.symm).2; have := hu.1; omega, hu.2.kp k (by simp)⟩

theorem Kp.ownX {α : Type} {R : Rd α} {e : Nat} {w0 w w' : World} {v : Value} {l : List α} {X : List Nat} (k0 : Kp X w0 w) (k : Kp v.ownBlock.toList w w') (h : Own R e w0.heap.size w v l) : Kp X w0 w' :=
  k0.trans k fun x hx hl => by
    have hx : v.ownBlock = some x := by simpa using hx
    have := (h.block x hx).1
    omega
theorem eqNil {P : Program} {τ : Tau} (hτ : TauOk P τ) {T e sz bs : Nat} (hs : look τ.slcs T = some (e, sz, bs)) {x y : Operand} {a : Option Addr} {n c : Nat} {w : World} {k : Value → World → Prop} (h : k (.bool a.isNone) w) :
    EvRun P (do eqGuard .eql T x y (.slice a n c) (.slice none 0 0); binOp .eql T (.slice a n c) (.slice none 0 0)) w k := by
  obtain ⟨hu, _⟩ := hτ.slcs T e sz bs hs
  refine run (v := .bool a.isNone) ?_ h
  rw [eqGuard_at_slice]
  simp only [Sem.run_bind, Sem.run_pure, Result.andThen_ok]
  exact Lib.run_eql_slice_nil w T e a n c 0 0 hu

theorem flat_set {α : Type} {k : Nat} : ∀ (css : List (List α)), (∀ cs ∈ css, cs.length = k) → ∀ (i j : Nat) (cs : List α) (u : α), css[i]? = some cs → j < k → (css.set i (cs.set j u)).flatten = css.flatten.set (i * k + j) u
  | [], _, i, j, cs, u, h1, _ => by simp at h1
  | c :: r, h, 0, j, cs, u, h1, h2 => by
    simp at h1
    subst h1
    have hc := h c (by simp)
    rw [List.set_cons_zero, List.flatten_cons, List.flatten_cons, Nat.zero_mul, Nat.zero_add, List.set_append_left _ _ (by omega)]
  | c :: r, h, i + 1, j, cs, u, h1, h2 => by
    have hc := h c (by simp)
    have := flat_set r (fun c hc => h c (by simp [hc])) i j cs u (by simpa using h1) h2
    rw [List.set_cons_succ, List.flatten_cons, List.flatten_cons, this, List.set_append_right _ _ (by rw [hc, Nat.add_mul]; omega)]
    rw [show (i + 1) * k + j - c.length = i * k + j by rw [hc, Nat.add_mul]; omega]

theorem All2.set {α β : Type} {p : β → α → Prop} {b : β} {a : α} (h0 : p b a) : ∀ {l : List β} {m : List α} {i : Nat}, All2 p l m → All2 p (l.set i b) (m.set i a)
  | [], [], _, _ => trivial
  | _ :: _, _ :: _, 0, h => ⟨h0, h.2⟩
  | _ :: _, _ :: _, i + 1, h => ⟨h.1, All2.set h0 h.2⟩
  | [], _ :: _, _, h => h.elim
  | _ :: _, [], _, h => h.elim

/-- a cell of an element of a row of one's own -/
theorem Own.st {α : Type} {R : Rd α} {e lo : Nat} {w : World} {v : Value} {l : List α} (h : Own R e lo w v l) {i j : Nat} {x y : α} (hi : l[i]? = some x) (hj : j < R.sz) {u : Value} (hu : u.oneCell' = true)
    (hy : ∀ cs, R.den (Dn lo v w) cs x → R.den (Dn lo v w) (cs.set j u) y) :
    ∃ g cap, v = .slice (some ⟨g, 0, none⟩) l.length cap ∧ lo ≤ g ∧
      ∀ {K : World → Prop}, (∀ w', Own R e lo w' v (l.set i y) → w'.heap.size = w.heap.size → Kp [g] w w' → K w') → EvSt w ⟨g, 0 + i * R.sz + j, none⟩ u K := by
  obtain ⟨⟨css, h1, h2⟩, h3⟩ := h
  have hil := get_lt hi
  have hlen := h2.length
  have hk : ∀ cs ∈ css, cs.length = R.sz := by
    intro cs hcs
    obtain ⟨i, hi⟩ := List.getElem?_of_mem hcs
    have hil := (List.getElem?_eq_some_iff.1 hi).1
    obtain ⟨cs', h4, h5⟩ := h2.get (i := i) (a := l[i]'(by omega)) (by simp)
    rw [hi] at h4
    obtain rfl := Option.some.inj h4
    exact R.len h5
  rcases h1 with ⟨hl1, ⟨rfl, h0⟩ | ⟨g, cap, cur, rfl, hb, hg, hn, hm, hc, ht⟩⟩
  · omega
  refine ⟨g, cap, rfl, hb, fun {K} hK => ?_⟩
  obtain ⟨cs, hcs, hden⟩ := h2.get hi
  have hB : Bk w.heap g cur.toList e := by unfold Bk; simpa using hg
  have hlt : i * R.sz + j < l.length * R.sz := by
    have : (i + 1) * R.sz ≤ l.length * R.sz := Nat.mul_le_mul_right _ (by omega)
    rw [Nat.add_mul] at this
    omega
  have hle : l.length * R.sz ≤ cap * R.sz := Nat.mul_le_mul_right _ hn
  rw [Nat.zero_add]
  refine Go.Wx.st hB (by simp; omega) hu fun w' hB' hs hkp => hK w' ?_ hs hkp
  refine ⟨⟨css.set i (cs.set j u), ⟨?_, .inr ⟨g, cap, (cur.toList.set (i * R.sz + j) u).toArray, by simp, hb, ?_, by simpa using hn, hm, by simp [hc], ?_⟩⟩, ?_⟩, by omega⟩
  · rw [flat_set css hk i j cs u hcs hj]
    simpa using hl1
  · simpa [Bk] using hB'
  · rw [flat_set css hk i j cs u hcs hj]
    simp only [List.length_set]
    rw [List.take_set, ht]
  · have step : ∀ b o u, Dn lo (.slice (some ⟨g, 0, none⟩) l.length cap) w b o u → Dn lo (.slice (some ⟨g, 0, none⟩) l.length cap) w' b o u := fun b o u hu => ⟨hu.1, hu.2.1, hu.2.2.kp hkp (by
      have h := hu.2.1
      simp [Value.ownBlock] at h
      simpa using h)⟩
    exact All2.set (R.mono step (hy cs hden)) (h2.mono fun cs x hx => R.mono step hx)
end Go.Wx

/-
  Rows of nodes and their trees, in plain Lean; how nodes read in memory.
-/
set_option linter.unusedVariables false
namespace Cd
open Go Go.Wx

structure Nd where
  op : Int
  a : Int
  b : Int
def rNd : Rd Nd where
  sz := 3
  den C cs x := cs = [.int .i64 x.op, .int .i64 x.a, .int .i64 x.b] ∧ I64 x.op ∧ I64 x.a ∧ I64 x.b
  len := by rintro C cs x ⟨rfl, _⟩; rfl
  mono := by rintro C C' cs x hc h; exact h
  one := by rintro C cs x ⟨rfl, _⟩ u hu; simp at hu; rcases hu with rfl | rfl | rfl <;> rfl
theorem sl_nd {C : Mem} {a : Option Addr} {l : List Nd} (h : Sl rNd C a l) {i : Nat} {x : Nd} (hi : l[i]? = some x) : ∃ b o, a = some ⟨b, o, none⟩ ∧ I64 x.op ∧ I64 x.a ∧ I64 x.b ∧
    ∀ j v, [Value.int .i64 x.op, .int .i64 x.a, .int .i64 x.b][j]? = some v → C b (o + i * 3 + j) v := by
  obtain ⟨b, o, ha, hc⟩ := h.at (get_lt hi)
  obtain ⟨cs, ⟨rfl, h2, h3, h4⟩, h5⟩ := hc i x hi
  exact ⟨b, o, ha, h2, h3, h4, h5⟩

/-- a slice whose length is no more than its capacity -/
def rSk {α : Type} (R : Rd α) : Rd (List α) where
  sz := 1
  den C cs l := ∃ a cap, cs = [.slice a l.length cap] ∧ l.length ≤ cap ∧ Sl R C a l
  len := by rintro C cs x ⟨a, cap, rfl, _⟩; rfl
  mono := by rintro C C' cs x hc ⟨a, cap, rfl, h', h⟩; exact ⟨a, cap, rfl, h', h.mono hc⟩
  one := by rintro C cs x ⟨a, cap, rfl, _⟩ u hu; simp at hu; subst hu; rfl
theorem _root_.Go.Wx.Sl.sk {α : Type} {R : Rd α} {C : Mem} {a : Option Addr} {l : List (List α)} (h : Sl (rSk R) C a l) {i : Nat} {x : List α} (hi : l[i]? = some x) :
    ∃ b o, a = some ⟨b, o, none⟩ ∧ ∃ a' cap, C b (o + i * 1) (.slice a' x.length cap) ∧ x.length ≤ cap ∧ Sl R C a' x := by
  obtain ⟨b, o, ha, hc⟩ := h.at (get_lt hi)
  obtain ⟨cs, ⟨a', cap, rfl, hl, hs⟩, h2⟩ := hc i x hi
  exact ⟨b, o, ha, a', cap, h2 0 _ rfl, hl, hs⟩
theorem _root_.Go.Wx.Sl.of_sk {α : Type} {R : Rd α} {C : Mem} {a : Option Addr} {l : List (List α)} (h : Sl (rSk R) C a l) : Sl (rSl R) C a l := by
  refine ⟨h.1, ?_⟩
  rcases h.2 with h0 | ⟨b, o, h1, h2⟩
  · exact .inl h0
  · refine .inr ⟨b, o, h1, fun i x hx => ?_⟩
    obtain ⟨cs, ⟨a', cap, rfl, hl, hs⟩, h3⟩ := h2 i x hx
    exact ⟨_, ⟨a', cap, rfl, hs⟩, h3⟩
/-- what a slice of a slice reads as: from l on -/
theorem _root_.Go.Wx.Sl.from {α : Type} {R : Rd α} {C : Mem} {a : Option Addr} {l : List α} (h : Sl R C a l) {cap : Nat} (hc : l.length ≤ cap) (k : Nat) (hk : k ≤ l.length) :
    ∃ a', sliced a k l.length cap R.sz = .slice a' (l.drop k).length (cap - k) ∧ Sl R C a' (l.drop k) := by
  rcases h.2 with h0 | ⟨b, o, rfl, h2⟩
  · have : l = [] := List.length_eq_zero_iff.1 h0
    subst this
    refine ⟨_, by simp only [sliced, List.drop_nil, List.length_nil, Nat.zero_sub]; rfl, ?_⟩
    rw [List.drop_nil]
    exact Sl.nil _ _ _
  · by_cases he : cap = k
    · have e0 : l.drop k = [] := List.drop_eq_nil_of_le (by omega)
      refine ⟨_, by simp only [sliced, List.length_drop]; rfl, ?_⟩
      rw [e0]
      exact Sl.nil _ _ _
    · refine ⟨some ⟨b, o + k * R.sz, none⟩, ?_, by have := h.1; rw [List.length_drop]; omega, .inr ⟨b, o + k * R.sz, rfl, fun i x hi => ?_⟩⟩
      · rw [List.length_drop]
        exact sliced_lo (by omega)
      · rw [List.getElem?_drop] at hi
        have := h2 _ _ hi
        rwa [Nat.add_mul, ← Nat.add_assoc] at this

theorem runLdN {C : World → Prop} {b o n : Nat} {k : Value → Prop} (cs : List Value) (hn : cs.length = n) (h : ∀ w, C w → ∀ j v, cs[j]? = some v → Cl w.heap b (o + j) v) (hk : k (.agg cs.toArray)) : EvLdNQ C ⟨b, o, none⟩ n k := by
  unfold EvLdNQ
  refine ⟨cs, hn, fun w' hw j v hj => ?_, hk⟩
  have := (h w' hw j v hj).cell
  unfold Addr.add
  split
  · rename_i h0
    subst h0
    simpa using this
  · exact this

inductive Tr where
  | mk (n : Nd) (ks : List Tr)
def Tr.n : Tr → Nd
  | .mk n _ => n
def Tr.ks : Tr → List Tr
  | .mk _ ks => ks

mutual
def row : Tr → List Nd
  | .mk n ks => n :: rows ks
def rows : List Tr → List Nd
  | [] => []
  | x :: r => row x ++ rows r
end
theorem row_pos (x : Tr) : 0 < (row x).length := by
  cases x
  simp [row]
theorem rows_app : ∀ (l m : List Tr), rows (l ++ m) = rows l ++ rows m
  | [], m => rfl
  | x :: r, m => by simp [rows, rows_app r m]

/-! ### reading: 'σ' is what is known around a node; 'cnt' tells how many kids it has, 'nx' what is known around its k-th kid -/
section
variable {σ : Type} (cnt : σ → Nd → Option Nat) (nx : σ → Nd → Nat → σ)

def kidsL (p : σ → List Nd → Option (Tr × List Nd)) (g : Nat → σ) : Nat → Nat → List Nd → Option (List Tr × List Nd)
  | _, 0, r => some ([], r)
  | k, c + 1, r => match p (g k) r with
    | none => none
    | some (x, r') => match kidsL p g (k + 1) c r' with
      | none => none
      | some (xs, r'') => some (x :: xs, r'')

def parse : Nat → σ → List Nd → Option (Tr × List Nd)
  | 0, _, _ => none
  | _ + 1, _, [] => none
  | f + 1, s, n :: r => match cnt s n with
    | none => none
    | some c => match kidsL (parse f) (nx s n) 0 c r with
      | none => none
      | some (ks, r') => some (.mk n ks, r')

mutual
def okT : Tr → σ → Prop
  | .mk n ks, s => cnt s n = some ks.length ∧ okL ks n s 0
def okL : List Tr → Nd → σ → Nat → Prop
  | [], _, _, _ => True
  | x :: r, n, s, k => okT x (nx s n k) ∧ okL r n s (k + 1)
end

variable {cnt nx}
theorem kidsL_some {p : σ → List Nd → Option (Tr × List Nd)} {n : Nd} {s : σ} (hp : ∀ s t x r, p s t = some (x, r) → t = row x ++ r ∧ okT cnt nx x s) : ∀ (c k : Nat) (t : List Nd) (ks : List Tr) (r : List Nd), kidsL p (nx s n) k c t = some (ks, r) → t = rows ks ++ r ∧ ks.length = c ∧ okL cnt nx ks n s k
  | 0, k, t, ks, r, h => by
    simp only [kidsL, Option.some.injEq, Prod.mk.injEq] at h
    obtain ⟨rfl, rfl⟩ := h
    exact ⟨rfl, rfl, trivial⟩
  | c + 1, k, t, ks, r, h => by
    simp only [kidsL] at h
    split at h
    · cases h
    rename_i x r' hx
    split at h
    · cases h
    rename_i xs r'' hxs
    simp only [Option.some.injEq, Prod.mk.injEq] at h
    obtain ⟨rfl, rfl⟩ := h
    obtain ⟨h1, h2⟩ := hp _ _ _ _ hx
    obtain ⟨h3, h4, h5⟩ := kidsL_some hp c (k + 1) r' xs r'' hxs
    exact ⟨by rw [h1, h3]; simp [rows], by simp [h4], h2, h5⟩
theorem parse_some : ∀ (f : Nat) (s : σ) (t : List Nd) (x : Tr) (r : List Nd), parse cnt nx f s t = some (x, r) → t = row x ++ r ∧ okT cnt nx x s
  | 0, s, t, x, r, h => by simp [parse] at h
  | f + 1, s, [], x, r, h => by simp [parse] at h
  | f + 1, s, n :: t, x, r, h => by
    simp only [parse] at h
    split at h
    · cases h
    rename_i c hc
    split at h
    · cases h
    rename_i ks r' hk
    simp only [Option.some.injEq, Prod.mk.injEq] at h
    obtain ⟨rfl, rfl⟩ := h
    obtain ⟨h1, h2, h3⟩ := kidsL_some (parse_some f) c 0 t ks r' hk
    exact ⟨by rw [h1]; simp [row], by rw [hc, h2], h3⟩

mutual
theorem parse_of : ∀ (x : Tr) (f : Nat) (s : σ) (r : List Nd), (row x).length ≤ f → okT cnt nx x s → parse cnt nx f s (row x ++ r) = some (x, r)
  | .mk n ks, 0, s, r, hf, _ => by simp [row] at hf
  | .mk n ks, f + 1, s, r, hf, h => by
    obtain ⟨h1, h2⟩ := h
    have := kidsL_of ks f n s 0 r (by simpa [row] using hf) h2
    simp only [row, List.cons_append, parse, h1, this]
theorem kidsL_of : ∀ (ks : List Tr) (f : Nat) (n : Nd) (s : σ) (k : Nat) (r : List Nd), (rows ks).length ≤ f → okL cnt nx ks n s k → kidsL (parse cnt nx f) (nx s n) k ks.length (rows ks ++ r) = some (ks, r)
  | [], f, n, s, k, r, _, _ => rfl
  | x :: l, f, n, s, k, r, hf, h => by
    obtain ⟨h1, h2⟩ := h
    simp only [rows, List.length_append] at hf
    have e1 := parse_of x f (nx s n k) (rows l ++ r) (by omega) h1
    have e2 := kidsL_of l f n s (k + 1) r (by omega) h2
    simp only [rows, List.append_assoc, List.length_cons, kidsL, e1, e2]
end

/-- how much of a row was read -/
theorem parse_len {f : Nat} {s : σ} {t : List Nd} {x : Tr} {r : List Nd} (h : parse cnt nx f s t = some (x, r)) : t.length = (row x).length + r.length := by
  rw [(parse_some f s t x r h).1, List.length_append]

theorem parse_fuel {f g : Nat} {s : σ} {t : List Nd} (hf : t.length ≤ f) (hg : t.length ≤ g) : parse cnt nx f s t = parse cnt nx g s t := by
  cases h : parse cnt nx f s t with
  | some p =>
    obtain ⟨x, r⟩ := p
    obtain ⟨h1, h2⟩ := parse_some _ _ _ _ _ h
    subst h1
    exact (parse_of x g s r (by simp at hg; omega) h2).symm
  | none =>
    cases h' : parse cnt nx g s t with
    | none => rfl
    | some p =>
      obtain ⟨x, r⟩ := p
      obtain ⟨h1, h2⟩ := parse_some _ _ _ _ _ h'
      subst h1
      rw [parse_of x f s r (by simp at hf; omega) h2] at h
      cases h

theorem kidsL_step (p : σ → List Nd → Option (Tr × List Nd)) (g : Nat → σ) (k c : Nat) (r : List Nd) : (kidsL p g k (c + 1) r).map Prod.snd = match p (g k) r with
    | none => none
    | some (_, r') => (kidsL p g (k + 1) c r').map Prod.snd := by
  simp only [kidsL]
  cases h : p (g k) r with
  | none => rfl
  | some q =>
    obtain ⟨x, r'⟩ := q
    simp only
    cases h' : kidsL p g (k + 1) c r' with
    | none => rfl
    | some q' => rfl
theorem parse_step (f : Nat) (s : σ) (n : Nd) (t : List Nd) : (parse cnt nx (f + 1) s (n :: t)).map Prod.snd = match cnt s n with
    | none => none
    | some c => (kidsL (parse cnt nx f) (nx s n) 0 c t).map Prod.snd := by
  simp only [parse]
  cases cnt s n with
  | none => rfl
  | some c =>
    simp only
    cases kidsL (parse cnt nx f) (nx s n) 0 c t with
    | none => rfl
    | some q => rfl
theorem parse_at {f : Nat} {s : σ} {t : List Nd} {a : Nat} (ha : a ≤ t.length) {x : Tr} {r : List Nd} (h : parse cnt nx f s (t.drop a) = some (x, r)) : r = t.drop (t.length - r.length) ∧ a < t.length - r.length ∧ r.length ≤ t.length ∧ (row x).length = t.length - r.length - a := by
  obtain ⟨h1, _⟩ := parse_some _ _ _ _ _ h
  have hl := parse_len h
  have hp := row_pos x
  rw [List.length_drop] at hl
  refine ⟨?_, by omega, by omega, by omega⟩
  have e : t.length - r.length = a + (row x).length := by omega
  rw [e, ← List.drop_drop, h1, List.drop_left]

/-- the tree of a whole row -/
def treeOf (s : σ) (t : List Nd) : Option Tr := match parse cnt nx t.length s t with
  | some (x, []) => some x
  | _ => none
theorem treeOf_some {s : σ} {t : List Nd} {x : Tr} (h : treeOf (cnt := cnt) (nx := nx) s t = some x) : t = row x ∧ okT cnt nx x s := by
  unfold treeOf at h
  split at h
  · rename_i y hy
    obtain rfl := Option.some.inj h
    obtain ⟨h1, h2⟩ := parse_some _ _ _ _ _ hy
    exact ⟨by rw [h1]; simp, h2⟩
  · cases h
theorem treeOf_of {s : σ} {x : Tr} (h : okT cnt nx x s) : treeOf (cnt := cnt) (nx := nx) s (row x) = some x := by
  unfold treeOf
  have := parse_of x (row x).length s [] (Nat.le_refl _) h
  rw [List.append_nil] at this
  rw [this]
end

/-! ### a row is longer than its tree is deep, and has at least as many nodes as kids -/
mutual
def tsize : Tr → Nat
  | .mk _ ks => 1 + tsizes ks
def tsizes : List Tr → Nat
  | [] => 0
  | x :: r => tsize x + tsizes r
end
mutual
theorem row_len : ∀ x : Tr, (row x).length = tsize x
  | .mk n ks => by rw [row, tsize, List.length_cons, rows_len ks]; omega
theorem rows_len : ∀ l : List Tr, (rows l).length = tsizes l
  | [] => rfl
  | x :: r => by rw [rows, tsizes, List.length_append, row_len x, rows_len r]
end
theorem tsize_pos (x : Tr) : 0 < tsize x := by
  cases x
  simp only [tsize]
  omega
theorem tsizes_len : ∀ l : List Tr, l.length ≤ tsizes l
  | [] => Nat.le_refl _
  | x :: r => by
    have := tsizes_len r
    have := tsize_pos x
    simp only [tsizes, List.length_cons]
    omega
end Cd

/-
  Code, in plain Lean: instructions, which code may be; how they read in memory.
-/
set_option linter.unusedVariables false
namespace Cd
open Go Go.Wx

structure Ins where
  op : Int
  a : Int
  b : Int
  to : List Int
structure Shp where
  params : Int
  kept : List (List Bool)
structure Fn where
  caps : Int
  code : List Ins
structure Cod where
  nat : Int
  shapes : List Shp
  funs : List Fn
  bodies : List (List Ins)
  main : List Ins

/-! ### how they read -/
def rIns : Rd Ins where
  sz := 4
  den C cs x := ∃ a cap, cs = [.int .i64 x.op, .int .i64 x.a, .int .i64 x.b, .slice a x.to.length cap] ∧ Sl rInt C a x.to ∧ I64 x.op ∧ I64 x.a ∧ I64 x.b
  len := by rintro C cs x ⟨a, cap, rfl, _⟩; rfl
  mono := by rintro C C' cs x hc ⟨a, cap, rfl, h, h'⟩; exact ⟨a, cap, rfl, h.mono hc, h'⟩
  one := by rintro C cs x ⟨a, cap, rfl, _⟩ u hu; simp at hu; rcases hu with rfl | rfl | rfl | rfl <;> rfl
def rShp : Rd Shp where
  sz := 2
  den C cs x := ∃ a cap, cs = [.int .i64 x.params, .slice a x.kept.length cap] ∧ Sl (rSl rBool) C a x.kept ∧ I64 x.params
  len := by rintro C cs x ⟨a, cap, rfl, _⟩; rfl
  mono := by rintro C C' cs x hc ⟨a, cap, rfl, h, h'⟩; exact ⟨a, cap, rfl, h.mono hc, h'⟩
  one := by rintro C cs x ⟨a, cap, rfl, _⟩ u hu; simp at hu; rcases hu with rfl | rfl <;> rfl
def rFn : Rd Fn where
  sz := 2
  den C cs x := ∃ a cap, cs = [.int .i64 x.caps, .slice a x.code.length cap] ∧ Sl rIns C a x.code ∧ I64 x.caps
  len := by rintro C cs x ⟨a, cap, rfl, _⟩; rfl
  mono := by rintro C C' cs x hc ⟨a, cap, rfl, h, h'⟩; exact ⟨a, cap, rfl, h.mono hc, h'⟩
  one := by rintro C cs x ⟨a, cap, rfl, _⟩ u hu; simp at hu; rcases hu with rfl | rfl <;> rfl
def rCod : Rd Cod where
  sz := 5
  den C cs x := ∃ a1 c1 a2 c2 a3 c3 a4 c4, cs = [.int .i64 x.nat, .slice a1 x.shapes.length c1, .slice a2 x.funs.length c2, .slice a3 x.bodies.length c3, .slice a4 x.main.length c4] ∧
    Sl rShp C a1 x.shapes ∧ Sl rFn C a2 x.funs ∧ Sl (rSl rIns) C a3 x.bodies ∧ Sl rIns C a4 x.main ∧ I64 x.nat
  len := by rintro C cs x ⟨a1, c1, a2, c2, a3, c3, a4, c4, rfl, _⟩; rfl
  mono := by
    rintro C C' cs x hc ⟨a1, c1, a2, c2, a3, c3, a4, c4, rfl, h1, h2, h3, h4, h'⟩
    exact ⟨a1, c1, a2, c2, a3, c3, a4, c4, rfl, h1.mono hc, h2.mono hc, h3.mono hc, h4.mono hc, h'⟩
  one := by rintro C cs x ⟨a1, c1, a2, c2, a3, c3, a4, c4, rfl, _⟩ u hu; simp at hu; rcases hu with rfl | rfl | rfl | rfl | rfl <;> rfl

section
variable {C : Mem} {a : Option Addr} {i : Nat}
theorem sl_ins {l : List Ins} (h : Sl rIns C a l) {x : Ins} (hi : l[i]? = some x) : ∃ b o, a = some ⟨b, o, none⟩ ∧ ∃ at' cap, Sl rInt C at' x.to ∧ I64 x.op ∧ I64 x.a ∧ I64 x.b ∧
    ∀ j v, [Value.int .i64 x.op, .int .i64 x.a, .int .i64 x.b, .slice at' x.to.length cap][j]? = some v → C b (o + i * 4 + j) v := by
  obtain ⟨b, o, ha, hc⟩ := h.at (get_lt hi)
  obtain ⟨cs, ⟨a', cap, rfl, h1, h2, h3, h4⟩, h5⟩ := hc i x hi
  exact ⟨b, o, ha, a', cap, h1, h2, h3, h4, h5⟩
theorem sl_shp {l : List Shp} (h : Sl rShp C a l) {x : Shp} (hi : l[i]? = some x) : ∃ b o, a = some ⟨b, o, none⟩ ∧ ∃ at' cap, Sl (rSl rBool) C at' x.kept ∧ I64 x.params ∧
    C b (o + i * 2) (.int .i64 x.params) ∧ C b (o + i * 2 + 1) (.slice at' x.kept.length cap) := by
  obtain ⟨b, o, ha, hc⟩ := h.at (get_lt hi)
  obtain ⟨cs, ⟨a', cap, rfl, h1, h2⟩, h5⟩ := hc i x hi
  exact ⟨b, o, ha, a', cap, h1, h2, h5 0 _ rfl, h5 1 _ rfl⟩
theorem sl_fn {l : List Fn} (h : Sl rFn C a l) {x : Fn} (hi : l[i]? = some x) : ∃ b o, a = some ⟨b, o, none⟩ ∧ ∃ at' cap, Sl rIns C at' x.code ∧ I64 x.caps ∧
    C b (o + i * 2) (.int .i64 x.caps) ∧ C b (o + i * 2 + 1) (.slice at' x.code.length cap) := by
  obtain ⟨b, o, ha, hc⟩ := h.at (get_lt hi)
  obtain ⟨cs, ⟨a', cap, rfl, h1, h2⟩, h5⟩ := hc i x hi
  exact ⟨b, o, ha, a', cap, h1, h2, h5 0 _ rfl, h5 1 _ rfl⟩
end

/-! ### which code may be -/
def inM (n low high : Int) : Bool := decide (low ≤ n) && decide (n ≤ high)
def Ins.zero (n : Ins) : Bool := decide (n.a = 0) && decide (n.b = 0)

def famM (c : Cod) (e : Int) : Bool := inM e 0 (c.shapes.length - 1) && decide (((c.bodies[e.toNat]?).getD []).length = 0)
def keptM (c : Cod) (e : Int) : List (List Bool) := ((c.shapes[e.toNat]?).map Shp.kept).getD []
def ctorM (c : Cod) (a args : Int) : Bool :=
  decide (0 ≤ a) && (famM c (a / 16) && (match (keptM c (a / 16))[(a % 16).toNat]? with
    | some k => decide ((k.length : Int) = args)
    | none => false))

/-- how much an instruction pops that goes on to the next one alone -/
def plainM (c : Cod) (n : Ins) (h : Int) : Option Int :=
  if n.op = 1 then (if n.zero then some 0 else none)
  else if n.op = 2 then (if inM n.a 0 1048576 && decide (n.b = 0) then some 0 else none)
  else if n.op = 3 then (if inM n.a 0 (h - 1) && decide (n.b = 0) then some 0 else none)
  else if n.op = 4 then (if inM n.a 0 (c.funs.length - 1) && decide (some n.b = (c.funs[n.a.toNat]?).map Fn.caps) then some n.b else none)
  else if n.op = 5 then (if n.zero then some 2 else none)
  else if n.op = 7 then (if inM n.a 0 (c.bodies.length - 1) && decide (0 < ((c.bodies[n.a.toNat]?).getD []).length) && decide (n.b = 0) then some 0 else none)
  else if n.op = 8 then (if ctorM c n.a n.b then some n.b else none)
  else if n.op = 10 then (if n.zero then some 1 else none)
  else if n.op = 12 then (if inM n.a 1 3 && decide (n.b = 0) then some 2 else none)
  else if n.op = 14 then (if decide (1 ≤ n.a) && decide (n.b = 0) then some (min n.a h + 1) else none)
  else none

def armsL : List (List Bool) → List Int → Int → Option (List (Int × Int))
  | [], _, _ => some []
  | k :: r, t :: m :: to, h => if m = k.length then (armsL r to h).map ((t, h - 1 + k.length) :: ·) else none
  | _ :: _, _, _ => none

def armsM (c : Cod) (n : Ins) (h : Int) : Option (List (Int × Int)) :=
  if famM c n.a && decide (n.a ≠ c.nat) && decide (1 ≤ n.b) && decide (n.b = (keptM c n.a).length) && decide ((n.to.length : Int) = 2 * n.b) then armsL (keptM c n.a) n.to h else none

/-- where an instruction goes on, and at which heights -/
def nextM (c : Cod) (i : Int) (n : Ins) (h fl : Int) : Option (List (Int × Int)) :=
  if n.op = 6 then (if n.zero && decide (n.to.length = 0) && decide (h - fl = 1) then some [] else none)
  else if n.op = 13 then (if n.zero && decide (n.to.length = 1) then some [(n.to.getD 0 0, h)] else none)
  else if n.op = 11 then (if n.zero && decide (n.to.length = 1) && decide (1 ≤ h - fl) then some [(n.to.getD 0 0, h - 1), (i + 1, h)] else none)
  else if n.op = 9 then (if 1 ≤ h - fl then armsM c n h else none)
  else match plainM c n h with
    | some p => if n.to.length = 0 ∧ p ≤ h - fl then some [(i + 1, h - p + 1)] else none
    | none => none

/-- one way on: heights that are not met are -1 -/
def goesM (len : Nat) (i : Int) (t : Int × Int) (s : List Int × Int) : Option (List Int × Int) :=
  if t.1 ≤ i ∨ (len : Int) ≤ t.1 then none
  else if s.1.getD t.1.toNat 0 = -1 then some (s.1.set t.1.toNat t.2, max s.2 t.2)
  else if s.1.getD t.1.toNat 0 = t.2 then some (s.1, max s.2 t.2)
  else none

def goM (len : Nat) (i : Int) : List (Int × Int) → List Int × Int → Option (List Int × Int)
  | [], s => some s
  | t :: r, s => (goesM len i t s).bind (goM len i r)

def oneM (c : Cod) (len : Nat) (fl : Int) (i : Nat) (n : Ins) (s : List Int × Int) : Option (List Int × Int) :=
  (nextM c i n (s.1.getD i 0) fl).bind fun l => goM len i l s

def blkM (c : Cod) (len : Nat) (fl : Int) : Nat → List Ins → List Int × Int → Option Int
  | _, [], s => some s.2
  | i, n :: r, s => if s.1.getD i 0 = -1 then none else (oneM c len fl i n s).bind (blkM c len fl (i + 1) r)

def blockM (c : Cod) (code : List Ins) (fl : Int) : Option Int :=
  if code.length = 0 then none else blkM c code.length fl 0 code (fl :: List.replicate (code.length - 1) (-1), fl)

/-! ### heights keep small -/
def Hb (fl : Int) (B : Int) (s : List Int × Int) : Prop := (∀ x ∈ s.1, x = -1 ∨ fl ≤ x ∧ x ≤ B) ∧ fl ≤ s.2 ∧ s.2 ≤ B

theorem getD_mem0 {l : List Int} {i : Nat} (h : i < l.length) : l.getD i 0 ∈ l := by
  rw [List.getD_eq_getElem?_getD, List.getElem?_eq_getElem h]
  simp
theorem goesM_len {len : Nat} {i : Int} {t : Int × Int} {s s' : List Int × Int} (h : goesM len i t s = some s') : s'.1.length = s.1.length := by
  unfold goesM at h
  split at h
  · cases h
  split at h
  · obtain rfl := Option.some.inj h; simp
  split at h
  · obtain rfl := Option.some.inj h; rfl
  · cases h
theorem goesM_hb {fl B : Int} {len : Nat} {i : Int} {t : Int × Int} {s s' : List Int × Int} (h : goesM len i t s = some s') (hs : Hb fl B s) (ht : fl ≤ t.2 ∧ t.2 ≤ B) : Hb fl B s' := by
  obtain ⟨h1, h2, h3⟩ := hs
  unfold goesM at h
  split at h
  · cases h
  split at h
  · obtain rfl := Option.some.inj h
    refine ⟨fun x hx => ?_, by simp only; omega, by simp only; omega⟩
    rcases List.mem_or_eq_of_mem_set hx with hx | rfl
    · exact h1 x hx
    · exact .inr ht
  split at h
  · obtain rfl := Option.some.inj h
    exact ⟨h1, by simp only; omega, by simp only; omega⟩
  · cases h
theorem goM_hb {fl B : Int} {len : Nat} {i : Int} : ∀ {l : List (Int × Int)} {s s' : List Int × Int}, goM len i l s = some s' → Hb fl B s → (∀ t ∈ l, fl ≤ t.2 ∧ t.2 ≤ B) → Hb fl B s' ∧ s'.1.length = s.1.length
  | [], s, s', h, hs, _ => by obtain rfl := Option.some.inj h; exact ⟨hs, rfl⟩
  | t :: r, s, s', h, hs, ht => by
    simp only [goM] at h
    cases h1 : goesM len i t s with
    | none => rw [h1] at h; cases h
    | some s1 =>
      rw [h1] at h
      obtain ⟨h2, h3⟩ := goM_hb (l := r) h (goesM_hb h1 hs (ht t (by simp))) fun t ht' => ht t (by simp [ht'])
      exact ⟨h2, h3.trans (goesM_len h1)⟩
theorem Hb.mono {fl B B' : Int} {s : List Int × Int} (h : Hb fl B s) (hB : B ≤ B') : Hb fl B' s :=
  ⟨fun x hx => by rcases h.1 x hx with h | h <;> omega, h.2.1, by have := h.2.2; omega⟩
theorem armsL_bd {h fl : Int} (hf : 1 ≤ h - fl) {M : Int} : ∀ {ks : List (List Bool)} {to : List Int} {l : List (Int × Int)}, armsL ks to h = some l → (∀ k ∈ ks, (k.length : Int) ≤ M) → ∀ t ∈ l, fl ≤ t.2 ∧ t.2 ≤ h + M
  | [], to, l, e, _, t, ht => by
    simp only [armsL] at e
    obtain rfl := Option.some.inj e; simp at ht
  | k :: r, [], l, e, _, t, ht => by simp [armsL] at e
  | k :: r, [_], l, e, _, t, ht => by simp [armsL] at e
  | k :: r, x :: m :: to, l, e, hM, t, ht => by
    simp only [armsL] at e
    split at e
    · cases h1 : armsL r to h with
      | none => rw [h1] at e; cases e
      | some l' =>
        rw [h1] at e
        obtain rfl := Option.some.inj e
        rcases List.mem_cons.1 ht with rfl | ht
        · have := hM k (by simp)
          simp only
          omega
        · exact armsL_bd hf h1 (fun k hk => hM k (by simp [hk])) t ht
    · cases e

/-- what is asked of code, for its heights to keep small -/
structure CodOk (c : Cod) : Prop where
  caps : ∀ f ∈ c.funs, 0 ≤ f.caps ∧ f.caps ≤ 255
  len : c.bodies.length = c.shapes.length
  kept : ∀ s ∈ c.shapes, ∀ k ∈ s.kept, k.length ≤ 1099511627776

theorem plainM_pos {c : Cod} (hc : CodOk c) {n : Ins} {h p : Int} (hh : 0 ≤ h) (e : plainM c n h = some p) : 0 ≤ p := by
  unfold plainM at e
  by_cases h1 : n.op = 1
  · rw [if_pos h1] at e
    split at e
    · obtain rfl := Option.some.inj e; omega
    · cases e
  rw [if_neg h1] at e
  by_cases h2 : n.op = 2
  · rw [if_pos h2] at e
    split at e
    · obtain rfl := Option.some.inj e; omega
    · cases e
  rw [if_neg h2] at e
  by_cases h3 : n.op = 3
  · rw [if_pos h3] at e
    split at e
    · obtain rfl := Option.some.inj e; omega
    · cases e
  rw [if_neg h3] at e
  by_cases h4 : n.op = 4
  · rw [if_pos h4] at e
    split at e
    · rename_i hb
      obtain rfl := Option.some.inj e
      simp only [Bool.and_eq_true, decide_eq_true_eq] at hb
      cases hf : c.funs[n.a.toNat]? with
      | none => rw [hf] at hb; simp at hb
      | some f =>
        rw [hf] at hb
        have := hc.caps f (List.mem_of_getElem? hf)
        have h2 := hb.2
        simp at h2
        omega
    · cases e
  rw [if_neg h4] at e
  by_cases h5 : n.op = 5
  · rw [if_pos h5] at e
    split at e
    · obtain rfl := Option.some.inj e; omega
    · cases e
  rw [if_neg h5] at e
  by_cases h7 : n.op = 7
  · rw [if_pos h7] at e
    split at e
    · obtain rfl := Option.some.inj e; omega
    · cases e
  rw [if_neg h7] at e
  by_cases h8 : n.op = 8
  · rw [if_pos h8] at e
    split at e
    · rename_i hb
      obtain rfl := Option.some.inj e
      simp only [ctorM, Bool.and_eq_true, decide_eq_true_eq] at hb
      have h2 := hb.2.2
      split at h2
      · simp at h2; omega
      · cases h2
    · cases e
  rw [if_neg h8] at e
  by_cases h10 : n.op = 10
  · rw [if_pos h10] at e
    split at e
    · obtain rfl := Option.some.inj e; omega
    · cases e
  rw [if_neg h10] at e
  by_cases h12 : n.op = 12
  · rw [if_pos h12] at e
    split at e
    · obtain rfl := Option.some.inj e; omega
    · cases e
  rw [if_neg h12] at e
  by_cases h14 : n.op = 14
  · rw [if_pos h14] at e
    split at e
    · rename_i hb
      obtain rfl := Option.some.inj e
      simp only [Bool.and_eq_true, decide_eq_true_eq] at hb
      omega
    · cases e
  rw [if_neg h14] at e
  cases e

theorem nextM_bd {c : Cod} (hc : CodOk c) {i : Int} {n : Ins} {h fl : Int} (hh : fl ≤ h) (hf : 0 ≤ fl) {l : List (Int × Int)} (e : nextM c i n h fl = some l) : ∀ t ∈ l, fl ≤ t.2 ∧ t.2 ≤ h + 1099511627776 := by
  unfold nextM at e
  split at e
  · split at e
    · obtain rfl := Option.some.inj e; simp
    · cases e
  split at e
  · split at e
    · obtain rfl := Option.some.inj e
      intro t ht
      simp at ht
      subst ht
      simp only
      omega
    · cases e
  split at e
  · split at e
    · rename_i hb
      simp only [Bool.and_eq_true, decide_eq_true_eq] at hb
      obtain rfl := Option.some.inj e
      intro t ht
      simp at ht
      rcases ht with rfl | rfl <;> simp only <;> omega
    · cases e
  split at e
  · split at e
    · rename_i hb
      unfold armsM at e
      split at e
      · refine armsL_bd hb e fun k hk => ?_
        unfold keptM at hk
        cases hs : c.shapes[n.a.toNat]? with
        | none => rw [hs] at hk; simp at hk
        | some s =>
          rw [hs] at hk
          have := hc.kept s (List.mem_of_getElem? hs) k (by simpa using hk)
          omega
      · cases e
    · cases e
  split at e
  · rename_i p hp
    split at e
    · have := plainM_pos hc (by omega) hp
      obtain rfl := Option.some.inj e
      intro t ht
      simp at ht
      subst ht
      simp only
      omega
    · cases e
  · cases e

end Cd

/-
  The seat's types, laid by program (tau.py) and checked by the kernel.
-/
namespace Go.Proofs.YtjpdkcejkogciaaDoor
open Go.Wx

def τ : Tau where
  tab := [(7, [(0, 1, false), (1, 1, false), (2, 1, false), (3, 1, false)], [0, 0, 1, 7]), (8, [(0, 1, false), (1, 1, false), (2, 1, false), (3, 1, false)], [0, 0, 1, 7]), (13, [(0, 1, false), (1, 1, false)], [9, 11]), (14, [(0, 1, false), (1, 1, false)], [9, 11]), (18, [(0, 1, false)], [3]), (19, [(0, 1, false)], [3]), (26, [(0, 1, false), (1, 1, false), (2, 1, false)], [2, 2, 2]), (27, [(0, 1, false), (1, 1, false), (2, 1, false)], [2, 2, 2]), (32, [(0, 1, false), (1, 1, false), (2, 1, false), (3, 1, false), (4, 1, false)], [2, 2, 2, 0, 2]), (33, [(0, 1, false), (1, 1, false), (2, 1, false), (3, 1, false), (4, 1, false)], [2, 2, 2, 0, 2]), (40, [(0, 1, false), (1, 1, false), (2, 1, false), (3, 1, false), (4, 1, false)], [0, 2, 2, 2, 2]), (41, [(0, 1, false), (1, 1, false), (2, 1, false), (3, 1, false), (4, 1, false)], [0, 2, 2, 2, 2]), (46, [(0, 1, false), (1, 1, false), (2, 1, false)], [0, 0, 0]), (47, [(0, 1, false), (1, 1, false), (2, 1, false)], [0, 0, 0]), (49, [(0, 1, false), (1, 1, false), (2, 1, false), (3, 1, false)], [0, 0, 0, 2]), (50, [(0, 1, false), (1, 1, false), (2, 1, false), (3, 1, false)], [0, 0, 0, 2]), (52, [(0, 1, false), (1, 1, false)], [0, 2]), (53, [(0, 1, false), (1, 1, false)], [0, 2]), (54, [(0, 1, false), (1, 1, false)], [0, 2]), (55, [(0, 1, false), (1, 1, false)], [0, 2]), (59, [(0, 1, false), (1, 1, false)], [0, 2]), (60, [(0, 1, false), (1, 1, false)], [0, 2]), (76, [(0, 1, false), (1, 1, false)], [0, 0]), (77, [(0, 1, false), (1, 1, false)], [0, 0]), (87, [(0, 1, false), (1, 1, false), (2, 1, false), (3, 1, false)], [2, 2, 2, 0]), (88, [(0, 1, false), (1, 1, false), (2, 1, false), (3, 1, false)], [2, 2, 2, 0]), (106, [(0, 1, false), (1, 1, false), (2, 1, false)], [3, 2, 0]), (107, [(0, 1, false), (1, 1, false), (2, 1, false)], [3, 2, 0]), (121, [(0, 1, false), (1, 1, false), (2, 1, false), (3, 1, false), (4, 1, false)], [3, 2, 0, 2, 0]), (122, [(0, 1, false), (1, 1, false), (2, 1, false), (3, 1, false), (4, 1, false)], [3, 2, 0, 2, 0]), (126, [(0, 3, true), (3, 1, false)], [0, 0, 0, 2]), (127, [(0, 3, true), (3, 1, false)], [0, 0, 0, 2]), (167, [(0, 1, false), (1, 1, false), (2, 1, false), (3, 1, false)], [3, 3, 3, 9]), (168, [(0, 1, false), (1, 1, false), (2, 1, false), (3, 1, false)], [3, 3, 3, 9]), (179, [(0, 1, false), (1, 1, false), (2, 1, false), (3, 1, false), (4, 1, false), (5, 1, false), (6, 1, false), (7, 1, false), (8, 1, false), (9, 1, false), (10, 1, false)], [11, 11, 6, 7, 7, 7, 7, 5, 3, 12, 12]), (180, [(0, 1, false), (1, 1, false), (2, 1, false), (3, 1, false), (4, 1, false), (5, 1, false), (6, 1, false), (7, 1, false), (8, 1, false), (9, 1, false), (10, 1, false)], [11, 11, 6, 7, 7, 7, 7, 5, 3, 12, 12])]
  ones := [(2, 0), (3, 0), (4, 1), (5, 7), (6, 7), (9, 9), (10, 9), (11, 9), (12, 11), (15, 3), (16, 3), (17, 3), (20, 8), (21, 12), (22, 2), (23, 2), (24, 2), (25, 2), (28, 2), (29, 2), (30, 2), (31, 2), (36, 2), (37, 2), (38, 2), (39, 2), (42, 0), (48, 2), (58, 2), (61, 2), (82, 3), (86, 3), (97, 3), (105, 3), (119, 3), (125, 2), (135, 4), (136, 2), (147, 11), (158, 6), (161, 11), (173, 7), (174, 7), (176, 3), (177, 12), (178, 12), (181, 3), (1, 5), (34, 5), (35, 5), (44, 5), (45, 5), (51, 5), (56, 5), (57, 5), (62, 5), (63, 5), (65, 5), (66, 5), (67, 5), (68, 5), (69, 5), (70, 5), (71, 5), (72, 5), (73, 5), (74, 5), (75, 5), (78, 5), (79, 5), (80, 5), (81, 5), (83, 5), (84, 5), (85, 5), (89, 5), (90, 5), (91, 5), (92, 5), (93, 5), (94, 5), (96, 5), (98, 5), (100, 5), (101, 5), (103, 5), (104, 5), (108, 5), (109, 5), (110, 5), (111, 5), (112, 5), (113, 5), (114, 5), (115, 5), (116, 5), (118, 5), (120, 5), (123, 5), (124, 5), (129, 5), (130, 5), (131, 5), (132, 5), (133, 5), (134, 5), (138, 5), (140, 5), (141, 5), (142, 5), (143, 5), (144, 5), (145, 5), (146, 5), (149, 5), (150, 5), (152, 5), (154, 5), (155, 5), (156, 5), (157, 5), (160, 5), (163, 5), (164, 5), (165, 5), (166, 5), (172, 5), (175, 5)]
  slcs := [(22, 55, 2, 32), (23, 25, 1, 24), (24, 47, 3, 24), (25, 47, 3, 24), (28, 30, 1, 24), (29, 60, 2, 32), (30, 47, 3, 24), (31, 77, 2, 16), (36, 53, 2, 32), (37, 39, 1, 24), (38, 50, 4, 48), (39, 50, 4, 48), (48, 3, 1, 8), (58, 61, 1, 24), (61, 4, 1, 1), (125, 127, 4, 48), (136, 139, 2, 16)]

theorem τok : TauOk Tryd.prog τ := tauCheck_ok (by kernel_rfl)

end Go.Proofs.YtjpdkcejkogciaaDoor

/-
  Code: the checker's parts: in, family, ctor, goes, plain.
-/
set_option linter.unusedSimpArgs false
set_option linter.unusedVariables false
namespace Go.Proofs.YtjpdkcejkogciaaDoor
open Go.Wx Cd

theorem in_ct (n lo hi : Int) (w : World) : CallOk Tryd.prog 44 ∧ Calls Tryd.prog 44 #[.int .i64 n, .int .i64 lo, .int .i64 hi] w (fun e w' => e = .returned (.bool (inM n lo hi)) ∧ Kp [] w w') := by
  refine ⟨⟨_, Tryd.func44, rfl, by decide⟩, ?_⟩
  refine calls_of (args := [_, _, _]) 15 [.tmp 6] τok Tryd.func44 rfl rfl rfl (Nat.le_of_ble_eq_true rfl) ?_
  refine br_dec (fun h => ?_) (fun h => ?_)
  · exact ⟨by simp [one, inM, h], Kp.refl _ _⟩
  · exact ⟨by simp [one, inM, h], Kp.refl _ _⟩

/-- the cells of a checker -/
def ckCells (bc : Nat) (ac : Option Addr) (len cc : Nat) (fl : Int) (hb hc : Nat) (most : Int) : List Value :=
  [.pointer (some ⟨bc, 0, none⟩), .slice ac len cc, .int .i64 fl, .slice (some ⟨hb, 0, none⟩) len hc, .int .i64 most]

/-- what a checker is given, and what stays -/
structure CkIn (C : Mem) (c : Cod) (code : List Ins) (p bc hb : Nat) (ac : Option Addr) : Prop where
  cod : rCod.At C bc 0 c
  code : Sl rIns C ac code
  apart : ∀ b o v, C b o v → b ≠ p ∧ b ≠ hb
  ne : p ≠ hb

/-- how a checker stands -/
structure Ck (C : Mem) (bc hb : Nat) (ac : Option Addr) (len cc : Nat) (fl : Int) (hc p : Nat) (s : List Int × Int) (w : World) : Prop where
  sub : Sub C w
  blk : Bk w.heap p (ckCells bc ac len cc fl hb hc s.2) 122
  row : RowI w.heap hb s.1 3
  len : s.1.length = len

theorem Ck.kp {C : Mem} {bc hb : Nat} {ac : Option Addr} {len cc : Nat} {fl : Int} {hc p : Nat} {s : List Int × Int} {w w' : World} (h : Ck C bc hb ac len cc fl hc p s w) (k : Kp [] w w') : Ck C bc hb ac len cc fl hc p s w' :=
  ⟨h.sub.tr k, h.blk.kp k (by simp), h.row.kp k (by simp), h.len⟩

theorem cod_cells {C : Mem} {b : Nat} {c : Cod} (h : rCod.At C b 0 c) : ∃ a1 c1 a2 c2 a3 c3 a4 c4, C b 0 (.int .i64 c.nat) ∧ C b 1 (.slice a1 c.shapes.length c1) ∧ C b 2 (.slice a2 c.funs.length c2) ∧ C b 3 (.slice a3 c.bodies.length c3) ∧ C b 4 (.slice a4 c.main.length c4) ∧
    Sl rShp C a1 c.shapes ∧ Sl rFn C a2 c.funs ∧ Sl (rSl rIns) C a3 c.bodies ∧ Sl rIns C a4 c.main ∧ I64 c.nat := by
  obtain ⟨cs, ⟨a1, c1, a2, c2, a3, c3, a4, c4, rfl, h1, h2, h3, h4, h5⟩, hc⟩ := h
  simp only [Nat.zero_add] at hc
  exact ⟨a1, c1, a2, c2, a3, c3, a4, c4, hc 0 _ rfl, hc 1 _ rfl, hc 2 _ rfl, hc 3 _ rfl, hc 4 _ rfl, h1, h2, h3, h4, h5⟩

section
variable {C : Mem} {c : Cod} {code : List Ins} {p bc hb : Nat} {ac : Option Addr} {cc : Nat} {fl : Int} {hc : Nat} {s : List Int × Int} {w : World}

theorem family_ct (hi : CkIn C c code p bc hb ac) (hl : c.shapes.length ≤ c.bodies.length) (hk : Ck C bc hb ac code.length cc fl hc p s w) (e : Int) :
    CallOk Tryd.prog 102 ∧ Calls Tryd.prog 102 #[.pointer (some ⟨p, 0, none⟩), .int .i64 e] w (fun r w' => r = .returned (.bool (famM c e)) ∧ Kp [] w w') := by
  refine ⟨⟨_, Tryd.func102, rfl, by decide⟩, ?_⟩
  refine calls_of (args := [_, _]) 30 [.tmp 4] τok Tryd.func102 rfl rfl rfl (Nat.le_of_ble_eq_true rfl) ?_
  obtain ⟨a1, c1, a2, c2, a3, c3, a4, c4, k0, k1, k2, k3, k4, h1, h2, h3, h4, h5⟩ := cod_cells hi.cod
  have hS := hk.sub
  have hB : Bk w.heap p [.pointer (some ⟨bc, 0, none⟩), .slice ac code.length cc, .int .i64 fl, .slice (some ⟨hb, 0, none⟩) code.length hc, .int .i64 s.2] 122 := hk.blk
  have hsl := h1.1
  have hbl := h3.1
  (repeat first | refine ldC ‹Sub _ _› (by assumption) ?_ | refine ld (Cl.cell (by first | assumption | exact Bk.cl (by assumption) rfl)) ?_ | refine ldK (by first | assumption | exact Bk.cl (by assumption) rfl | exact ‹Sub _ _› _ _ _ (by assumption)) ?_)
  refine int64 (by omega) (by omega) ?_
  refine ev_call (in_ct _ _ _ w) ?_
  rintro r w1 ⟨rfl, hk1⟩
  have hS1 := hS.tr hk1
  have hB1 := hB.kp hk1 (by simp)
  refine br (fun ht => ?_) (fun ht => ?_)
  · have hin : 0 ≤ e ∧ e ≤ c.shapes.length - 1 := by simpa [inM] using ht
    (repeat first | refine ldC ‹Sub _ _› (by assumption) ?_ | refine ld (Cl.cell (by first | assumption | exact Bk.cl (by assumption) rfl)) ?_ | refine ldK (by first | assumption | exact Bk.cl (by assumption) rfl | exact ‹Sub _ _› _ _ _ (by assumption)) ?_)
    obtain ⟨x, hx⟩ : ∃ x, c.bodies[e.toNat]? = some x := ⟨c.bodies[e.toNat]'(by omega), by simp⟩
    obtain ⟨b, o, rfl, a', cap, hcell, hsl'⟩ := h3.sl hx
    refine ix e.toNat (by omega) (by omega) ?_
    (repeat first | refine ldC ‹Sub _ _› (by assumption) ?_ | refine ld (Cl.cell (by first | assumption | exact Bk.cl (by assumption) rfl)) ?_ | refine ldK (by first | assumption | exact Bk.cl (by assumption) rfl | exact ‹Sub _ _› _ _ _ (by assumption)) ?_)
    refine ⟨?_, hk1⟩
    simp only [one, famM, ht, hx, Option.getD_some, Bool.true_and]
    simp
  · refine ⟨?_, hk1⟩
    simp only [one, famM, ht, Bool.false_and]

theorem ctor_ct (hi : CkIn C c code p bc hb ac) (hl : c.shapes.length ≤ c.bodies.length) (hk : Ck C bc hb ac code.length cc fl hc p s w) (a args : Int) (ha : I64 a) :
    CallOk Tryd.prog 103 ∧ Calls Tryd.prog 103 #[.pointer (some ⟨p, 0, none⟩), .int .i64 a, .int .i64 args] w (fun r w' => r = .returned (.bool (ctorM c a args)) ∧ Kp [] w w') := by
  refine ⟨⟨_, Tryd.func103, rfl, by decide⟩, ?_⟩
  refine calls_of (args := [_, _, _]) 45 [.tmp 6] τok Tryd.func103 rfl rfl rfl (Nat.le_of_ble_eq_true rfl) ?_
  refine br_dec (fun h0 => ?_) (fun h0 => ?_)
  · exact ⟨by simp [one, ctorM, show ¬ 0 ≤ a by omega], Kp.refl _ _⟩
  have h0' : 0 ≤ a := by omega
  refine quo64 h0' ha.2 (by omega) ?_
  refine ev_call (family_ct hi hl hk (a / 16)) ?_
  rintro r w1 ⟨rfl, hk1⟩
  have hkk := hk.kp hk1
  refine br (fun ht => ?_) (fun ht => ?_)
  · have hf : famM c (a / 16) = false := by simpa using ht
    exact ⟨by simp [one, ctorM, hf], hk1⟩
  have hf : famM c (a / 16) = true := by simpa using ht
  have hin : 0 ≤ a / 16 ∧ a / 16 ≤ c.shapes.length - 1 := by
    have := hf
    simp [famM, inM] at this
    exact this.1
  obtain ⟨a1, c1, a2, c2, a3, c3, a4, c4, k0, k1, k2, k3, k4, h1, h2, h3, h4, h5⟩ := cod_cells hi.cod
  have hS := hkk.sub
  have hB : Bk w1.heap p [.pointer (some ⟨bc, 0, none⟩), .slice ac code.length cc, .int .i64 fl, .slice (some ⟨hb, 0, none⟩) code.length hc, .int .i64 s.2] 122 := hkk.blk
  obtain ⟨x, hx⟩ : ∃ x, c.shapes[(a / 16).toNat]? = some x := ⟨c.shapes[(a / 16).toNat]'(by omega), by simp⟩
  obtain ⟨b, o, rfl, a', cap, hkept, _, _, hcell⟩ := sl_shp h1 hx
  (repeat first | refine ldC ‹Sub _ _› (by assumption) ?_ | refine ld (Cl.cell (by first | assumption | exact Bk.cl (by assumption) rfl)) ?_ | refine ldK (by first | assumption | exact Bk.cl (by assumption) rfl | exact ‹Sub _ _› _ _ _ (by assumption)) ?_)
  refine quo64 h0' ha.2 (by omega) ?_
  refine ix (a / 16).toNat (by omega) (by omega) ?_
  (repeat first | refine ldC ‹Sub _ _› (by assumption) ?_ | refine ld (Cl.cell (by first | assumption | exact Bk.cl (by assumption) rfl)) ?_ | refine ldK (by first | assumption | exact Bk.cl (by assumption) rfl | exact ‹Sub _ _› _ _ _ (by assumption)) ?_)
  refine rem64 h0' (by omega) ?_
  have hkm : keptM c (a / 16) = x.kept := by simp [keptM, hx]
  refine br_dec (fun hlt => ?_) (fun hlt => ?_)
  · obtain ⟨y, hy⟩ : ∃ y, x.kept[(a % 16).toNat]? = some y := ⟨x.kept[(a % 16).toNat]'(by omega), by simp⟩
    obtain ⟨b, o, rfl, a', cap, hcell', hsl'⟩ := hkept.sl hy
    refine ix (a % 16).toNat (by omega) (by omega) ?_
    (repeat first | refine ldC ‹Sub _ _› (by assumption) ?_ | refine ld (Cl.cell (by first | assumption | exact Bk.cl (by assumption) rfl)) ?_ | refine ldK (by first | assumption | exact Bk.cl (by assumption) rfl | exact ‹Sub _ _› _ _ _ (by assumption)) ?_)
    refine ⟨?_, hk1⟩
    simp [one, ctorM, hf, hkm, hy, h0']
  · refine ⟨?_, hk1⟩
    have : x.kept[(a % 16).toNat]? = none := by simp; omega
    simp [one, ctorM, hf, hkm, this]

/-- goes on, or not -/
theorem goes_ct (hi : CkIn C c code p bc hb ac) (hk : Ck C bc hb ac code.length cc fl hc p s w) (i to h : Int) (hh : 0 ≤ h) (hi0 : 0 ≤ i) :
    CallOk Tryd.prog 89 ∧ Calls Tryd.prog 89 #[.pointer (some ⟨p, 0, none⟩), .int .i64 i, .int .i64 to, .int .i64 h] w (fun r w' => ∃ ok, r = .returned (.bool ok) ∧ Kp [p, hb] w w' ∧
      match goesM code.length i (to, h) s with
      | some s' => ok = true ∧ Ck C bc hb ac code.length cc fl hc p s' w'
      | none => ok = false) := by
  refine ⟨⟨_, Tryd.func89, rfl, by decide⟩, ?_⟩
  refine calls_of (args := [_, _, _, _]) 54 [.tmp 8] τok Tryd.func89 rfl rfl rfl (Nat.le_of_ble_eq_true rfl) ?_
  have hS := hk.sub
  have hB : Bk w.heap p [.pointer (some ⟨bc, 0, none⟩), .slice ac code.length cc, .int .i64 fl, .slice (some ⟨hb, 0, none⟩) code.length hc, .int .i64 s.2] 122 := hk.blk
  have hne := hi.ne
  have hlen := hk.len
  refine br_dec (fun h0 => ?_) (fun h0 => ?_)
  · have e : goesM code.length i (to, h) s = none := by unfold goesM; rw [if_pos (.inl h0)]
    rw [e]
    exact ⟨false, rfl, (Kp.refl [] w).weak (by simp), rfl⟩
  (repeat first | refine ldC ‹Sub _ _› (by assumption) ?_ | refine ld (Cl.cell (by first | assumption | exact Bk.cl (by assumption) rfl)) ?_ | refine ldK (by first | assumption | exact Bk.cl (by assumption) rfl | exact ‹Sub _ _› _ _ _ (by assumption)) ?_)
  refine br_dec (fun h1 => ?_) (fun h1 => ?_)
  · have e : goesM code.length i (to, h) s = none := by unfold goesM; rw [if_pos (.inr h1)]
    rw [e]
    exact ⟨false, rfl, (Kp.refl [] w).weak (by simp), rfl⟩
  obtain ⟨k, rfl⟩ : ∃ k : Nat, to = k := ⟨to.toNat, by omega⟩
  have hkl : k < s.1.length := by omega
  have e : goesM code.length i ((k : Int), h) s = if s.1.getD k 0 = -1 then some (s.1.set k h, max s.2 h) else if s.1.getD k 0 = h then some (s.1, max s.2 h) else none := by
    unfold goesM; rw [if_neg (by simp only; omega)]; simp
  rw [e]
  refine ld (hB.cl rfl).cell ?_
  refine max64 ?_
  refine st hB (by simp) rfl fun w1 hB1 hs1 hk1 => ?_
  have hB1 : Bk w1.heap p [.pointer (some ⟨bc, 0, none⟩), .slice ac code.length cc, .int .i64 fl, .slice (some ⟨hb, 0, none⟩) code.length hc, .int .i64 (max s.2 h)] 122 := hB1
  have hS1 := hS.kp hk1 fun b o v hc => by have := hi.apart b o v hc; simp; exact this.1
  have hR1 : RowI w1.heap hb s.1 3 := hk.row.kp hk1 (by simp; omega)
  (repeat first | refine ldC ‹Sub _ _› (by assumption) ?_ | refine ld (Cl.cell (by first | assumption | exact Bk.cl (by assumption) rfl)) ?_ | refine ldK (by first | assumption | exact Bk.cl (by assumption) rfl | exact ‹Sub _ _› _ _ _ (by assumption)) ?_)
  refine ix k rfl (by omega) ?_
  have hcl := RowI.cl hR1 hkl
  (repeat first | refine ldC ‹Sub _ _› (by assumption) ?_ | refine ld (Cl.cell (by first | assumption | exact Bk.cl (by assumption) rfl)) ?_ | refine ldK (by first | assumption | exact Bk.cl (by assumption) rfl | exact ‹Sub _ _› _ _ _ (by assumption)) ?_)
  refine br_dec (fun h2 => ?_) (fun h2 => ?_)
  · refine ld (hB1.cl rfl).cell ?_
    refine ix k rfl (by omega) ?_
    refine stI hR1 hkl fun w2 hR2 hs2 hk2 => ?_
    have hB2 := hB1.kp hk2 (by simp; omega)
    have hS2 := hS1.kp hk2 fun b o v hc => by have := hi.apart b o v hc; simp; exact this.2
    refine ld (hB2.cl rfl).cell ?_
    refine ix k rfl (by omega) ?_
    have hcl2 := RowI.cl hR2 (k := k) (by simpa using hkl)
    have hg : (s.1.set k h).getD k 0 = h := by simp [List.getD, hkl]
    rw [hg] at hcl2
    refine ld hcl2.cell ?_
    rw [if_pos h2]
    exact ⟨true, by simp [one], (hk1.weak (by simp)).trans hk2 (by simp), rfl, ⟨hS2, hB2, hR2, by simpa using hlen⟩⟩
  · refine ld (hB1.cl rfl).cell ?_
    refine ix k rfl (by omega) ?_
    refine ld hcl.cell ?_
    rw [if_neg h2]
    by_cases h3 : s.1.getD k 0 = h
    · rw [if_pos h3]
      exact ⟨true, by simp only [one]; rw [decide_eq_true h3], hk1.weak (by simp), rfl, ⟨hS1, hB1, hR1, hlen⟩⟩
    · rw [if_neg h3]
      exact ⟨false, by simp only [one]; rw [decide_eq_false h3], hk1.weak (by simp), rfl⟩
end
end Go.Proofs.YtjpdkcejkogciaaDoor

