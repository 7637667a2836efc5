/-
  Wx: readings: what rows of cells say, told over a set of cells; rows of one's own whose elements have depth.
-/
import Derived.Test.YtbgiljognlbkhaaWxD
import Derived.Maps.AppendAt
set_option linter.unusedSimpArgs false
set_option linter.unusedVariables false
namespace Go.Wx

def I64 (n : Int) : Prop := -9223372036854775808 ≤ n ∧ n ≤ 9223372036854775807

/-- a set of cells: block, place, what it holds -/
abbrev Mem := Nat → Nat → Value → Prop
def Sub (C : Mem) (w : World) : Prop := ∀ b o v, C b o v → Cl w.heap b o v
theorem Sub.tr {C : Mem} {w w' : World} (h : Sub C w) (k : Kp [] w w') : Sub C w' := fun b o v hc => (h b o v hc).kp k (by simp)
theorem Sub.kp {C : Mem} {X : List Nat} {w w' : World} (h : Sub C w) (k : Kp X w w') (hx : ∀ b o v, C b o v → b ∉ X) : Sub C w' := fun b o v hc => (h b o v hc).kp k (hx b o v hc)
theorem Sub.dr {C : Mem} {w : World} (h : Sub C w) (m : Nat) : Sub C { w with drawn := m } := h

/-- what was there at the start -/
def Old (w : World) : Mem := fun b o v => Cl w.heap b o v
theorem Old.sub (w : World) : Sub (Old w) w := fun _ _ _ h => h

/-- the cell (b, o) holds v, and its block is not frozen -/
def Cu (h : Array Obj) (b o : Nat) (v : Value) : Prop := ∃ c T, h[b]? = some (.cells c T (0, 0)) ∧ c[o]? = some v
theorem Cu.cl {h : Array Obj} {b o : Nat} {v : Value} (hc : Cu h b o v) : Cl h b o v := by
  obtain ⟨c, T, h1, h2⟩ := hc
  exact ⟨c, T, _, h1, h2⟩
theorem Cu.lt {h : Array Obj} {b o : Nat} {v : Value} (hc : Cu h b o v) : b < h.size := hc.cl.lt
theorem Cu.kp {X : List Nat} {w w' : World} {b o : Nat} {v : Value} (hc : Cu w.heap b o v) (k : Kp X w w') (hx : b ∉ X) : Cu w'.heap b o v := by
  have hl := hc.lt
  obtain ⟨c, T, h1, h2⟩ := hc
  exact ⟨c, T, by rw [k.block b hl hx]; exact h1, h2⟩
theorem Bk.cu {h : Array Obj} {b : Nat} {cs : List Value} {T : TypeId} (hb : Bk h b cs T) {o : Nat} {v : Value} (hv : cs[o]? = some v) : Cu h b o v := ⟨_, _, hb, by simpa using hv⟩

/-- new memory: blocks from n on, not frozen -/
def New (n : Nat) (w : World) : Mem := fun b o v => n ≤ b ∧ Cu w.heap b o v
theorem New.sub (n : Nat) (w : World) : Sub (New n w) w := fun _ _ _ h => h.2.cl
theorem New.up {n m : Nat} {w w' : World} (hn : m ≤ n) (k : Kp [] w w') : ∀ b o v, New n w b o v → New m w' b o v := fun b o v h => ⟨Nat.le_trans hn h.1, h.2.kp k (by simp)⟩

/-- how cells read as a thing -/
structure Rd (α : Type) where
  sz : Nat
  den : Mem → List Value → α → Prop
  len : ∀ {C cs x}, den C cs x → cs.length = sz
  mono : ∀ {C C' : Mem} {cs x}, (∀ b o v, C b o v → C' b o v) → den C cs x → den C' cs x
  one : ∀ {C cs x}, den C cs x → ∀ u ∈ cs, u.oneCell' = true

section
variable {α : Type}
def Rd.At (R : Rd α) (C : Mem) (b o : Nat) (x : α) : Prop := ∃ cs, R.den C cs x ∧ ∀ j v, cs[j]? = some v → C b (o + j) v
theorem Rd.At.mono {R : Rd α} {C C' : Mem} {b o : Nat} {x : α} (h : R.At C b o x) (hc : ∀ b o v, C b o v → C' b o v) : R.At C' b o x := by
  obtain ⟨cs, h1, h2⟩ := h
  exact ⟨cs, R.mono hc h1, fun j v hj => hc _ _ _ (h2 j v hj)⟩

/-- a slice at 'a' reads as the list -/
def Sl (R : Rd α) (C : Mem) (a : Option Addr) (l : List α) : Prop :=
  l.length ≤ 1099511627776 ∧ (l.length = 0 ∨ ∃ b o, a = some ⟨b, o, none⟩ ∧ ∀ i x, l[i]? = some x → R.At C b (o + i * R.sz) x)
theorem Sl.mono {R : Rd α} {C C' : Mem} {a : Option Addr} {l : List α} (h : Sl R C a l) (hc : ∀ b o v, C b o v → C' b o v) : Sl R C' a l := by
  refine ⟨h.1, ?_⟩
  rcases h.2 with h0 | ⟨b, o, h1, h2⟩
  · exact .inl h0
  · exact .inr ⟨b, o, h1, fun i x hx => (h2 i x hx).mono hc⟩
theorem Sl.nil (R : Rd α) (C : Mem) (a : Option Addr) : Sl R C a [] := ⟨by simp, .inl rfl⟩
theorem Sl.at {R : Rd α} {C : Mem} {a : Option Addr} {l : List α} (h : Sl R C a l) {i : Nat} (hi : i < l.length) : ∃ b o, a = some ⟨b, o, none⟩ ∧ ∀ i x, l[i]? = some x → R.At C b (o + i * R.sz) x := by
  rcases h.2 with h0 | h1
  · omega
  · exact h1

def rSl (R : Rd α) : Rd (List α) where
  sz := 1
  den C cs l := ∃ a cap, cs = [.slice a l.length cap] ∧ Sl R C a l
  len := by rintro C cs x ⟨a, cap, rfl, _⟩; rfl
  mono := by rintro C C' cs x hc ⟨a, cap, rfl, h⟩; exact ⟨a, cap, rfl, h.mono hc⟩
  one := by rintro C cs x ⟨a, cap, rfl, h⟩ u hu; simp at hu; subst hu; rfl
end

def rInt : Rd Int where
  sz := 1
  den _ cs x := cs = [.int .i64 x] ∧ I64 x
  len := by rintro _ cs x ⟨rfl, _⟩; rfl
  mono := by rintro _ _ cs x _ h; exact h
  one := by rintro _ cs x ⟨rfl, _⟩ u hu; simp at hu; subst hu; rfl

def rBool : Rd Bool where
  sz := 1
  den _ cs x := cs = [.bool x]
  len := by rintro _ cs x rfl; rfl
  mono := by rintro _ _ cs x _ h; exact h
  one := by rintro _ cs x rfl u hu; simp at hu; subst hu; rfl

def rU8 : Rd Nat where
  sz := 1
  den _ cs x := cs = [.int .u8 (x : Int)] ∧ x < 256
  len := by rintro _ cs x ⟨rfl, _⟩; rfl
  mono := by rintro _ _ cs x _ h; exact h
  one := by rintro _ cs x ⟨rfl, _⟩ u hu; simp at hu; subst hu; rfl

theorem Sl.int {C : Mem} {a : Option Addr} {l : List Int} (h : Sl rInt C a l) {i : Nat} {x : Int} (hi : l[i]? = some x) : ∃ b o, a = some ⟨b, o, none⟩ ∧ C b (o + i * 1) (.int .i64 x) ∧ I64 x := by
  obtain ⟨b, o, ha, hc⟩ := h.at (List.getElem?_eq_some_iff.1 hi).1
  obtain ⟨cs, ⟨rfl, h64⟩, h2⟩ := hc i x hi
  exact ⟨b, o, ha, h2 0 _ rfl, h64⟩
theorem Sl.bool {C : Mem} {a : Option Addr} {l : List Bool} (h : Sl rBool C a l) {i : Nat} {x : Bool} (hi : l[i]? = some x) : ∃ b o, a = some ⟨b, o, none⟩ ∧ C b (o + i * 1) (.bool x) := by
  obtain ⟨b, o, ha, hc⟩ := h.at (List.getElem?_eq_some_iff.1 hi).1
  obtain ⟨cs, rfl, h2⟩ := hc i x hi
  exact ⟨b, o, ha, h2 0 _ rfl⟩
theorem Sl.u8 {C : Mem} {a : Option Addr} {l : List Nat} (h : Sl rU8 C a l) {i : Nat} {x : Nat} (hi : l[i]? = some x) : ∃ b o, a = some ⟨b, o, none⟩ ∧ C b (o + i * 1) (.int .u8 (x : Int)) ∧ x < 256 := by
  obtain ⟨b, o, ha, hc⟩ := h.at (List.getElem?_eq_some_iff.1 hi).1
  obtain ⟨cs, ⟨rfl, h64⟩, h2⟩ := hc i x hi
  exact ⟨b, o, ha, h2 0 _ rfl, h64⟩
/-- an element that is a slice itself -/
theorem Sl.sl {α : Type} {R : Rd α} {C : Mem} {a : Option Addr} {l : List (List α)} (h : Sl (rSl R) C a l) {i : Nat} {x : List α} (hi : l[i]? = some x) :
    ∃ b o, a = some ⟨b, o, none⟩ ∧ ∃ a' cap, C b (o + i * 1) (.slice a' x.length cap) ∧ Sl R C a' x := by
  obtain ⟨b, o, ha, hc⟩ := h.at (List.getElem?_eq_some_iff.1 hi).1
  obtain ⟨cs, ⟨a', cap, rfl, hs⟩, h2⟩ := hc i x hi
  exact ⟨b, o, ha, a', cap, h2 0 _ rfl, hs⟩

/-! ### loads over a set of cells -/
theorem ldC {C : Mem} {w : World} (hs : Sub C w) {b o : Nat} {v : Value} {k : Value → Prop} (h : C b o v) (hk : k v) : EvLd w ⟨b, o, none⟩ k := ld (hs b o v h).cell hk
theorem ldNC {C : Mem} {w : World} (hs : Sub C w) {b o n : Nat} {k : Value → Prop} (cs : List Value) (hn : cs.length = n) (h : ∀ j v, cs[j]? = some v → C b (o + j) v) (hk : k (.agg cs.toArray)) : EvLdN w ⟨b, o, none⟩ n k :=
  ldN cs hn (fun j v hj => hs _ _ _ (h j v hj)) hk

/-! ### two lists side by side -/
def All2 {α β : Type} (p : β → α → Prop) : List β → List α → Prop
  | [], [] => True
  | b :: bs, a :: as => p b a ∧ All2 p bs as
  | _, _ => False
section
variable {α β : Type} {p q : β → α → Prop}
theorem All2.length : ∀ {l : List β} {m : List α}, All2 p l m → l.length = m.length
  | [], [], _ => rfl
  | _ :: _, _ :: _, h => by simp [All2.length h.2]
  | [], _ :: _, h => h.elim
  | _ :: _, [], h => h.elim
theorem All2.mono (hpq : ∀ b a, p b a → q b a) : ∀ {l : List β} {m : List α}, All2 p l m → All2 q l m
  | [], [], _ => trivial
  | _ :: _, _ :: _, h => ⟨hpq _ _ h.1, All2.mono hpq h.2⟩
  | [], _ :: _, h => h.elim
  | _ :: _, [], h => h.elim
theorem All2.append : ∀ {l : List β} {m : List α} {l' : List β} {m' : List α}, All2 p l m → All2 p l' m' → All2 p (l ++ l') (m ++ m')
  | [], [], _, _, _, h' => h'
  | _ :: _, _ :: _, _, _, h, h' => ⟨h.1, All2.append h.2 h'⟩
  | [], _ :: _, _, _, h, _ => h.elim
  | _ :: _, [], _, _, h, _ => h.elim
theorem All2.get : ∀ {l : List β} {m : List α} {i : Nat} {a : α}, All2 p l m → m[i]? = some a → ∃ b, l[i]? = some b ∧ p b a
  | [], [], i, a, _, h => by simp at h
  | b :: _, _ :: _, 0, a, h, hi => by simp at hi; subst hi; exact ⟨b, rfl, h.1⟩
  | _ :: _, _ :: _, i + 1, a, h, hi => by simpa using All2.get h.2 (by simpa using hi)
  | [], _ :: _, _, _, h, _ => h.elim
  | _ :: _, [], _, _, h, _ => h.elim
end

theorem flat_len {α : Type} {k : Nat} : ∀ (css : List (List α)), (∀ cs ∈ css, cs.length = k) → css.flatten.length = css.length * k
  | [], _ => by simp
  | cs :: r, h => by
    have := flat_len r fun c hc => h c (by simp [hc])
    simp only [List.flatten_cons, List.length_append, List.length_cons, this, h cs (by simp), Nat.add_mul]
    omega
theorem flat_get {α : Type} {k : Nat} : ∀ (css : List (List α)), (∀ cs ∈ css, cs.length = k) → ∀ (i j : Nat) (cs : List α) (v : α), css[i]? = some cs → cs[j]? = some v → css.flatten[i * k + j]? = some v
  | [], _, i, j, cs, v, h1, _ => by simp at h1
  | c :: r, h, 0, j, cs, v, h1, h2 => by
    simp at h1
    subst h1
    have hj := (List.getElem?_eq_some_iff.1 h2).1
    rw [List.flatten_cons, Nat.zero_mul, Nat.zero_add, List.getElem?_append_left hj]
    exact h2
  | c :: r, h, i + 1, j, cs, v, h1, h2 => by
    have hc := h c (by simp)
    have := flat_get r (fun c hc => h c (by simp [hc])) i j cs v (by simpa using h1) h2
    rw [List.flatten_cons, List.getElem?_append_right (by rw [hc, Nat.add_mul]; omega)]
    rw [show (i + 1) * k + j - c.length = i * k + j by rw [hc, Nat.add_mul]; omega]
    exact this

/-! ### rows of one's own -/
/-- what a row's elements may lead to: new memory, but not the row's own block -/
def Dn (lo : Nat) (v : Value) (w : World) : Mem := fun b o u => lo ≤ b ∧ some b ≠ v.ownBlock ∧ Cu w.heap b o u

structure Own {α : Type} (R : Rd α) (e lo : Nat) (w : World) (v : Value) (l : List α) : Prop where
  row : ∃ css : List (List Value), w.ownsRow lo e R.sz v l.length css.flatten ∧ All2 (R.den (Dn lo v w)) css l
  low : lo ≤ w.heap.size

section
variable {α : Type} {R : Rd α} {e lo : Nat} {w w' : World} {v : Value} {l : List α}

theorem Own.nil (R : Rd α) (e : Nat) {lo : Nat} {w : World} (h : lo ≤ w.heap.size) : Own R e lo w (.slice none 0 0) [] := ⟨⟨[], ⟨by simp, .inl ⟨rfl, rfl⟩⟩, trivial⟩, h⟩
theorem Own.empty (R : Rd α) {e lo : Nat} {w : World} {b : Nat} (hb : Bk w.heap b [] e) (h : lo ≤ b) : Own R e lo w (.slice (some ⟨b, 0, none⟩) 0 0) [] :=
  ⟨⟨[], own_bk (n := 0) hb h (by simp) (by simp [maxLen]), trivial⟩, Nat.le_trans h (Nat.le_of_lt hb.lt)⟩
theorem Own.block (h : Own R e lo w v l) : ∀ g, v.ownBlock = some g → lo ≤ g ∧ g < w.heap.size := by
  intro g hg
  obtain ⟨css, h1, _⟩ := h.row
  rcases h1.2 with ⟨rfl, _⟩ | ⟨g', cap, cur, rfl, hb, hc, _⟩
  · cases hg
  · simp [Value.ownBlock] at hg
    subst hg
    exact ⟨hb, (Array.getElem?_eq_some_iff.1 hc).1⟩
theorem Own.kp (h : Own R e lo w v l) (k : Kp [] w w') : Own R e lo w' v l := by
  obtain ⟨⟨css, h1, h2⟩, h3⟩ := h
  exact ⟨⟨css, own_kp h1 k (by simp), h2.mono fun cs x hx => R.mono (fun b o u hu => ⟨hu.1, hu.2.1, hu.2.2.kp k (by simp)⟩) hx⟩, Nat.le_trans h3 k.size⟩
theorem Own.low' (h : Own R e lo w v l) {lo' : Nat} (hl : lo' ≤ lo) : Own R e lo' w v l := by
  obtain ⟨⟨css, h1, h2⟩, h3⟩ := h
  refine ⟨⟨css, ⟨h1.1, ?_⟩, h2.mono fun cs x hx => R.mono (fun b o u hu => ⟨Nat.le_trans hl hu.1, hu.2.1, hu.2.2⟩) hx⟩, Nat.le_trans hl h3⟩
  rcases h1.2 with h | ⟨g, cap, cur, hv, hb, rest⟩
  · exact .inl h
  · exact .inr ⟨g, cap, cur, hv, Nat.le_trans hl hb, rest⟩
theorem Kp.own {w0 : World} (k0 : Kp [] w0 w) (k : Kp v.ownBlock.toList w w') (h : Own R e w0.heap.size w v l) : Kp [] w0 w' :=
  k0.trans k fun x hx hl => by
    have hx : v.ownBlock = some x := by simpa using hx
    have := (h.block x hx).1
    omega

theorem Own.len (h : Own R e lo w v l) : ∃ a cap, v = .slice a l.length cap := by
  obtain ⟨css, h1, _⟩ := h.row
  rcases h1.2 with ⟨rfl, h0⟩ | ⟨g', cap, cur, rfl, _⟩
  · exact ⟨none, 0, by rw [h0]⟩
  · exact ⟨_, cap, rfl⟩

theorem Own.den (h : Own R e lo w v l) (hl : l.length ≤ 1099511627776) : ∃ a cap, v = .slice a l.length cap ∧ Sl R (New lo w) a l := by
  obtain ⟨⟨css, h1, h2⟩, h3⟩ := h
  have hlen := h2.length
  have hk : ∀ cs ∈ css, cs.length = R.sz := by
    intro cs hcs
    obtain ⟨i, hi⟩ := List.getElem?_of_mem hcs
    have hil := (List.getElem?_eq_some_iff.1 hi).1
    obtain ⟨cs', h4, h5⟩ := h2.get (i := i) (a := l[i]'(by omega)) (by simp)
    rw [hi] at h4
    obtain rfl := Option.some.inj h4
    exact R.len h5
  rcases h1.2 with ⟨rfl, h0⟩ | ⟨g, cap, cur, rfl, hb, hg, hn, hm, hc, ht⟩
  · have : l = [] := List.length_eq_zero_iff.1 h0
    subst this
    exact ⟨none, 0, rfl, Sl.nil _ _ _⟩
  · refine ⟨_, cap, rfl, hl, .inr ⟨g, 0, rfl, fun i x hx => ?_⟩⟩
    obtain ⟨cs, h4, h5⟩ := h2.get hx
    refine ⟨cs, R.mono (fun b o u hu => ⟨hu.1, hu.2.2⟩) h5, fun j u hu => ⟨hb, cur, e, hg, ?_⟩⟩
    have := flat_get css hk i j cs u h4 hu
    rw [← ht, List.getElem?_take] at this
    split at this
    · rw [Nat.zero_add]; simpa using this
    · cases this

/-- append to a row of one's own -/
theorem Own.ap {P : Program} {τ : Tau} (hτ : TauOk P τ) {T bs : Nat} (hs : look τ.slcs T = some (e, R.sz, bs)) {z : List Value} (hz : τ.zero e = some z) (hsz : 0 < R.sz) {k : Value → World → Prop} {m c ty : Nat} {a : Option Addr}
    (h : Own R e lo w v l) (xs : List α) (css : List (List Value)) (hm : xs.length = m) (hx : All2 (R.den (Dn lo v w)) css xs) (hc : m = 0 ∨ ∃ b o, a = some ⟨b, o, none⟩ ∧ ∀ i x j u, css[i]? = some x → x[j]? = some u → Cl w.heap b (o + i * R.sz + j) u)
    (hbytes : (l.length + m) * bs ≤ 140737488355328) (h63 : l.length + m ≤ maxLen)
    (hk : ∀ v' w', Own R e lo w' v' (l ++ xs) → Kp v.ownBlock.toList w w' → (v'.ownBlock = v.ownBlock ∨ v'.ownBlock = some w.heap.size) → k v' w') : EvRun P (Builtin.append_ #[T, T] ty #[v, .slice a m c]) w k := by
  have hown := h
  obtain ⟨⟨css0, h1, h2⟩, hbase⟩ := h
  obtain ⟨hu, inf, hinf, hsize, hbs⟩ := hτ.slcs T e R.sz bs hs
  obtain ⟨inf', v0, hinf', hv, hcz, hsz'⟩ := zero_ok hτ hz
  have : inf' = inf := by rw [hinf'] at hinf; simpa using hinf
  subst this
  have hzs : v0.cells.size = R.sz := by rw [hcz, ← hsize, hsz']; simp
  have hxl := hx.length
  have hk1 : ∀ cs ∈ css, cs.length = R.sz := by
    intro cs hcs
    obtain ⟨i, hi⟩ := List.getElem?_of_mem hcs
    have hil := (List.getElem?_eq_some_iff.1 hi).1
    obtain ⟨cs', h4, h5⟩ := hx.get (i := i) (a := xs[i]'(by omega)) (by simp)
    rw [hi] at h4
    obtain rfl := Option.some.inj h4
    exact R.len h5
  have hone : ∀ u ∈ css.flatten, u.oneCell' = true := by
    intro u hu
    obtain ⟨cs, hcs, hu⟩ := List.mem_flatten.1 hu
    obtain ⟨i, hi⟩ := List.getElem?_of_mem hcs
    have hil := (List.getElem?_eq_some_iff.1 hi).1
    obtain ⟨cs', h4, h5⟩ := hx.get (i := i) (a := xs[i]'(by omega)) (by simp)
    rw [hi] at h4
    obtain rfl := Option.some.inj h4
    exact R.one h5 u hu
  have hfl : css.flatten.length = m * R.sz := by rw [flat_len css hk1, hxl, hm]
  have go : ∀ ad, a = some ad → (∀ j u, css.flatten[j]? = some u → w.cell? (ad.add j) = some u) → EvRun P (Builtin.append_ #[T, T] ty #[v, .slice a m c]) w k := fun ad ha hn => by
    subst ha
    obtain ⟨v', w', hr, ho, hg, _, hblk⟩ := run_append_own_at (P := P) w lo T ty e inf' v0 R.sz bs hu hinf hv hsize hbs hzs hsz v l.length css0.flatten h1 ad m c css.flatten hfl hn hone h63 hbytes hbase
    have hkp := grown_kp hg
    refine run hr (hk v' w' ⟨⟨css0 ++ css, ?_, ?_⟩, Nat.le_trans hbase hkp.size⟩ hkp hblk)
    · rw [List.flatten_append, List.length_append, hm]
      exact ho
    · have step : ∀ b o u, Dn lo v w b o u → Dn lo v' w' b o u := fun b o u hu => by
        refine ⟨hu.1, ?_, hu.2.2.kp hkp (by simpa using fun e => hu.2.1 e.symm)⟩
        rcases hblk with e1 | e1
        · rw [e1]; exact hu.2.1
        · rw [e1]
          have := hu.2.2.lt
          intro e2
          have := Option.some.inj e2
          omega
      exact (h2.mono fun cs x hx => R.mono step hx).append (hx.mono fun cs x hx => R.mono step hx)
  rcases hc with h0 | ⟨b, o, rfl, hn⟩
  · subst h0
    have hn0 : css.flatten = [] := List.eq_nil_of_length_eq_zero (by simpa using hfl)
    cases a with
    | some ad => exact go ad rfl (by simp [hn0])
    | none =>
      have hx0 : xs = [] := List.length_eq_zero_iff.1 hm
      refine run (append_none T ty e inf' hu hinf v l.length css0.flatten h1 c) (hk v w ?_ ((Kp.refl [] w).weak (by simp)) (.inl rfl))
      subst hx0
      simpa using hown
  · refine go _ rfl fun j u hj => ?_
    have hjl : j < m * R.sz := by rw [← hfl]; exact (List.getElem?_eq_some_iff.1 hj).1
    have hi : j / R.sz < css.length := by rw [hxl, hm]; exact (Nat.div_lt_iff_lt_mul hsz).2 hjl
    have hr : j % R.sz < R.sz := Nat.mod_lt _ hsz
    have hlen := hk1 css[j / R.sz] (by simp)
    have h5 := flat_get css hk1 (j / R.sz) (j % R.sz) css[j / R.sz] (css[j / R.sz][j % R.sz]'(by omega)) (by simp) (by simp)
    have hdm := Nat.div_add_mod' j R.sz
    rw [hdm, hj] at h5
    have h6 := hn (j / R.sz) css[j / R.sz] (j % R.sz) u (by simp) (by rw [h5]; simp)
    rw [show (⟨b, o, none⟩ : Addr).add j = ⟨b, o + j, none⟩ by unfold Addr.add; split <;> simp_all]
    rw [Nat.add_assoc, hdm] at h6
    exact h6.cell

/-- one element more -/
theorem Own.ap1 {P : Program} {τ : Tau} (hτ : TauOk P τ) {T bs : Nat} (hs : look τ.slcs T = some (e, R.sz, bs)) {z : List Value} (hz : τ.zero e = some z) (hsz : 0 < R.sz) {k : Value → World → Prop} {c ty b o : Nat}
    (h : Own R e lo w v l) (x : α) (cs : List Value) (hx : R.den (Dn lo v w) cs x) (hc : ∀ j u, cs[j]? = some u → Cl w.heap b (o + j) u)
    (hbytes : (l.length + 1) * bs ≤ 140737488355328) (h63 : l.length + 1 ≤ maxLen)
    (hk : ∀ v' w', Own R e lo w' v' (l ++ [x]) → Kp v.ownBlock.toList w w' → (v'.ownBlock = v.ownBlock ∨ v'.ownBlock = some w.heap.size) → k v' w') : EvRun P (Builtin.append_ #[T, T] ty #[v, .slice (some ⟨b, o, none⟩) 1 c]) w k :=
  h.ap hτ hs hz hsz [x] [cs] rfl ⟨hx, trivial⟩ (.inr ⟨b, o, rfl, fun i y j u hi hj => by
    match i with
    | 0 =>
      simp at hi
      subst hi
      rw [Nat.zero_mul, Nat.add_zero]
      exact hc j u hj
    | i + 1 => simp at hi⟩) hbytes h63 hk
end

/-! ### small helps for loops -/
theorem drop_get {α : Type} {l : List α} {k : Nat} (h : k < l.length) : ∃ x, l[k]? = some x ∧ l.drop k = x :: l.drop (k + 1) :=
  ⟨l[k], by simp, List.drop_eq_getElem_cons h⟩
theorem take_get {α : Type} {l : List α} {k : Nat} {x : α} (h : l[k]? = some x) : l.take (k + 1) = l.take k ++ [x] := by
  rw [List.take_add_one, h]
  rfl
theorem get_lt {α : Type} {l : List α} {k : Nat} {x : α} (h : l[k]? = some x) : k < l.length := (List.getElem?_eq_some_iff.1 h).1
end Go.Wx
