/-
  Own texts put together: WxP, WxF, WxG, WxH, WxI, WxJ.
-/
import Derived.Test.YtbggaljmollhmaaGreatDoorMg02
import Derived.Maps.AppendAt
import Derived.Laws.CopyRow
/-
  Wx: readings: what rows of cells say, told over a set of cells; rows of one's own whose elements have depth.
-/
set_option linter.unusedSimpArgs false
set_option linter.unusedVariables false
namespace Go.Wx

def I64 (n : Int) : Prop := -9223372036854775808 ≤ n ∧ n ≤ 9223372036854775807

/-- a set of cells: block, place, what it holds -/
abbrev Mem := Nat → Nat → Value → Prop
def Sub (C : Mem) (w : World) : Prop := ∀ b o v, C b o v → Cl w.heap b o v
theorem Sub.tr {C : Mem} {w w' : World} (h : Sub C w) (k : Kp [] w w') : Sub C w' := fun b o v hc => (h b o v hc).kp k (by simp)
theorem Sub.kp {C : Mem} {X : List Nat} {w w' : World} (h : Sub C w) (k : Kp X w w') (hx : ∀ b o v, C b o v → b ∉ X) : Sub C w' := fun b o v hc => (h b o v hc).kp k (hx b o v hc)
theorem Sub.dr {C : Mem} {w : World} (h : Sub C w) (m : Nat) : Sub C { w with drawn := m } := h

/-- what was there at the start -/
def Old (w : World) : Mem := fun b o v => Cl w.heap b o v
theorem Old.sub (w : World) : Sub (Old w) w := fun _ _ _ h => h

/-- the cell (b, o) holds v, and its block is not frozen -/
def Cu (h : Array Obj) (b o : Nat) (v : Value) : Prop := ∃ c T, h[b]? = some (.cells c T (0, 0)) ∧ c[o]? = some v
theorem Cu.cl {h : Array Obj} {b o : Nat} {v : Value} (hc : Cu h b o v) : Cl h b o v := by
  obtain ⟨c, T, h1, h2⟩ := hc
  exact ⟨c, T, _, h1, h2⟩
theorem Cu.lt {h : Array Obj} {b o : Nat} {v : Value} (hc : Cu h b o v) : b < h.size := hc.cl.lt
theorem Cu.kp {X : List Nat} {w w' : World} {b o : Nat} {v : Value} (hc : Cu w.heap b o v) (k : Kp X w w') (hx : b ∉ X) : Cu w'.heap b o v := by
  have hl := hc.lt
  obtain ⟨c, T, h1, h2⟩ := hc
  exact ⟨c, T, by rw [k.block b hl hx]; exact h1, h2⟩
theorem Bk.cu {h : Array Obj} {b : Nat} {cs : List Value} {T : TypeId} (hb : Bk h b cs T) {o : Nat} {v : Value} (hv : cs[o]? = some v) : Cu h b o v := ⟨_, _, hb, by simpa using hv⟩

/-- new memory: blocks from n on, not frozen -/
def New (n : Nat) (w : World) : Mem := fun b o v => n ≤ b ∧ Cu w.heap b o v
theorem New.sub (n : Nat) (w : World) : Sub (New n w) w := fun _ _ _ h => h.2.cl
theorem New.up {n m : Nat} {w w' : World} (hn : m ≤ n) (k : Kp [] w w') : ∀ b o v, New n w b o v → New m w' b o v := fun b o v h => ⟨Nat.le_trans hn h.1, h.2.kp k (by simp)⟩

/-- how cells read as a thing -/
structure Rd (α : Type) where
  sz : Nat
  den : Mem → List Value → α → Prop
  len : ∀ {C cs x}, den C cs x → cs.length = sz
  mono : ∀ {C C' : Mem} {cs x}, (∀ b o v, C b o v → C' b o v) → den C cs x → den C' cs x
  one : ∀ {C cs x}, den C cs x → ∀ u ∈ cs, u.oneCell' = true

section
variable {α : Type}
def Rd.At (R : Rd α) (C : Mem) (b o : Nat) (x : α) : Prop := ∃ cs, R.den C cs x ∧ ∀ j v, cs[j]? = some v → C b (o + j) v
theorem Rd.At.mono {R : Rd α} {C C' : Mem} {b o : Nat} {x : α} (h : R.At C b o x) (hc : ∀ b o v, C b o v → C' b o v) : R.At C' b o x := by
  obtain ⟨cs, h1, h2⟩ := h
  exact ⟨cs, R.mono hc h1, fun j v hj => hc _ _ _ (h2 j v hj)⟩

/-- a slice at 'a' reads as the list -/
def Sl (R : Rd α) (C : Mem) (a : Option Addr) (l : List α) : Prop :=
  l.length ≤ 1099511627776 ∧ (l.length = 0 ∨ ∃ b o, a = some ⟨b, o, none⟩ ∧ ∀ i x, l[i]? = some x → R.At C b (o + i * R.sz) x)
theorem Sl.mono {R : Rd α} {C C' : Mem} {a : Option Addr} {l : List α} (h : Sl R C a l) (hc : ∀ b o v, C b o v → C' b o v) : Sl R C' a l := by
  refine ⟨h.1, ?_⟩
  rcases h.2 with h0 | ⟨b, o, h1, h2⟩
  · exact .inl h0
  · exact .inr ⟨b, o, h1, fun i x hx => (h2 i x hx).mono hc⟩
theorem Sl.nil (R : Rd α) (C : Mem) (a : Option Addr) : Sl R C a [] := ⟨by simp, .inl rfl⟩
theorem Sl.at {R : Rd α} {C : Mem} {a : Option Addr} {l : List α} (h : Sl R C a l) {i : Nat} (hi : i < l.length) : ∃ b o, a = some ⟨b, o, none⟩ ∧ ∀ i x, l[i]? = some x → R.At C b (o + i * R.sz) x := by
  rcases h.2 with h0 | h1
  · omega
  · exact h1

def rSl (R : Rd α) : Rd (List α) where
  sz := 1
  den C cs l := ∃ a cap, cs = [.slice a l.length cap] ∧ Sl R C a l
  len := by rintro C cs x ⟨a, cap, rfl, _⟩; rfl
  mono := by rintro C C' cs x hc ⟨a, cap, rfl, h⟩; exact ⟨a, cap, rfl, h.mono hc⟩
  one := by rintro C cs x ⟨a, cap, rfl, h⟩ u hu; simp at hu; subst hu; rfl
end

def rInt : Rd Int where
  sz := 1
  den _ cs x := cs = [.int .i64 x] ∧ I64 x
  len := by rintro _ cs x ⟨rfl, _⟩; rfl
  mono := by rintro _ _ cs x _ h; exact h
  one := by rintro _ cs x ⟨rfl, _⟩ u hu; simp at hu; subst hu; rfl

def rBool : Rd Bool where
  sz := 1
  den _ cs x := cs = [.bool x]
  len := by rintro _ cs x rfl; rfl
  mono := by rintro _ _ cs x _ h; exact h
  one := by rintro _ cs x rfl u hu; simp at hu; subst hu; rfl

def rU8 : Rd Nat where
  sz := 1
  den _ cs x := cs = [.int .u8 (x : Int)] ∧ x < 256
  len := by rintro _ cs x ⟨rfl, _⟩; rfl
  mono := by rintro _ _ cs x _ h; exact h
  one := by rintro _ cs x ⟨rfl, _⟩ u hu; simp at hu; subst hu; rfl

theorem Sl.int {C : Mem} {a : Option Addr} {l : List Int} (h : Sl rInt C a l) {i : Nat} {x : Int} (hi : l[i]? = some x) : ∃ b o, a = some ⟨b, o, none⟩ ∧ C b (o + i * 1) (.int .i64 x) ∧ I64 x := by
  obtain ⟨b, o, ha, hc⟩ := h.at (List.getElem?_eq_some_iff.1 hi).1
  obtain ⟨cs, ⟨rfl, h64⟩, h2⟩ := hc i x hi
  exact ⟨b, o, ha, h2 0 _ rfl, h64⟩
theorem Sl.bool {C : Mem} {a : Option Addr} {l : List Bool} (h : Sl rBool C a l) {i : Nat} {x : Bool} (hi : l[i]? = some x) : ∃ b o, a = some ⟨b, o, none⟩ ∧ C b (o + i * 1) (.bool x) := by
  obtain ⟨b, o, ha, hc⟩ := h.at (List.getElem?_eq_some_iff.1 hi).1
  obtain ⟨cs, rfl, h2⟩ := hc i x hi
  exact ⟨b, o, ha, h2 0 _ rfl⟩
theorem Sl.u8 {C : Mem} {a : Option Addr} {l : List Nat} (h : Sl rU8 C a l) {i : Nat} {x : Nat} (hi : l[i]? = some x) : ∃ b o, a = some ⟨b, o, none⟩ ∧ C b (o + i * 1) (.int .u8 (x : Int)) ∧ x < 256 := by
  obtain ⟨b, o, ha, hc⟩ := h.at (List.getElem?_eq_some_iff.1 hi).1
  obtain ⟨cs, ⟨rfl, h64⟩, h2⟩ := hc i x hi
  exact ⟨b, o, ha, h2 0 _ rfl, h64⟩
/-- an element that is a slice itself -/
theorem Sl.sl {α : Type} {R : Rd α} {C : Mem} {a : Option Addr} {l : List (List α)} (h : Sl (rSl R) C a l) {i : Nat} {x : List α} (hi : l[i]? = some x) :
    ∃ b o, a = some ⟨b, o, none⟩ ∧ ∃ a' cap, C b (o + i * 1) (.slice a' x.length cap) ∧ Sl R C a' x := by
  obtain ⟨b, o, ha, hc⟩ := h.at (List.getElem?_eq_some_iff.1 hi).1
  obtain ⟨cs, ⟨a', cap, rfl, hs⟩, h2⟩ := hc i x hi
  exact ⟨b, o, ha, a', cap, h2 0 _ rfl, hs⟩

/-! ### loads over a set of cells -/
theorem ldC {C : Mem} {w : World} (hs : Sub C w) {b o : Nat} {v : Value} {k : Value → Prop} (h : C b o v) (hk : k v) : EvLd w ⟨b, o, none⟩ k := ld (hs b o v h).cell hk
theorem ldNC {C : Mem} {w : World} (hs : Sub C w) {b o n : Nat} {k : Value → Prop} (cs : List Value) (hn : cs.length = n) (h : ∀ j v, cs[j]? = some v → C b (o + j) v) (hk : k (.agg cs.toArray)) : EvLdN w ⟨b, o, none⟩ n k :=
  ldN cs hn (fun j v hj => hs _ _ _ (h j v hj)) hk

/-! ### two lists side by side -/
def All2 {α β : Type} (p : β → α → Prop) : List β → List α → Prop
  | [], [] => True
  | b :: bs, a :: as => p b a ∧ All2 p bs as
  | _, _ => False
section
variable {α β : Type} {p q : β → α → Prop}
theorem All2.length : ∀ {l : List β} {m : List α}, All2 p l m → l.length = m.length
  | [], [], _ => rfl
  | _ :: _, _ :: _, h => by simp [All2.length h.2]
  | [], _ :: _, h => h.elim
  | _ :: _, [], h => h.elim
theorem All2.mono (hpq : ∀ b a, p b a → q b a) : ∀ {l : List β} {m : List α}, All2 p l m → All2 q l m
  | [], [], _ => trivial
  | _ :: _, _ :: _, h => ⟨hpq _ _ h.1, All2.mono hpq h.2⟩
  | [], _ :: _, h => h.elim
  | _ :: _, [], h => h.elim
theorem All2.append : ∀ {l : List β} {m : List α} {l' : List β} {m' : List α}, All2 p l m → All2 p l' m' → All2 p (l ++ l') (m ++ m')
  | [], [], _, _, _, h' => h'
  | _ :: _, _ :: _, _, _, h, h' => ⟨h.1, All2.append h.2 h'⟩
  | [], _ :: _, _, _, h, _ => h.elim
  | _ :: _, [], _, _, h, _ => h.elim
theorem All2.get : ∀ {l : List β} {m : List α} {i : Nat} {a : α}, All2 p l m → m[i]? = some a → ∃ b, l[i]? = some b ∧ p b a
  | [], [], i, a, _, h => by simp at h
  | b :: _, _ :: _, 0, a, h, hi => by simp at hi; subst hi; exact ⟨b, rfl, h.1⟩
  | _ :: _, _ :: _, i + 1, a, h, hi => by simpa using All2.get h.2 (by simpa using hi)
  | [], _ :: _, _, _, h, _ => h.elim
  | _ :: _, [], _, _, h, _ => h.elim
end

theorem flat_len {α : Type} {k : Nat} : ∀ (css : List (List α)), (∀ cs ∈ css, cs.length = k) → css.flatten.length = css.length * k
  | [], _ => by simp
  | cs :: r, h => by
    have := flat_len r fun c hc => h c (by simp [hc])
    simp only [List.flatten_cons, List.length_append, List.length_cons, this, h cs (by simp), Nat.add_mul]
    omega
theorem flat_get {α : Type} {k : Nat} : ∀ (css : List (List α)), (∀ cs ∈ css, cs.length = k) → ∀ (i j : Nat) (cs : List α) (v : α), css[i]? = some cs → cs[j]? = some v → css.flatten[i * k + j]? = some v
  | [], _, i, j, cs, v, h1, _ => by simp at h1
  | c :: r, h, 0, j, cs, v, h1, h2 => by
    simp at h1
    subst h1
    have hj := (List.getElem?_eq_some_iff.1 h2).1
    rw [List.flatten_cons, Nat.zero_mul, Nat.zero_add, List.getElem?_append_left hj]
    exact h2
  | c :: r, h, i + 1, j, cs, v, h1, h2 => by
    have hc := h c (by simp)
    have := flat_get r (fun c hc => h c (by simp [hc])) i j cs v (by simpa using h1) h2
    rw [List.flatten_cons, List.getElem?_append_right (by rw [hc, Nat.add_mul]; omega)]
    rw [show (i + 1) * k + j - c.length = i * k + j by rw [hc, Nat.add_mul]; omega]
    exact this

/-! ### rows of one's own -/
/-- what a row's elements may lead to: new memory, but not the row's own block -/
def Dn (lo : Nat) (v : Value) (w : World) : Mem := fun b o u => lo ≤ b ∧ some b ≠ v.ownBlock ∧ Cu w.heap b o u

structure Own {α : Type} (R : Rd α) (e lo : Nat) (w : World) (v : Value) (l : List α) : Prop where
  row : ∃ css : List (List Value), w.ownsRow lo e R.sz v l.length css.flatten ∧ All2 (R.den (Dn lo v w)) css l
  low : lo ≤ w.heap.size

section
variable {α : Type} {R : Rd α} {e lo : Nat} {w w' : World} {v : Value} {l : List α}

theorem Own.nil (R : Rd α) (e : Nat) {lo : Nat} {w : World} (h : lo ≤ w.heap.size) : Own R e lo w (.slice none 0 0) [] := ⟨⟨[], ⟨by simp, .inl ⟨rfl, rfl⟩⟩, trivial⟩, h⟩
theorem Own.empty (R : Rd α) {e lo : Nat} {w : World} {b : Nat} (hb : Bk w.heap b [] e) (h : lo ≤ b) : Own R e lo w (.slice (some ⟨b, 0, none⟩) 0 0) [] :=
  ⟨⟨[], own_bk (n := 0) hb h (by simp) (by simp [maxLen]), trivial⟩, Nat.le_trans h (Nat.le_of_lt hb.lt)⟩
theorem Own.block (h : Own R e lo w v l) : ∀ g, v.ownBlock = some g → lo ≤ g ∧ g < w.heap.size := by
  intro g hg
  obtain ⟨css, h1, _⟩ := h.row
  rcases h1.2 with ⟨rfl, _⟩ | ⟨g', cap, cur, rfl, hb, hc, _⟩
  · cases hg
  · simp [Value.ownBlock] at hg
    subst hg
    exact ⟨hb, (Array.getElem?_eq_some_iff.1 hc).1⟩
theorem Own.kp (h : Own R e lo w v l) (k : Kp [] w w') : Own R e lo w' v l := by
  obtain ⟨⟨css, h1, h2⟩, h3⟩ := h
  exact ⟨⟨css, own_kp h1 k (by simp), h2.mono fun cs x hx => R.mono (fun b o u hu => ⟨hu.1, hu.2.1, hu.2.2.kp k (by simp)⟩) hx⟩, Nat.le_trans h3 k.size⟩
theorem Own.low' (h : Own R e lo w v l) {lo' : Nat} (hl : lo' ≤ lo) : Own R e lo' w v l := by
  obtain ⟨⟨css, h1, h2⟩, h3⟩ := h
  refine ⟨⟨css, ⟨h1.1, ?_⟩, h2.mono fun cs x hx => R.mono (fun b o u hu => ⟨Nat.le_trans hl hu.1, hu.2.1, hu.2.2⟩) hx⟩, Nat.le_trans hl h3⟩
  rcases h1.2 with h | ⟨g, cap, cur, hv, hb, rest⟩
  · exact .inl h
  · exact .inr ⟨g, cap, cur, hv, Nat.le_trans hl hb, rest⟩
theorem Kp.own {w0 : World} (k0 : Kp [] w0 w) (k : Kp v.ownBlock.toList w w') (h : Own R e w0.heap.size w v l) : Kp [] w0 w' :=
  k0.trans k fun x hx hl => by
    have hx : v.ownBlock = some x := by simpa using hx
    have := (h.block x hx).1
    omega

theorem Own.len (h : Own R e lo w v l) : ∃ a cap, v = .slice a l.length cap := by
  obtain ⟨css, h1, _⟩ := h.row
  rcases h1.2 with ⟨rfl, h0⟩ | ⟨g', cap, cur, rfl, _⟩
  · exact ⟨none, 0, by rw [h0]⟩
  · exact ⟨_, cap, rfl⟩

theorem Own.den (h : Own R e lo w v l) (hl : l.length ≤ 1099511627776) : ∃ a cap, v = .slice a l.length cap ∧ Sl R (New lo w) a l := by
  obtain ⟨⟨css, h1, h2⟩, h3⟩ := h
  have hlen := h2.length
  have hk : ∀ cs ∈ css, cs.length = R.sz := by
    intro cs hcs
    obtain ⟨i, hi⟩ := List.getElem?_of_mem hcs
    have hil := (List.getElem?_eq_some_iff.1 hi).1
    obtain ⟨cs', h4, h5⟩ := h2.get (i := i) (a := l[i]'(by omega)) (by simp)
    rw [hi] at h4
    obtain rfl := Option.some.inj h4
    exact R.len h5
  rcases h1.2 with ⟨rfl, h0⟩ | ⟨g, cap, cur, rfl, hb, hg, hn, hm, hc, ht⟩
  · have : l = [] := List.length_eq_zero_iff.1 h0
    subst this
    exact ⟨none, 0, rfl, Sl.nil _ _ _⟩
  · refine ⟨_, cap, rfl, hl, .inr ⟨g, 0, rfl, fun i x hx => ?_⟩⟩
    obtain ⟨cs, h4, h5⟩ := h2.get hx
    refine ⟨cs, R.mono (fun b o u hu => ⟨hu.1, hu.2.2⟩) h5, fun j u hu => ⟨hb, cur, e, hg, ?_⟩⟩
    have := flat_get css hk i j cs u h4 hu
    rw [← ht, List.getElem?_take] at this
    split at this
    · rw [Nat.zero_add]; simpa using this
    · cases this

/-- append to a row of one's own -/
theorem Own.ap {P : Program} {τ : Tau} (hτ : TauOk P τ) {T bs : Nat} (hs : look τ.slcs T = some (e, R.sz, bs)) {z : List Value} (hz : τ.zero e = some z) (hsz : 0 < R.sz) {k : Value → World → Prop} {m c ty : Nat} {a : Option Addr}
    (h : Own R e lo w v l) (xs : List α) (css : List (List Value)) (hm : xs.length = m) (hx : All2 (R.den (Dn lo v w)) css xs) (hc : m = 0 ∨ ∃ b o, a = some ⟨b, o, none⟩ ∧ ∀ i x j u, css[i]? = some x → x[j]? = some u → Cl w.heap b (o + i * R.sz + j) u)
    (hbytes : (l.length + m) * bs ≤ 140737488355328) (h63 : l.length + m ≤ maxLen)
    (hk : ∀ v' w', Own R e lo w' v' (l ++ xs) → Kp v.ownBlock.toList w w' → (v'.ownBlock = v.ownBlock ∨ v'.ownBlock = some w.heap.size) → k v' w') : EvRun P (Builtin.append_ #[T, T] ty #[v, .slice a m c]) w k := by
  have hown := h
  obtain ⟨⟨css0, h1, h2⟩, hbase⟩ := h
  obtain ⟨hu, inf, hinf, hsize, hbs⟩ := hτ.slcs T e R.sz bs hs
  obtain ⟨inf', v0, hinf', hv, hcz, hsz'⟩ := zero_ok hτ hz
  have : inf' = inf := by rw [hinf'] at hinf; simpa using hinf
  subst this
  have hzs : v0.cells.size = R.sz := by rw [hcz, ← hsize, hsz']; simp
  have hxl := hx.length
  have hk1 : ∀ cs ∈ css, cs.length = R.sz := by
    intro cs hcs
    obtain ⟨i, hi⟩ := List.getElem?_of_mem hcs
    have hil := (List.getElem?_eq_some_iff.1 hi).1
    obtain ⟨cs', h4, h5⟩ := hx.get (i := i) (a := xs[i]'(by omega)) (by simp)
    rw [hi] at h4
    obtain rfl := Option.some.inj h4
    exact R.len h5
  have hone : ∀ u ∈ css.flatten, u.oneCell' = true := by
    intro u hu
    obtain ⟨cs, hcs, hu⟩ := List.mem_flatten.1 hu
    obtain ⟨i, hi⟩ := List.getElem?_of_mem hcs
    have hil := (List.getElem?_eq_some_iff.1 hi).1
    obtain ⟨cs', h4, h5⟩ := hx.get (i := i) (a := xs[i]'(by omega)) (by simp)
    rw [hi] at h4
    obtain rfl := Option.some.inj h4
    exact R.one h5 u hu
  have hfl : css.flatten.length = m * R.sz := by rw [flat_len css hk1, hxl, hm]
  have go : ∀ ad, a = some ad → (∀ j u, css.flatten[j]? = some u → w.cell? (ad.add j) = some u) → EvRun P (Builtin.append_ #[T, T] ty #[v, .slice a m c]) w k := fun ad ha hn => by
    subst ha
    obtain ⟨v', w', hr, ho, hg, _, hblk⟩ := run_append_own_at (P := P) w lo T ty e inf' v0 R.sz bs hu hinf hv hsize hbs hzs hsz v l.length css0.flatten h1 ad m c css.flatten hfl hn hone h63 hbytes hbase
    have hkp := grown_kp hg
    refine run hr (hk v' w' ⟨⟨css0 ++ css, ?_, ?_⟩, Nat.le_trans hbase hkp.size⟩ hkp hblk)
    · rw [List.flatten_append, List.length_append, hm]
      exact ho
    · have step : ∀ b o u, Dn lo v w b o u → Dn lo v' w' b o u := fun b o u hu => by
        refine ⟨hu.1, ?_, hu.2.2.kp hkp (by simpa using fun e => hu.2.1 e.symm)⟩
        rcases hblk with e1 | e1
        · rw [e1]; exact hu.2.1
        · rw [e1]
          have := hu.2.2.lt
          intro e2
          have := Option.some.inj e2
          omega
      exact (h2.mono fun cs x hx => R.mono step hx).append (hx.mono fun cs x hx => R.mono step hx)
  rcases hc with h0 | ⟨b, o, rfl, hn⟩
  · subst h0
    have hn0 : css.flatten = [] := List.eq_nil_of_length_eq_zero (by simpa using hfl)
    cases a with
    | some ad => exact go ad rfl (by simp [hn0])
    | none =>
      have hx0 : xs = [] := List.length_eq_zero_iff.1 hm
      refine run (append_none T ty e inf' hu hinf v l.length css0.flatten h1 c) (hk v w ?_ ((Kp.refl [] w).weak (by simp)) (.inl rfl))
      subst hx0
      simpa using hown
  · refine go _ rfl fun j u hj => ?_
    have hjl : j < m * R.sz := by rw [← hfl]; exact (List.getElem?_eq_some_iff.1 hj).1
    have hi : j / R.sz < css.length := by rw [hxl, hm]; exact (Nat.div_lt_iff_lt_mul hsz).2 hjl
    have hr : j % R.sz < R.sz := Nat.mod_lt _ hsz
    have hlen := hk1 css[j / R.sz] (by simp)
    have h5 := flat_get css hk1 (j / R.sz) (j % R.sz) css[j / R.sz] (css[j / R.sz][j % R.sz]'(by omega)) (by simp) (by simp)
    have hdm := Nat.div_add_mod' j R.sz
    rw [hdm, hj] at h5
    have h6 := hn (j / R.sz) css[j / R.sz] (j % R.sz) u (by simp) (by rw [h5]; simp)
    rw [show (⟨b, o, none⟩ : Addr).add j = ⟨b, o + j, none⟩ by unfold Addr.add; split <;> simp_all]
    rw [Nat.add_assoc, hdm] at h6
    exact h6.cell

/-- one element more -/
theorem Own.ap1 {P : Program} {τ : Tau} (hτ : TauOk P τ) {T bs : Nat} (hs : look τ.slcs T = some (e, R.sz, bs)) {z : List Value} (hz : τ.zero e = some z) (hsz : 0 < R.sz) {k : Value → World → Prop} {c ty b o : Nat}
    (h : Own R e lo w v l) (x : α) (cs : List Value) (hx : R.den (Dn lo v w) cs x) (hc : ∀ j u, cs[j]? = some u → Cl w.heap b (o + j) u)
    (hbytes : (l.length + 1) * bs ≤ 140737488355328) (h63 : l.length + 1 ≤ maxLen)
    (hk : ∀ v' w', Own R e lo w' v' (l ++ [x]) → Kp v.ownBlock.toList w w' → (v'.ownBlock = v.ownBlock ∨ v'.ownBlock = some w.heap.size) → k v' w') : EvRun P (Builtin.append_ #[T, T] ty #[v, .slice (some ⟨b, o, none⟩) 1 c]) w k :=
  h.ap hτ hs hz hsz [x] [cs] rfl ⟨hx, trivial⟩ (.inr ⟨b, o, rfl, fun i y j u hi hj => by
    match i with
    | 0 =>
      simp at hi
      subst hi
      rw [Nat.zero_mul, Nat.add_zero]
      exact hc j u hj
    | i + 1 => simp at hi⟩) hbytes h63 hk
end

/-! ### small helps for loops -/
theorem drop_get {α : Type} {l : List α} {k : Nat} (h : k < l.length) : ∃ x, l[k]? = some x ∧ l.drop k = x :: l.drop (k + 1) :=
  ⟨l[k], by simp, List.drop_eq_getElem_cons h⟩
theorem take_get {α : Type} {l : List α} {k : Nat} {x : α} (h : l[k]? = some x) : l.take (k + 1) = l.take k ++ [x] := by
  rw [List.take_add_one, h]
  rfl
theorem get_lt {α : Type} {l : List α} {k : Nat} {x : α} (h : l[k]? = some x) : k < l.length := (List.getElem?_eq_some_iff.1 h).1
end Go.Wx

/-
  Wx: regions that draw and write: many reads taken at once.
-/
set_option linter.unusedSimpArgs false
set_option linter.unusedVariables false
namespace Go.Wx

def marks : Array Bool → List Nat → Array Bool
  | a, [] => a
  | a, i :: r => marks (a.setIfInBounds i true) r

def takesOk (l : Array Oper) : Array Bool → List Nat → Bool
  | _, [] => true
  | listed, i :: r => Region.free .any l listed i && ((Region.ready .any l listed).contains i && takesOk l (listed.setIfInBounds i true) r)

def picks (l : Array Oper) : List Nat → List Oper → Prop
  | [], [] => True
  | i :: r, o :: os => l[i]? = some o ∧ plainOp' o.op = true ∧ picks l r os
  | _, _ => False
where
  plainOp' : Op → Bool
  | .move .. | .assign .. | .load .. | .fieldAddr .. | .indexAddr .. | .binOp .. | .unOp .. | .convert .. | .extract .. | .build .. | .pick .. | .field .. | .slice .. | .nilCheck .. => true
  | .call c => match c.callee with
    | .builtin .len => true
    | .builtin .min => true
    | .builtin .max => true
    | _ => false
  | _ => false

theorem plain_value' {P : Program} {a : Act} {o : Oper} (hp : picks.plainOp' o.op = true) {w w' : World} {r : Next} (h : (execOp a.eval o).run P w = .ok r w') : ∃ v, r = .value v := by
  have fin : ∀ m : Sem Value, execOp a.eval o = (do pure (.value (← m))) → ∃ v, r = .value v := fun m he => by
    rw [he] at h
    simp only [Sem.run_bind, Sem.run_pure] at h
    unfold Result.andThen at h
    split at h
    · injection h with h1 h2; exact ⟨_, h1.symm⟩
    · cases h
  cases hop : o.op <;> rw [hop] at hp <;> simp only [picks.plainOp', Bool.false_eq_true] at hp
  case call c =>
    cases hc : c.callee with
    | builtin b =>
      rw [hc] at hp
      cases b <;> simp only [Bool.false_eq_true] at hp
      case len => exact fin (Builtin.len_ c.argTypes o.type (c.args.map a.eval)) (by simp [execOp, hop, resolve, hc, invoke, builtin])
      case min => exact fin (Builtin.min_ c.argTypes o.type (c.args.map a.eval)) (by simp [execOp, hop, resolve, hc, invoke, builtin])
      case max => exact fin (Builtin.max_ c.argTypes o.type (c.args.map a.eval)) (by simp [execOp, hop, resolve, hc, invoke, builtin])
    | value f => rw [hc] at hp; cases hp
    | invoke r m => rw [hc] at hp; cases hp
  case nilCheck x =>
    simp only [execOp, hop] at h
    split at h
    all_goals first
      | (simp only [Sem.run_pure] at h; injection h with h1 h2; exact ⟨_, h1.symm⟩)
      | skip
    all_goals first
      | (simp [runtimePanic, goPanic] at h; done)
      | skip
    split at h
    · simp [runtimePanic, goPanic] at h
    · simp only [Sem.run_bind, run_program, Result.andThen_ok] at h
      generalize (nilAhead _ _ _ _).run P w = q at h
      cases q with
      | halt x w1 => cases h
      | ok y w1 =>
        simp only [Result.andThen_ok] at h
        split at h
        · simp [unsupported] at h
        · simp only [Sem.run_pure] at h; injection h with h1 h2; exact ⟨_, h1.symm⟩
    · simp only [Sem.run_pure] at h; injection h with h1 h2; exact ⟨_, h1.symm⟩
  all_goals simp only [execOp, hop, Sem.run_bind, Sem.run_pure] at h
  all_goals first
    | (injection h with h1 h2; exact ⟨_, h1.symm⟩)
    | (unfold Result.andThen at h; split at h <;> first | (injection h with h1 h2; exact ⟨_, h1.symm⟩) | cases h)
    | skip

section
variable {P : Program} {τ : Tau} {n : Nat} {S : World → Prop} {l : List Oper} {K : Exit → St → World → Prop} {s : St} {w : World}

theorem wpAnyH_takes (hs : Region.noSelect l.toArray = true) (hS : S w) {fuel : Nat} : ∀ (is : List Nat) (ops : List Oper) (listed : Array Bool) (a : Act), picks l.toArray is ops → takesOk l.toArray listed is = true →
    wpQuiet P l.toArray S (fun a' => wpAnyH P .any l.toArray (endQ n K) S fuel (marks listed is) a' w) ops a → wpAnyH P .any l.toArray (endQ n K) S (fuel + is.length) listed a w
  | [], [], listed, a, _, _, h => h
  | i :: r, o :: os, listed, a, hp, ht, h => by
    obtain ⟨hi, hpl, hp'⟩ := hp
    simp only [takesOk, Bool.and_eq_true] at ht
    obtain ⟨hf, hr, ht'⟩ := ht
    unfold wpQuiet at h
    have e : fuel + (i :: r).length = (fuel + r.length) + 1 := by simp; omega
    rw [e]
    split at h
    · rename_i hw
      obtain ⟨v, hv, hn⟩ := h
      refine wpAnyH_take hi hs hf hr (fun c a w hq => by cases hq.1) (.inl ⟨hw, fun w' hw' => ?_⟩) hS (wpAnyH_takes hs hS r os _ _ hp' ht' hn)
      have := hv w' hw'
      unfold Oper.quietAt at this
      cases hrun : (execOp a.eval o).run P w' with
      | ok r w'' =>
        obtain ⟨u, rfl⟩ := plain_value' hpl hrun
        rw [hrun] at this
        obtain ⟨e1, e2⟩ := this
        rw [e1, e2]
      | halt x w'' => rw [hrun] at this; exact this.elim
    · rename_i hw
      exact wpAnyH_take hi hs hf hr (fun c a w hq => by cases hq.1) (.inr ⟨by simpa using hw, rfl⟩) hS (wpAnyH_takes hs hS r os _ _ hp' ht' h)
  | [], _ :: _, _, _, hp, _, _ => hp.elim
  | _ :: _, [], _, _, hp, _, _ => hp.elim

/-- these first: they only read, and read the same in every world of the class -/
theorem any_takes (hτ : TauOk P τ) (is : List Nat) {ops : List Oper} {fuel fuel' : Nat} {listed : Array Bool} (listed' : Array Bool) (hf : fuel = fuel' + is.length) (hm : marks listed is = listed') (hp : picks l.toArray is ops) (hs : Region.noSelect l.toArray = true) (ht : takesOk l.toArray listed is = true) (hS : S w)
    (h : wpQ P τ n S l (fun s' => EvAny P n S l K fuel' listed' s' w) ops s) : EvAny P n S l K fuel listed s w := by
  subst hf hm
  unfold EvAny
  intro a hF
  have h1 := wpQ_sound hτ (l := l) (C := S) (k := fun s' => EvAny P n S l K fuel' (marks listed is) s' w) (Q := fun a' => wpAnyH P .any l.toArray (endQ n K) S fuel' (marks listed is) a' w)
    (fun s' a' hF' hk => by unfold EvAny at hk; exact hk a' hF') ops s a hF h
  exact wpAnyH_takes hs hS is ops listed a hp ht h1

noncomputable def pickN (l : List Oper) (is : List Nat) : List Oper :=
  List.rec (motive := fun _ => List Oper) [] (fun i _ ih => match nth l i with
    | some o => o :: ih
    | none => ih) is
noncomputable def picksB (l : List Oper) (is : List Nat) : Bool :=
  List.rec (motive := fun _ => Bool) true (fun i _ ih => match nth l i with
    | some o => picks.plainOp' o.op && ih
    | none => false) is
theorem picks_of {l : List Oper} : ∀ {is : List Nat}, picksB l is = true → picks l.toArray is (pickN l is)
  | [], _ => trivial
  | i :: r, h => by
    have e1 : picksB l (i :: r) = (match nth l i with
      | some o => picks.plainOp' o.op && picksB l r
      | none => false) := rfl
    have e2 : pickN l (i :: r) = (match nth l i with
      | some o => o :: pickN l r
      | none => pickN l r) := rfl
    rw [e1] at h
    rw [e2]
    cases hn : nth l i with
    | none => rw [hn] at h; cases h
    | some o =>
      rw [hn] at h
      simp only [Bool.and_eq_true] at h
      exact ⟨by rw [nth_eq] at hn; simpa using hn, h.1, picks_of h.2⟩

/-- these first: they only read, and read the same in every world of the class -/
theorem any_reads (hτ : TauOk P τ) (is : List Nat) {fuel : Nat} (fuel' : Nat) {listed : Array Bool} (listed' : Array Bool) (hf : fuel = fuel' + is.length) (hm : marks listed is = listed') (hp : picksB l is = true) (hs : Region.noSelect l.toArray = true) (ht : takesOk l.toArray listed is = true) (hS : S w)
    (h : wpQ P τ n S l (fun s' => EvAny P n S l K fuel' listed' s' w) (pickN l is) s) : EvAny P n S l K fuel listed s w :=
  any_takes hτ is listed' hf hm (picks_of hp) hs ht hS h

/-- one alone may come up, by a given successor -/
theorem any_next (hτ : TauOk P τ) (i : Nat) {o : Oper} {fuel : Nat} (fuel' : Nat) {listed : Array Bool} (listed' : Array Bool) (hf : fuel = fuel' + 1) (hm : listed.setIfInBounds i true = listed') (hi : l[i]? = some o) (hr : Region.ready .any l.toArray listed = [i])
    (h : wpL P τ n l (fun s' w' => S w' ∧ EvAny P n S l K fuel' listed' s' w') (fun _ _ _ => False) [o] s w) : EvAny P n S l K fuel listed s w := by
  subst hf hm
  exact any_one hτ i hi hr h
end
end Go.Wx

/-
  Wx: rules for numbers: greatest, least, quotients.
-/
set_option linter.unusedSimpArgs false
set_option linter.unusedVariables false
namespace Go.Wx
section
variable {P : Program} {w : World} {k : Value → World → Prop} {kq : Value → Prop} {C : World → Prop} {ts : Array TypeId} {t : TypeId} {x y : Int}
theorem runQ {m : Sem Value} {v : Value} (h : ∀ w, C w → m.run P w = .ok v w) (hk : kq v) : EvRunQ P C m kq := by unfold EvRunQ; exact ⟨v, h, hk⟩
theorem max_run (w : World) : (Builtin.max_ ts t #[.int .i64 x, .int .i64 y]).run P w = .ok (.int .i64 (max x y)) w := by
  rw [run_max_int2]
  congr 2
  split <;> omega
theorem min_run (w : World) : (Builtin.min_ ts t #[.int .i64 x, .int .i64 y]).run P w = .ok (.int .i64 (min x y)) w := by
  rw [run_min_int2]
  congr 2
  split <;> omega
theorem max64 (h : k (.int .i64 (max x y)) w) : EvRun P (Builtin.max_ ts t #[.int .i64 x, .int .i64 y]) w k := run (max_run w) h
theorem min64 (h : k (.int .i64 (min x y)) w) : EvRun P (Builtin.min_ ts t #[.int .i64 x, .int .i64 y]) w k := run (min_run w) h
theorem max64Q (h : kq (.int .i64 (max x y))) : EvRunQ P C (Builtin.max_ ts t #[.int .i64 x, .int .i64 y]) kq := runQ (fun w _ => max_run w) h
theorem min64Q (h : kq (.int .i64 (min x y))) : EvRunQ P C (Builtin.min_ ts t #[.int .i64 x, .int .i64 y]) kq := runQ (fun w _ => min_run w) h
theorem quo_run (hx : 0 ≤ x) (hx' : x ≤ 9223372036854775807) (hy : 0 < y) (w : World) : (binOp .quo t (.int .i64 x) (.int .i64 y)).run P w = .ok (.int .i64 (x / y)) w := by
  have h0 : 0 ≤ x / y := Int.ediv_nonneg hx (by omega)
  have h1 : x / y ≤ x := Int.ediv_le_self y hx
  have hw := IntWalk.i64_in (x / y) (by omega)
  simp [binOp_quo, Op.intDiv, Int.tdiv_eq_ediv_of_nonneg hx, hw, show ¬ y = 0 by omega]
theorem rem_run' (hx : 0 ≤ x) (hy : 0 < y) (w : World) : (binOp .rem t (.int .i64 x) (.int .i64 y)).run P w = .ok (.int .i64 (x % y)) w := by
  simp [binOp_rem, Op.intDiv, Int.tmod_eq_emod_of_nonneg hx, show ¬ y = 0 by omega]
theorem quo64 (hx : 0 ≤ x) (hx' : x ≤ 9223372036854775807) (hy : 0 < y) (h : k (.int .i64 (x / y)) w) : EvRun P (binOp .quo t (.int .i64 x) (.int .i64 y)) w k := run (quo_run hx hx' hy w) h
theorem rem64 (hx : 0 ≤ x) (hy : 0 < y) (h : k (.int .i64 (x % y)) w) : EvRun P (binOp .rem t (.int .i64 x) (.int .i64 y)) w k := run (rem_run' hx hy w) h
theorem quo64Q (hx : 0 ≤ x) (hx' : x ≤ 9223372036854775807) (hy : 0 < y) (h : kq (.int .i64 (x / y))) : EvRunQ P C (binOp .quo t (.int .i64 x) (.int .i64 y)) kq := runQ (fun w _ => quo_run hx hx' hy w) h
theorem rem64Q (hx : 0 ≤ x) (hy : 0 < y) (h : kq (.int .i64 (x % y))) : EvRunQ P C (binOp .rem t (.int .i64 x) (.int .i64 y)) kq := runQ (fun w _ => rem_run' hx hy w) h
end
end Go.Wx

/-
  Wx: cuts: where ways meet again, what is known is told anew.
-/
set_option linter.unusedSimpArgs false
set_option linter.unusedVariables false
namespace Go.Wx
section
variable {P : Program} {τ : Tau} {n : Nat} {a b c : Code} {s : St} {w : World} {K : Exit → St → World → Prop}

theorem ev_of (hτ : TauOk P τ) (h : wpx P τ n c s w K) : EvCode P n c s w K := by
  unfold EvCode
  exact fun a hF => wpx_sound hτ c s w K h a hF

theorem ev_weak (I : List (Nat × Value)) (hd : s.d = []) (hs : Has s I) (h : EvCode P n c ⟨I, []⟩ w K) : EvCode P n c s w K := by
  unfold EvCode at *
  exact fun a hF => h a ⟨hF.size, by rw [hF.defers, hd], fun t v hv => hF.has t v (hs.get t v hv)⟩

theorem ev_seq (hτ : TauOk P τ) (h : wpx P τ n a s w (thenK (fun s' w' => EvCode P n b s' w' K) K)) : EvCode P n (.seq a b) s w K := by
  unfold EvCode
  intro act hF
  refine wp_seq ?_
  refine Go.wp_mono (wpx_sound hτ a s w _ h act hF) fun e a' w' hl => ?_
  obtain ⟨s', hF', hs⟩ := hl
  cases e with
  | normal =>
    have hs : EvCode P n b s' w' K := hs
    unfold EvCode at hs
    exact hs a' hF'
  | exit id => exact ⟨s', hF', hs⟩
  | goto l => exact ⟨s', hF', hs⟩
  | ret => exact ⟨s', hF', hs⟩
  | panic ch => exact ⟨s', hF', hs⟩
  | outgrown => exact ⟨s', hF', hs⟩

theorem ev_seq' (hτ : TauOk P τ) (h : EvCode P n a s w (thenK (fun s' w' => EvCode P n b s' w' K) K)) : EvCode P n (.seq a b) s w K := by
  unfold EvCode at h
  unfold EvCode
  intro act hF
  refine wp_seq ?_
  refine Go.wp_mono (h act hF) fun e a' w' hl => ?_
  obtain ⟨s', hF', hs⟩ := hl
  cases e with
  | normal =>
    have hs : ∀ (a : Act), Fr n a s' → Code.wp P b (lift n K) a w' := hs
    exact hs a' hF'
  | exit id => exact ⟨s', hF', hs⟩
  | goto l => exact ⟨s', hF', hs⟩
  | ret => exact ⟨s', hF', hs⟩
  | panic ch => exact ⟨s', hF', hs⟩
  | outgrown => exact ⟨s', hF', hs⟩

theorem ev_mono {K' : Exit → St → World → Prop} (hK : ∀ e s w, K e s w → K' e s w) (h : EvCode P n c s w K) : EvCode P n c s w K' := by
  unfold EvCode at *
  exact fun act hF => Go.wp_mono (h act hF) fun e a' w' hl => lift_mono hK e a' w' hl

/-- the ways through 'a' meet: behind it the slots of I x are known, and R x holds -/
theorem ev_mid (hτ : TauOk P τ) {σ : Type} (I : σ → List (Nat × Value)) (R : σ → World → Prop) (h1 : wpx P τ n a s w (thenK (fun s' w' => ∃ x, s'.d = [] ∧ Has s' (I x) ∧ R x w') K))
    (h2 : ∀ x w', R x w' → EvCode P n b ⟨I x, []⟩ w' K) : EvCode P n (.seq a b) s w K := by
  have h1' := ev_of hτ h1
  refine ev_seq' hτ (ev_mono (fun e s' w' h => ?_) h1')
  cases e with
  | normal =>
    obtain ⟨x, hd, hs, hR⟩ := h
    exact ev_weak (I x) hd hs (h2 x w' hR)
  | exit id => exact h
  | goto l => exact h
  | ret => exact h
  | panic ch => exact h
  | outgrown => exact h

theorem ev_block {id : Nat} (h : EvCode P n c s w (blockK id K)) : EvCode P n (.block id c) s w K := by
  unfold EvCode at *
  intro act hF
  refine wp_block ?_
  refine Go.wp_mono (h act hF) fun e a' w' hl => ?_
  obtain ⟨s', hF', hs⟩ := hl
  cases e with
  | normal => exact ⟨s', hF', hs⟩
  | exit j =>
    simp only [Exit.inBlock]
    simp only [blockK] at hs
    by_cases hj : j = id
    · subst hj; rw [if_pos rfl]; simp at hs; exact ⟨s', hF', hs⟩
    · rw [if_neg hj]
      have : Nat.beq j id = false := by
        cases hb : Nat.beq j id with
        | true => exact absurd (Nat.eq_of_beq_eq_true hb) hj
        | false => rfl
      rw [this] at hs
      exact ⟨s', hF', hs⟩
  | goto l => exact ⟨s', hF', hs⟩
  | ret => exact ⟨s', hF', hs⟩
  | panic ch => exact ⟨s', hF', hs⟩
  | outgrown => exact ⟨s', hF', hs⟩

/-- a loop whose rounds may be cut; nothing is deferred -/
theorem loopE {σ : Type} (I : σ → List (Nat × Value)) (R : σ → World → Prop) (μ : σ → Nat) (x0 : σ)
    (hd : s.d = []) (h0 : Has s (I x0)) (hR : R x0 w)
    (round : ∀ x w, R x w → EvCode P n c ⟨I x, []⟩ w (thenK (fun s' w' => ∃ y, μ y < μ x ∧ s'.d = [] ∧ Has s' (I y) ∧ R y w') K)) : EvCode P n (.loop c) s w K := by
  unfold EvCode
  intro a hF
  have hex : ∀ a' s', Fr n a' s' → s'.d = [] → ∀ y, Has s' (I y) → Fr n a' ⟨I y, []⟩ := fun a' s' hF' hd y hy =>
    ⟨hF'.size, by rw [hF'.defers, hd], fun t v hv => hF'.has t v (hy.get t v hv)⟩
  refine wp_loop_ghost (fun y a w => Fr n a ⟨I y, []⟩ ∧ R y w) μ x0 ⟨hex a s hF hd x0 h0, hR⟩ ?_
  intro y a w ⟨hFy, hRy⟩
  have hr := round y w hRy
  unfold EvCode at hr
  refine Go.wp_mono (hr a hFy) fun e a' w' hl => ?_
  obtain ⟨s', hF', hs⟩ := hl
  cases e with
  | normal =>
    obtain ⟨z, hlt, hd, hz, hRz⟩ := hs
    exact ⟨z, ⟨hex a' s' hF' hd z hz, hRz⟩, hlt⟩
  | exit id => exact ⟨s', hF', hs⟩
  | goto l => exact ⟨s', hF', hs⟩
  | ret => exact ⟨s', hF', hs⟩
  | panic ch => exact ⟨s', hF', hs⟩
  | outgrown => exact ⟨s', hF', hs⟩

theorem lp (hτ : TauOk P τ) {σ : Type} (I : σ → List (Nat × Value)) (R : σ → World → Prop) (μ : σ → Nat) (x0 : σ)
    (hd : s.d = []) (h0 : Has s (I x0)) (hR : R x0 w)
    (round : ∀ x w, R x w → wpx P τ n c ⟨I x, []⟩ w (thenK (fun s' w' => ∃ y, μ y < μ x ∧ s'.d = [] ∧ Has s' (I y) ∧ R y w') K)) : EvCode P n (.loop c) s w K :=
  loopE I R μ x0 hd h0 hR fun x w hx => ev_of hτ (round x w hx)
end

/-- a function's body, told as code not yet laid open -/
theorem calls_ev {P : Program} {f : FuncId} {fn : Func} {c : Code} {args : List Value} {w : World} {R : Ending → World → Prop} (n : Nat) (rs : List ResultVar)
    (hf : P.funcs[f]? = some fn) (hb : fn.body = some c) (hn : fn.ntmps = n) (hrs : fn.results.toList = rs) (hle : args.length ≤ n)
    (h : EvCode P n c ⟨ini args 0, []⟩ w (fnK P rs R)) : Calls P f args.toArray w R := by
  subst hn hrs
  refine calls_of_wp hf hb ?_
  have hF : Fr fn.ntmps { tmps := args.toArray ++ Array.replicate (fn.ntmps - args.toArray.size) undef, defers := [] } ⟨ini args 0, []⟩ := by
    refine ⟨by simp; omega, rfl, fun t v ht => ?_⟩
    obtain ⟨_, h2⟩ := get_ini _ _ _ _ ht
    rw [Nat.sub_zero] at h2
    have hlt : t < args.length := (List.getElem?_eq_some_iff.1 h2).1
    rw [Array.getElem?_append_left (by simpa using hlt)]
    simpa using h2
  unfold EvCode at h
  refine Go.wp_mono (h _ hF) fun e a' w' hl => ?_
  obtain ⟨s, hF', hs⟩ := hl
  have hd := hF'.defers
  cases e with
  | normal =>
    simp only [fnK] at hs
    split at hs
    · rename_i h0
      obtain ⟨vs, h1, h2⟩ := results_run hF' hs
      exact ⟨by rw [hd, h0], _, h1, h2⟩
    · exact hs.elim
  | ret =>
    simp only [fnK] at hs
    split at hs
    · rename_i h0
      obtain ⟨vs, h1, h2⟩ := results_run hF' hs
      exact ⟨by rw [hd, h0], _, h1, h2⟩
    · exact hs.elim
  | panic ch =>
    simp only [fnK] at hs
    split at hs
    · rename_i h0
      exact ⟨by rw [hd, h0], hs⟩
    · exact hs.elim
  | outgrown => exact hs
  | exit id => exact hs.elim
  | goto l => exact hs.elim
end Go.Wx

/-
  Wx: rules for bits, shifts, unsigned numbers; copy.
-/
set_option linter.unusedSimpArgs false
set_option linter.unusedVariables false
namespace Go.Wx

theorem wrap64 {x : Int} (h0 : 0 ≤ x) (h : x < 18446744073709551616) : IntKind.wrap .u64 x = x := by
  simp only [IntKind.wrap, IntKind.bits, IntKind.signed]
  simp
  omega
theorem wrap8 {x : Int} (h0 : 0 ≤ x) (h : x < 256) : IntKind.wrap .u8 x = x := by
  simp only [IntKind.wrap, IntKind.bits, IntKind.signed]
  simp
  omega
theorem wrap8' (x : Int) : IntKind.wrap .u8 x = x % 256 := by
  simp only [IntKind.wrap, IntKind.bits, IntKind.signed]
  simp

section
variable {P : Program} {k : Value → World → Prop} {kq : Value → Prop} {C : World → Prop} {t : TypeId} {w : World}
theorem and64_run {x y : Nat} (hx : x < 18446744073709551616) (hy : y < 18446744073709551616) (w : World) : (binOp .and t (.int .u64 (x : Int)) (.int .u64 (y : Int))).run P w = .ok (.int .u64 ((x &&& y : Nat) : Int)) w := by
  have h1 : (x &&& y) ≤ x := Nat.and_le_left
  have e : (BitVec.ofInt 64 (x : Int) &&& BitVec.ofInt 64 (y : Int)).toNat = x &&& y := by
    rw [BitVec.toNat_and]
    simp only [BitVec.ofInt_natCast, BitVec.toNat_ofNat]
    rw [Nat.mod_eq_of_lt (by omega), Nat.mod_eq_of_lt (by omega)]
  have := wrap64 (x := ((x &&& y : Nat) : Int)) (by omega) (by omega)
  simp only [binOp_and, Op.intBits, IntKind.bits, Sem.run_pure]
  exact congrArg (fun z => Result.ok z w) (congrArg _ ((congrArg (fun n : Nat => IntKind.wrap _ (n : Int)) e).trans this))
theorem and8_run {x y : Nat} (hx : x < 256) (hy : y < 256) (w : World) : (binOp .and t (.int .u8 (x : Int)) (.int .u8 (y : Int))).run P w = .ok (.int .u8 ((x &&& y : Nat) : Int)) w := by
  have h1 : (x &&& y) ≤ x := Nat.and_le_left
  have e : (BitVec.ofInt 8 (x : Int) &&& BitVec.ofInt 8 (y : Int)).toNat = x &&& y := by
    rw [BitVec.toNat_and]
    simp only [BitVec.ofInt_natCast, BitVec.toNat_ofNat]
    rw [Nat.mod_eq_of_lt (by omega), Nat.mod_eq_of_lt (by omega)]
  have := wrap8 (x := ((x &&& y : Nat) : Int)) (by omega) (by omega)
  simp only [binOp_and, Op.intBits, IntKind.bits, Sem.run_pure]
  exact congrArg (fun z => Result.ok z w) (congrArg _ ((congrArg (fun n : Nat => IntKind.wrap _ (n : Int)) e).trans this))
theorem or8_run {x y : Nat} (hx : x < 256) (hy : y < 256) (w : World) : (binOp .or t (.int .u8 (x : Int)) (.int .u8 (y : Int))).run P w = .ok (.int .u8 ((x ||| y : Nat) : Int)) w := by
  have h1 : (x ||| y) < 2 ^ 8 := Nat.or_lt_two_pow (by omega) (by omega)
  have e : (BitVec.ofInt 8 (x : Int) ||| BitVec.ofInt 8 (y : Int)).toNat = x ||| y := by
    rw [BitVec.toNat_or]
    simp only [BitVec.ofInt_natCast, BitVec.toNat_ofNat]
    rw [Nat.mod_eq_of_lt (by omega), Nat.mod_eq_of_lt (by omega)]
  have := wrap8 (x := ((x ||| y : Nat) : Int)) (by omega) (by omega)
  simp only [binOp_or, Op.intBits, IntKind.bits, Sem.run_pure]
  exact congrArg (fun z => Result.ok z w) (congrArg _ ((congrArg (fun n : Nat => IntKind.wrap _ (n : Int)) e).trans this))
theorem shr64_run {x n : Nat} {j : IntKind} (hn : n ≤ 64) (w : World) : (binOp .shr t (.int .u64 (x : Int)) (.int j (n : Int))).run P w = .ok (.int .u64 ((x / 2 ^ n : Nat) : Int)) w := by
  simp only [binOp_shr, Op.shift, IntKind.bits]
  rw [if_neg (by omega)]
  simp only [Int.toNat_natCast, Sem.run_pure]
  rw [Nat.min_eq_left hn, Int.fdiv_eq_ediv_of_nonneg _ (by exact Int.le_of_lt (Int.pow_pos (by omega)))]
  simp
theorem shl64_run {x n : Nat} {j : IntKind} (hn : n ≤ 64) (w : World) : (binOp .shl t (.int .u64 (x : Int)) (.int j (n : Int))).run P w = .ok (.int .u64 (((x * 2 ^ n) % 18446744073709551616 : Nat) : Int)) w := by
  simp only [binOp_shl, Op.shift, IntKind.bits]
  rw [if_neg (by omega)]
  simp only [Int.toNat_natCast, Sem.run_pure]
  rw [Nat.min_eq_left hn]
  congr 2
theorem u64 {r : Int} {k : Value → Prop} (h1 : 0 ≤ r) (h2 : r < 18446744073709551616) (hk : k (.int .u64 r)) : EvInt .u64 r k := intv r (wrap64 h1 h2) hk

theorem and64 {x y : Nat} (z : Nat) (hx : x < 18446744073709551616) (hy : y < 18446744073709551616) (hz : x &&& y = z) (h : k (.int .u64 (z : Int)) w) : EvRun P (binOp .and t (.int .u64 (x : Int)) (.int .u64 (y : Int))) w k := by
  subst hz
  exact run (and64_run hx hy w) h
theorem and8 {x y : Nat} (z : Nat) (hx : x < 256) (hy : y < 256) (hz : x &&& y = z) (h : k (.int .u8 (z : Int)) w) : EvRun P (binOp .and t (.int .u8 (x : Int)) (.int .u8 (y : Int))) w k := by
  subst hz
  exact run (and8_run hx hy w) h
theorem or8 {x y : Nat} (z : Nat) (hx : x < 256) (hy : y < 256) (hz : x ||| y = z) (h : k (.int .u8 (z : Int)) w) : EvRun P (binOp .or t (.int .u8 (x : Int)) (.int .u8 (y : Int))) w k := by
  subst hz
  exact run (or8_run hx hy w) h
theorem shr64 {x n : Nat} {j : IntKind} (z : Nat) (hn : n ≤ 64) (hz : x / 2 ^ n = z) (h : k (.int .u64 (z : Int)) w) : EvRun P (binOp .shr t (.int .u64 (x : Int)) (.int j (n : Int))) w k := by
  subst hz
  exact run (shr64_run hn w) h
theorem shl64 {x n : Nat} {j : IntKind} (z : Nat) (hn : n ≤ 64) (hz : x * 2 ^ n % 18446744073709551616 = z) (h : k (.int .u64 (z : Int)) w) : EvRun P (binOp .shl t (.int .u64 (x : Int)) (.int j (n : Int))) w k := by
  subst hz
  exact run (shl64_run hn w) h
/-- an unsigned number, by a name -/
theorem u64n {r : Int} {k : Value → Prop} (z : Nat) (hz : z < 18446744073709551616) (he : r = z) (hk : k (.int .u64 (z : Int))) : EvInt .u64 r k := by
  subst he
  exact intv _ (wrap64 (by omega) (by omega)) hk

theorem sliced_lo {b o l h cap sz : Nat} (hl : l < cap) : sliced (some ⟨b, o, none⟩) l h cap sz = .slice (some ⟨b, o + l * sz, none⟩) (h - l) (cap - l) := by
  simp only [sliced, if_neg (show ¬ cap = l by omega), Option.map_some, add_off]
theorem sliced_hi {b o h cap sz : Nat} : sliced (some ⟨b, o, none⟩) 0 h cap sz = .slice (some ⟨b, o, none⟩) h cap := by
  simp only [sliced, Option.map_some, add_off, Nat.zero_mul, Nat.add_zero, Nat.sub_zero]
  split <;> rfl
section
variable {τ : Tau} (hτ : TauOk P τ) {T e sz bs : Nat} (hs : look τ.slcs T = some (e, sz, bs)) {a : Option Addr} {len cap : Nat}
include hτ hs
theorem slcLQ {j : IntKind} {i : Int} (l : Nat) (v : Value) (hi : i = l) (hl : l ≤ len) (hv : sliced a l len cap sz = v) (hk : kq v) : EvRunQ P C (Instr.sliceAt T (.slice a len cap) (some (.int j i)) none none) kq := by
  obtain ⟨hu, hz⟩ := slc_elem hτ hs
  subst hi hv
  refine runQ (fun w _ => ?_) hk
  rw [run_sliceAt_slice w T _ _ _ _ hu, run_slice_l w T a len cap hu j l (by omega) (by omega), hz]
  simp
theorem slcHQ {j : IntKind} {i : Int} (h : Nat) (v : Value) (hi : i = h) (hl : h ≤ cap) (hv : sliced a 0 h cap sz = v) (hk : kq v) : EvRunQ P C (Instr.sliceAt T (.slice a len cap) none (some (.int j i)) none) kq := by
  obtain ⟨hu, hz⟩ := slc_elem hτ hs
  subst hi hv
  refine runQ (fun w _ => ?_) hk
  rw [run_sliceAt_slice w T _ _ _ _ hu, run_slice_h w T a len cap hu j h (by omega) (by omega), hz]
  simp
theorem slcL' {j : IntKind} {i : Int} (l : Nat) (v : Value) (hi : i = l) (hl : l ≤ len) (hv : sliced a l len cap sz = v) (hk : k v w) : EvRun P (Instr.sliceAt T (.slice a len cap) (some (.int j i)) none none) w k := by
  subst hv
  exact slcL hτ hs l hi hl hk
theorem slcH' {j : IntKind} {i : Int} (h : Nat) (v : Value) (hi : i = h) (hl : h ≤ cap) (hv : sliced a 0 h cap sz = v) (hk : k v w) : EvRun P (Instr.sliceAt T (.slice a len cap) none (some (.int j i)) none) w k := by
  subst hv
  exact slcH hτ hs h hi hl hk
end

/-- copy into a row of ints of one's own -/
theorem copyI {τ : Tau} (hτ : TauOk P τ) {T e bs : Nat} (hs : look τ.slcs T = some (e, 1, bs)) {ty g o dl dc b o2 sl sc : Nat} {l : List Int} (xs : List Int) (hb : RowI w.heap g l e) (hn : xs.length = min sl dl) (hsrc : ∀ (j : Nat) x, xs[j]? = some x → Cl w.heap b (o2 + j) (.int .i64 x)) (hfit : o + xs.length ≤ l.length)
    (h : ∀ w', RowI w'.heap g (l.take o ++ xs ++ l.drop (o + xs.length)) e → w'.heap.size = w.heap.size → Kp [g] w w' → k (.int .i64 xs.length) w') : EvRun P (Builtin.copy_ #[T, T] ty #[.slice (some ⟨g, o, none⟩) dl dc, .slice (some ⟨b, o2, none⟩) sl sc]) w k := by
  obtain ⟨hu, inf, hinf, hsize, hbs⟩ := hτ.slcs T e 1 bs hs
  have hr := run_copy_row (P := P) w T T ty e g o dl dc ⟨b, o2, none⟩ sl sc ((l.map (Value.int .i64)).toArray) e (xs.map (Value.int .i64)) hu (by simp [hinf, hsize]) hb (by simpa using hn)
    (fun j v hj => by
      rw [List.getElem?_map] at hj
      cases hx : xs[j]? with
      | none => rw [hx] at hj; cases hj
      | some x =>
        rw [hx] at hj
        have hj : Value.int .i64 x = v := by simpa using hj
        subst hj
        rw [add_off]
        exact (hsrc j x hx).cell) (by simpa using hfit) (by simp [Value.oneCell'])
  refine run hr ?_
  have hg : g < w.heap.size := Bk.lt hb
  have e1 : goInt (xs.map (Value.int .i64)).length = .int .i64 xs.length := by simp [goInt]
  rw [e1]
  refine h _ ?_ (by simp [World.setRow]) ⟨rfl, rfl, rfl, by simp [World.setRow], fun i hi hx => ?_⟩
  · have hb' : w.heap[g]? = some (.cells (l.map (Value.int .i64)).toArray e (0, 0)) := hb
    unfold RowI Bk
    simp only [World.setRow, Array.getElem?_modify, if_true, hb']
    simp
  · have hx : i ≠ g := by simpa using hx
    simp only [World.setRow, Array.getElem?_modify]
    rw [if_neg (fun e => hx e.symm)]
end
end Go.Wx

/-
  Wx: regions that draw, read, and at their end write what they read: the last one, which waits for all others, need not keep the class.
-/
set_option linter.unusedSimpArgs false
set_option linter.unusedVariables false
namespace Go.Wx

/-- number j waits for every other -/
def waits (md : Region.Mode) (ops : Array Oper) (j : Nat) : Bool :=
  match ops[j]? with
  | some o => (List.range ops.size).all fun k => k == j || o.after.any fun e => Region.binds md e && e.on == k
  | none => false

theorem waits_spec {md : Region.Mode} {ops : Array Oper} {i j : Nat} {o : Oper} (h : waits md ops j = true) (hj : ops[j]? = some o) (hi : i < ops.size) (hne : i ≠ j) : ∃ e ∈ o.after, Region.binds md e = true ∧ e.on = i := by
  unfold waits at h
  rw [hj] at h
  have := List.all_eq_true.1 h i (List.mem_range.2 hi)
  simp [hne] at this
  obtain ⟨k, hk, h1, h2⟩ := this
  exact ⟨_, Array.getElem_mem hk, h1, h2⟩

def wpAnyG (P : Program) (md : Region.Mode) (ops : Array Oper) (Q : Exit → Act → World → Prop) (S : World → Prop) : Nat → Array Bool → Act → World → Prop
  | 0, listed, a, w => Region.ready md ops listed = [] ∧ Q .normal a w
  | fuel + 1, listed, a, w => (Region.ready md ops listed = [] → Q .normal a w) ∧
    ∀ i ∈ Region.ready md ops listed, wpOp P ops Q i (fun a' w' => (S w' ∨ waits md ops i = true) ∧ wpAnyG P md ops Q S fuel (listed.setIfInBounds i true) a' w') a w

section
variable {P : Program} {ops : Array Oper} {Q : Exit → Act → World → Prop} {md : Region.Mode} {S : World → Prop}
theorem wpAny_of_G : ∀ (fuel : Nat) (listed : Array Bool) (a : Act) (w : World), wpAnyG P md ops Q S fuel listed a w → wpAny P md ops Q fuel listed a w
  | 0, _, _, _, h => h
  | fuel + 1, _, _, _, h => ⟨h.1, fun i hi => wpOp_mono (fun a' w' h' => wpAny_of_G fuel _ a' w' h'.2) (h.2 i hi)⟩

theorem wpAnyG_first {i : Nat} {oi : Oper} {v : Value} (hi : ops[i]? = some oi) (hsel : ∀ (j : Nat) (o : Oper) cs b, ops[j]? = some o → o.op ≠ .select cs b)
    (hQ : ∀ c a w, Q (.panic c) (a.put oi.dst v) w → Q (.panic c) a w) :
    ∀ (fuel : Nat) (listed : Array Bool) (a : Act) (w : World),
      (∀ j oj, ops[j]? = some oj → j ≠ i → listed.getD j true = false → (∀ e ∈ oj.after, Region.binds md e = true → e.on ≠ i) → oi.apart ops oj = true) →
      i ∈ Region.ready md ops listed → YieldsIf P ops S oi v a → S w →
      wpAnyG P md ops Q S fuel (listed.setIfInBounds i true) (a.put oi.dst v) w → wpAnyG P md ops Q S (fuel + 1) listed a w := by
  have hio : i < ops.size := (Array.getElem?_eq_some_iff.1 hi).1
  intro fuel
  induction fuel with
  | zero =>
    intro listed a w _ hr hy hS H
    refine ⟨fun h => (by rw [h] at hr; cases hr), fun j hj => ?_⟩
    by_cases hji : j = i
    · subst hji
      exact hy.wpOp hi hS ⟨.inl hS, H⟩
    · have h0 := ready_mono hj hji
      rw [H.1] at h0
      cases h0
  | succ fuel ih =>
    intro listed a w hfree hr hy hS H
    refine ⟨fun h => (by rw [h] at hr; cases hr), fun j hj => ?_⟩
    by_cases hji : j = i
    · subst hji
      exact hy.wpOp hi hS ⟨.inl hS, H⟩
    have h1 := H.2 j (ready_mono hj hji)
    obtain ⟨hjun, oj, hoj, hall⟩ := mem_ready.1 hj
    have hnot : ∀ e ∈ oj.after, Region.binds md e = true → e.on ≠ i := fun e he hb heq => by
      have g1 := hall e he hb
      have g0 := (mem_ready.1 hr).1
      rw [heq] at g1
      by_cases hl : i < listed.size
      · simp [hl] at g0 g1; rw [g0] at g1; cases g1
      · simp [hl] at g1
    have hnw : ¬ waits md ops j = true := fun hw => by
      obtain ⟨e, he, hb, hon⟩ := waits_spec hw hoj hio (Ne.symm hji)
      exact hnot e he hb hon
    have h2 := wpOp_putIf hoj (hfree j oj hoj hji hjun hnot) (fun cs b => hsel i oi cs b hi) (fun cs b => hsel j oj cs b hoj) hQ hy h1
    refine wpOp_mono (fun a' w' h3 => ?_) h2
    have hS' : S w' := h3.2.1.resolve_right hnw
    refine ⟨.inl hS', ih (listed.setIfInBounds j true) a' w' (fun k ok hk hki hun hno => hfree k ok hk hki ?_ hno) (ready_mono hr (Ne.symm hji)) h3.1 hS' ?_⟩
    · by_cases hjk : j = k
      · subst hjk; exact hjun
      · rw [getD_set_ne true hjk] at hun; exact hun
    · rw [Array.setIfInBounds_comm _ _ hji]
      exact h3.2.2
end

@[irreducible] def EvAnyG (P : Program) (n : Nat) (S : World → Prop) (l : List Oper) (K : Exit → St → World → Prop) (fuel : Nat) (listed : Array Bool) (s : St) (w : World) : Prop :=
  ∀ a, Fr n a s → wpAnyG P .any l.toArray (endQ n K) S fuel listed a w

section
variable {P : Program} {τ : Tau} {n : Nat} {S : World → Prop} {l : List Oper} {K : Exit → St → World → Prop} {s : St} {w : World}

theorem drawG {id : Nat} (hτ : TauOk P τ) (S : World → Prop) (h : EvAnyG P n S l K l.toArray.size (Array.replicate l.toArray.size false) s { w with drawn := w.drawn + 1 }) : EvCode P n (.region id l.toArray true) s w K := by
  unfold EvCode
  intro a hF
  unfold EvAnyG at h
  exact Go.wp_mono (wp_region_any hτ.mixed (wpAny_of_G _ _ _ _ (h a hF))) fun e a' w' ⟨he, hl⟩ => by subst he; exact hl

theorem wpAnyG_takes (hs : Region.noSelect l.toArray = true) (hS : S w) {fuel : Nat} : ∀ (is : List Nat) (ops : List Oper) (listed : Array Bool) (a : Act), picks l.toArray is ops → takesOk l.toArray listed is = true →
    wpQuiet P l.toArray S (fun a' => wpAnyG P .any l.toArray (endQ n K) S fuel (marks listed is) a' w) ops a → wpAnyG P .any l.toArray (endQ n K) S (fuel + is.length) listed a w
  | [], [], listed, a, _, _, h => h
  | i :: r, o :: os, listed, a, hp, ht, h => by
    obtain ⟨hi, hpl, hp'⟩ := hp
    simp only [takesOk, Bool.and_eq_true] at ht
    obtain ⟨hf, hr, ht'⟩ := ht
    unfold wpQuiet at h
    have e : fuel + (i :: r).length = (fuel + r.length) + 1 := by simp; omega
    rw [e]
    have hr' : i ∈ Region.ready .any l.toArray listed := by simpa using hr
    split at h
    · rename_i hw
      obtain ⟨v, hv, hn⟩ := h
      refine wpAnyG_first hi (Region.noSelect_spec hs) (fun c a w hq => by cases hq.1) _ _ _ _ (Region.free_spec hi hf) hr' (.inl ⟨hw, fun w' hw' => ?_⟩) hS (wpAnyG_takes hs hS r os _ _ hp' ht' hn)
      have := hv w' hw'
      unfold Oper.quietAt at this
      cases hrun : (execOp a.eval o).run P w' with
      | ok r w'' =>
        obtain ⟨u, rfl⟩ := plain_value' hpl hrun
        rw [hrun] at this
        obtain ⟨e1, e2⟩ := this
        rw [e1, e2]
      | halt x w'' => rw [hrun] at this; exact this.elim
    · rename_i hw
      exact wpAnyG_first hi (Region.noSelect_spec hs) (fun c a w hq => by cases hq.1) _ _ _ _ (Region.free_spec hi hf) hr' (.inr ⟨by simpa using hw, rfl⟩) hS (wpAnyG_takes hs hS r os _ _ hp' ht' h)
  | [], _ :: _, _, _, hp, _, _ => hp.elim
  | _ :: _, [], _, _, hp, _, _ => hp.elim

/-- these first: they only read, and read the same in every world of the class -/
theorem readsG (hτ : TauOk P τ) (is : List Nat) {fuel : Nat} (fuel' : Nat) {listed : Array Bool} (listed' : Array Bool) (hf : fuel = fuel' + is.length) (hm : marks listed is = listed') (hp : picksB l is = true) (hs : Region.noSelect l.toArray = true) (ht : takesOk l.toArray listed is = true) (hS : S w)
    (h : wpQ P τ n S l (fun s' => EvAnyG P n S l K fuel' listed' s' w) (pickN l is) s) : EvAnyG P n S l K fuel listed s w := by
  subst hf hm
  unfold EvAnyG
  intro a hF
  have h1 := wpQ_sound hτ (l := l) (C := S) (k := fun s' => EvAnyG P n S l K fuel' (marks listed is) s' w) (Q := fun a' => wpAnyG P .any l.toArray (endQ n K) S fuel' (marks listed is) a' w)
    (fun s' a' hF' hk => by unfold EvAnyG at hk; exact hk a' hF') (pickN l is) s a hF h
  exact wpAnyG_takes hs hS is _ listed a (picks_of hp) ht h1

theorem stepG (hτ : TauOk P τ) {i fuel : Nat} {listed : Array Bool} {o : Oper} (hi : l[i]? = some o) {a : Act} (hF : Fr n a s)
    (h : wpL P τ n l (fun s' w' => (S w' ∨ waits .any l.toArray i = true) ∧ EvAnyG P n S l K fuel (listed.setIfInBounds i true) s' w') (fun _ _ _ => False) [o] s w) :
    wpOp P l.toArray (endQ n K) i (fun a' w' => (S w' ∨ waits .any l.toArray i = true) ∧ wpAnyG P .any l.toArray (endQ n K) S fuel (listed.setIfInBounds i true) a' w') a w := by
  refine wpOp_of_list (o := o) (by simpa using hi) endQ_np endQ_no ?_
  exact wpL_sound hτ (l := l) (Q := fun e a' w' => e = .normal ∧ ((S w' ∨ waits .any l.toArray i = true) ∧ wpAnyG P .any l.toArray (endQ n K) S fuel (listed.setIfInBounds i true) a' w'))
    (fun s' w' a' hF' hk => ⟨rfl, hk.1, by have := hk.2; unfold EvAnyG at this; exact this a' hF'⟩) (fun _ _ _ _ _ hk => hk.elim) [o] s w a hF h

theorem allG (hτ : TauOk P τ) (is : List Nat) {fuel : Nat} {listed : Array Bool} (hr : Region.ready .any l.toArray listed = is) (hne : is ≠ [])
    (h : ∀ i ∈ is, ∃ o, l[i]? = some o ∧ wpL P τ n l (fun s' w' => (S w' ∨ waits .any l.toArray i = true) ∧ EvAnyG P n S l K fuel (listed.setIfInBounds i true) s' w') (fun _ _ _ => False) [o] s w) : EvAnyG P n S l K (fuel + 1) listed s w := by
  unfold EvAnyG
  intro a hF
  refine ⟨fun h0 => absurd (hr ▸ h0) hne, fun j hj => ?_⟩
  obtain ⟨o, ho, h⟩ := h j (hr ▸ hj)
  exact stepG hτ ho hF h

/-- one alone may come up -/
theorem nextG (hτ : TauOk P τ) (i : Nat) {o : Oper} {fuel : Nat} (fuel' : Nat) {listed : Array Bool} (listed' : Array Bool) (hf : fuel = fuel' + 1) (hm : listed.setIfInBounds i true = listed') (hi : l[i]? = some o) (hr : Region.ready .any l.toArray listed = [i])
    (h : wpL P τ n l (fun s' w' => (S w' ∨ waits .any l.toArray i = true) ∧ EvAnyG P n S l K fuel' listed' s' w') (fun _ _ _ => False) [o] s w) : EvAnyG P n S l K fuel listed s w := by
  subst hf hm
  refine allG hτ [i] hr (by simp) fun j hj => ?_
  obtain rfl : j = i := by simpa using hj
  exact ⟨o, hi, h⟩
/-- one of two -/
theorem twoG (hτ : TauOk P τ) (i j : Nat) {o o' : Oper} {fuel : Nat} (fuel' : Nat) {listed : Array Bool} (l1 l2 : Array Bool) (hf : fuel = fuel' + 1) (hm1 : listed.setIfInBounds i true = l1) (hm2 : listed.setIfInBounds j true = l2) (hi : l[i]? = some o) (hj : l[j]? = some o') (hr : Region.ready .any l.toArray listed = [i, j])
    (h1 : wpL P τ n l (fun s' w' => (S w' ∨ waits .any l.toArray i = true) ∧ EvAnyG P n S l K fuel' l1 s' w') (fun _ _ _ => False) [o] s w)
    (h2 : wpL P τ n l (fun s' w' => (S w' ∨ waits .any l.toArray j = true) ∧ EvAnyG P n S l K fuel' l2 s' w') (fun _ _ _ => False) [o'] s w) : EvAnyG P n S l K fuel listed s w := by
  subst hf hm1 hm2
  refine allG hτ [i, j] hr (by simp) fun m hm => ?_
  have : m = i ∨ m = j := by simpa using hm
  rcases this with rfl | rfl
  · exact ⟨o, hi, h1⟩
  · exact ⟨o', hj, h2⟩
/-- one of three -/
theorem threeG (hτ : TauOk P τ) (i j k : Nat) {o o' o'' : Oper} {fuel : Nat} (fuel' : Nat) {listed : Array Bool} (l1 l2 l3 : Array Bool) (hf : fuel = fuel' + 1) (hm1 : listed.setIfInBounds i true = l1) (hm2 : listed.setIfInBounds j true = l2) (hm3 : listed.setIfInBounds k true = l3) (hi : l[i]? = some o) (hj : l[j]? = some o') (hk : l[k]? = some o'') (hr : Region.ready .any l.toArray listed = [i, j, k])
    (h1 : wpL P τ n l (fun s' w' => (S w' ∨ waits .any l.toArray i = true) ∧ EvAnyG P n S l K fuel' l1 s' w') (fun _ _ _ => False) [o] s w)
    (h2 : wpL P τ n l (fun s' w' => (S w' ∨ waits .any l.toArray j = true) ∧ EvAnyG P n S l K fuel' l2 s' w') (fun _ _ _ => False) [o'] s w)
    (h3 : wpL P τ n l (fun s' w' => (S w' ∨ waits .any l.toArray k = true) ∧ EvAnyG P n S l K fuel' l3 s' w') (fun _ _ _ => False) [o''] s w) : EvAnyG P n S l K fuel listed s w := by
  subst hf hm1 hm2 hm3
  refine allG hτ [i, j, k] hr (by simp) fun m hm => ?_
  have : m = i ∨ m = j ∨ m = k := by simpa using hm
  rcases this with rfl | rfl | rfl
  · exact ⟨o, hi, h1⟩
  · exact ⟨o', hj, h2⟩
  · exact ⟨o'', hk, h3⟩

theorem doneG {fuel : Nat} {listed : Array Bool} (hr : Region.ready .any l.toArray listed = []) (h : K .normal s w) : EvAnyG P n S l K fuel listed s w := by
  unfold EvAnyG
  intro a hF
  cases fuel with
  | zero => exact ⟨hr, rfl, s, hF, h⟩
  | succ f => exact ⟨fun _ => ⟨rfl, s, hF, h⟩, by rw [hr]; simp⟩

theorem weakG {fuel : Nat} {listed : Array Bool} (sl : List (Nat × Value)) (hs : Has s sl) (h : EvAnyG P n S l K fuel listed ⟨sl, s.d⟩ w) : EvAnyG P n S l K fuel listed s w := by
  unfold EvAnyG at *
  intro a hF
  exact h a ⟨hF.size, hF.defers, fun t v hv => hF.has t v (hs.get t v hv)⟩
end
end Go.Wx

