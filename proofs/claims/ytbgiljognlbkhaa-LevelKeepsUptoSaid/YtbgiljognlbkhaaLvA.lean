/-
  Levels, in plain Lean: the graph of orders closed by rounds (as the program does it), distances from one variable (as the reference does it).
-/
namespace Lv

structure Atom where
  var : Int
  add : Int
deriving Inhabited, DecidableEq

structure Order where
  low : Int
  add : Int
  high : Int
deriving Inhabited, DecidableEq

abbrev G := Int → Int → Option Int

def putG (g : G) (x y v : Int) : G := fun a b => if a = x ∧ b = y then some v else g a b
def more (o : Option Int) (v : Int) : Int := match o with
  | none => v
  | some old => if old < v then v else old
def raise (g : G) (x y v : Int) : G := putG g x y (more (g x y) v)

def rng {α : Type} (f : Nat → α → α) : Nat → α → α
  | 0, a => a
  | k + 1, a => f k (rng f k a)

def initG (n : Nat) : G := rng (fun v g => putG (putG g v v 0) 0 v 0) n (fun _ _ => none)

def badOrd (vars : Int) (o : Order) : Bool := decide (o.low < 0 ∨ vars < o.low ∨ o.high < 0 ∨ vars < o.high ∨ o.add < -1000 ∨ 1000 < o.add)

def ordG (vars : Int) : List Order → G → Option G
  | [], g => some g
  | o :: r, g => if badOrd vars o then none else ordG vars r (raise g o.low o.high o.add)

def step (m low high : Nat) (g : G) : G := match g low m, g m high with
  | some a, some b => raise g low high (a + b)
  | _, _ => g
def passRow (n m low : Nat) (g : G) : G := rng (step m low) n g
def pass (n m : Nat) (g : G) : G := rng (passRow n m) n g

/-- is there a way from a variable to itself that is above 0, among those from v on? -/
def posG (g : G) (v : Nat) : Bool := decide (0 < (g v v).getD 0)
def cyc (n : Nat) (g : G) : Bool := (List.range n).any (posG g)

def fwGo (n : Nat) : Nat → Nat → G → Option G
  | 0, _, g => some g
  | f + 1, m, g => if cyc n (pass n m g) then none else fwGo n f (m + 1) (pass n m g)

def closedF (vars : Int) (os : List Order) : Except Int G :=
  if vars < 0 ∨ 16 < vars then .error 1
  else if 64 < os.length then .error 5
  else match ordG vars os (initG (vars.toNat + 1)) with
    | none => .error 1
    | some g => match fwGo (vars.toNat + 1) (vars.toNat + 1) 0 g with
      | none => .error 7
      | some g' => .ok g'

/-! ### the reference -/
def non : Int := -1000000000
def zStep (v : Nat) (s : List Int × Bool) : List Int × Bool :=
  if s.1.getD 0 0 ≠ non ∧ s.1.getD v 0 < s.1.getD 0 0 then (s.1.set v (s.1.getD 0 0), true) else s
def oStep (s : List Int × Bool) (o : Order) : List Int × Bool :=
  if s.1.getD o.low.toNat 0 ≠ non ∧ s.1.getD o.high.toNat 0 < s.1.getD o.low.toNat 0 + o.add then (s.1.set o.high.toNat (s.1.getD o.low.toNat 0 + o.add), true) else s
def round (n : Nat) (os : List Order) (d : List Int) : List Int × Bool := os.foldl oStep (rng zStep n (d, false))
def fromGo (n : Nat) (os : List Order) : Nat → List Int → Option (List Int)
  | 0, _ => none
  | r + 1, d => if (round n os d).2 then fromGo n os r (round n os d).1 else some (round n os d).1
def fromF (n : Nat) (os : List Order) (low : Nat) : Option (List Int) := fromGo n os (n + 1) ((List.replicate n non).set low 0)

def checkR (vars : Int) (os : List Order) : Int :=
  if vars < 0 ∨ 16 < vars then 1
  else if 64 < os.length then 5
  else if os.any (badOrd vars) then 1
  else if (List.range (vars.toNat + 1)).all (fun v => (fromF (vars.toNat + 1) os v).isSome) then 0 else 7

/-! ### walks -/
def Rg (n : Nat) (x : Int) : Prop := 0 ≤ x ∧ x < n
inductive Edge (n : Nat) (os : List Order) : Int → Int → Int → Prop
  | zero (y : Int) (h : Rg n y) : Edge n os 0 y 0
  | self (y : Int) (h : Rg n y) : Edge n os y y 0
  | ord (o : Order) (h : o ∈ os) (h1 : Rg n o.low) (h2 : Rg n o.high) : Edge n os o.low o.high o.add

inductive Walk (n : Nat) (os : List Order) : Int → Int → Int → Prop
  | nil (x : Int) (h : Rg n x) : Walk n os x x 0
  | snoc {x y z p q : Int} (h : Walk n os x y p) (e : Edge n os y z q) : Walk n os x z (p + q)

theorem Walk.trans {n : Nat} {os : List Order} {x y z p q : Int} (h : Walk n os x y p) (k : Walk n os y z q) : Walk n os x z (p + q) := by
  induction k with
  | nil hx => simpa using h
  | snoc k e ih => rw [← Int.add_assoc]; exact .snoc ih e

theorem Walk.one {n : Nat} {os : List Order} {x y p : Int} (e : Edge n os x y p) (hx : Rg n x) : Walk n os x y p := by
  have := Walk.snoc (Walk.nil x hx) e
  simpa using this

/-- what every graph on the way holds: its ways are walks -/
def Ok (n : Nat) (os : List Order) (g : G) : Prop := ∀ x y v, g x y = some v → Rg n x ∧ Rg n y ∧ Walk n os x y v
/-- g' has all that g has, at least as great -/
def Le (g g' : G) : Prop := ∀ x y v, g x y = some v → ∃ v', g' x y = some v' ∧ v ≤ v'

theorem Le.refl (g : G) : Le g g := fun _ _ v h => ⟨v, h, Int.le_refl _⟩
theorem Le.trans {a b c : G} (h : Le a b) (k : Le b c) : Le a c := fun x y v hv => by
  obtain ⟨v', h1, h2⟩ := h x y v hv
  obtain ⟨v'', h3, h4⟩ := k x y v' h1
  exact ⟨v'', h3, by omega⟩

theorem more_cases (o : Option Int) (v : Int) : (more o v = v ∧ ∀ u, o = some u → u ≤ v) ∨ (o = some (more o v) ∧ v ≤ more o v) := by
  unfold more
  split
  · exact .inl ⟨rfl, fun u h => by cases h⟩
  · rename_i old
    split
    · exact .inl ⟨rfl, fun u h => by have : old = u := by simpa using h
                                     omega⟩
    · exact .inr ⟨rfl, by omega⟩
theorem raise_self (g : G) (x y v : Int) : ∃ u, raise g x y v x y = some u ∧ v ≤ u := by
  refine ⟨more (g x y) v, by simp [raise, putG], ?_⟩
  rcases more_cases (g x y) v with ⟨h, _⟩ | ⟨_, h⟩ <;> omega
theorem raise_ne (g : G) (x y v a b : Int) (h : ¬ (a = x ∧ b = y)) : raise g x y v a b = g a b := by simp [raise, putG, h]
theorem raise_cases (g : G) (x y v a b u : Int) (h : raise g x y v a b = some u) : g a b = some u ∨ (a = x ∧ b = y ∧ u = v) := by
  by_cases e : a = x ∧ b = y
  · obtain ⟨rfl, rfl⟩ := e
    simp only [raise, putG, and_self, if_true, Option.some.injEq] at h
    rcases more_cases (g a b) v with ⟨h1, _⟩ | ⟨h1, _⟩
    · exact .inr ⟨rfl, rfl, by omega⟩
    · exact .inl (by rw [h1, h])
  · rw [raise_ne _ _ _ _ _ _ e] at h; exact .inl h
theorem raise_le (g : G) (x y v : Int) : Le g (raise g x y v) := by
  intro a b u hu
  by_cases e : a = x ∧ b = y
  · obtain ⟨rfl, rfl⟩ := e
    refine ⟨more (g a b) v, by simp [raise, putG], ?_⟩
    rcases more_cases (g a b) v with ⟨h1, h2⟩ | ⟨h1, _⟩
    · have := h2 u hu; omega
    · rw [hu] at h1 ⊢; have : u = more (some u) v := by simpa using h1
      omega
  · exact ⟨u, by rw [raise_ne _ _ _ _ _ _ e]; exact hu, Int.le_refl _⟩
theorem raise_ok {n : Nat} {os : List Order} {g : G} (hg : Ok n os g) {x y v : Int} (hx : Rg n x) (hy : Rg n y) (hw : Walk n os x y v) : Ok n os (raise g x y v) := by
  intro a b u hu
  rcases raise_cases g x y v a b u hu with h | ⟨rfl, rfl, rfl⟩
  · exact hg a b u h
  · exact ⟨hx, hy, hw⟩

theorem rng_ind {α : Type} {f : Nat → α → α} (p : Nat → α → Prop) {a : α} (h0 : p 0 a) : ∀ k, (∀ i, i < k → ∀ x, p i x → p (i + 1) (f i x)) → p k (rng f k a)
  | 0, _ => h0
  | k + 1, h => h k (Nat.lt_succ_self k) _ (rng_ind p h0 k fun i hi => h i (Nat.lt_succ_of_lt hi))

theorem rg_cast {n k : Nat} (h : k < n) : Rg n (k : Int) := ⟨by omega, by omega⟩

theorem initG_eq (n : Nat) : ∀ k, k ≤ n → ∀ x y v, rng (fun v g => putG (putG g v v 0) 0 v 0) k (fun _ _ => none) x y = some v ↔ (v = 0 ∧ ((x = y ∧ Rg k x) ∨ (x = 0 ∧ Rg k y)))
  | 0, _, x, y, v => by simp [rng, Rg] <;> omega
  | k + 1, hk, x, y, v => by
    have ih := initG_eq n k (by omega) x y v
    simp only [rng, putG]
    unfold Rg at *
    split
    · rename_i e; simp only [Option.some.injEq]; omega
    · split
      · rename_i e; simp only [Option.some.injEq]; omega
      · rename_i e1 e2; rw [ih]; omega

theorem initG_ok (n : Nat) (os : List Order) : Ok n os (initG n) := by
  intro x y v h
  obtain ⟨rfl, h' | h'⟩ := (initG_eq n n (Nat.le_refl _) x y v).1 h
  · obtain ⟨rfl, h2⟩ := h'; exact ⟨h2, h2, .one (.self _ h2) h2⟩
  · obtain ⟨rfl, h2⟩ := h'
    have h0 : Rg n 0 := by unfold Rg at *; omega
    exact ⟨h0, h2, .one (.zero _ h2) h0⟩

theorem step_cases (m low high : Nat) (g : G) : (∃ a b, g low m = some a ∧ g m high = some b ∧ step m low high g = raise g low high (a + b)) ∨ step m low high g = g := by
  unfold step
  split
  · rename_i a b ha hb; exact .inl ⟨a, b, ha, hb, rfl⟩
  · exact .inr rfl
theorem step_some {m low high : Nat} {g : G} {a b : Int} (ha : g low m = some a) (hb : g m high = some b) : step m low high g = raise g low high (a + b) := by
  unfold step; rw [ha, hb]
theorem step_ok {n : Nat} {os : List Order} {g : G} (hg : Ok n os g) (m low high : Nat) : Ok n os (step m low high g) := by
  unfold step
  split
  · rename_i a b ha hb
    obtain ⟨h1, h2, h3⟩ := hg _ _ _ ha
    obtain ⟨h4, h5, h6⟩ := hg _ _ _ hb
    exact raise_ok hg h1 h5 (h3.trans h6)
  · exact hg
theorem step_le (m low high : Nat) (g : G) : Le g (step m low high g) := by
  unfold step
  split
  · exact raise_le _ _ _ _
  · exact Le.refl _
theorem pass_ok {n : Nat} {os : List Order} {g : G} (hg : Ok n os g) (m : Nat) : Ok n os (pass n m g) :=
  rng_ind (fun _ g => Ok n os g) hg n fun i _ _ hx => rng_ind (fun _ g => Ok n os g) hx n fun j _ _ hy => step_ok hy m i j
theorem pass_le (n m : Nat) (g : G) : Le g (pass n m g) :=
  rng_ind (fun _ g' => Le g g') (Le.refl g) n fun i _ _ hx => rng_ind (fun _ g' => Le g g') hx n fun j _ y hy => hy.trans (step_le m i j y)

/-- In a round over 'm' whose own way is 0 the graph becomes what one would write down. -/
theorem pass_zero {n m : Nat} {g : G} (hz : g m m = some 0) :
    ∀ x y v, pass n m g x y = some v → g x y = some v ∨ ∃ a b, g x m = some a ∧ g m y = some b ∧ v = a + b := by
  have key : ∀ (g' : G), (∀ i, g' i m = g i m) → (∀ i, g' m i = g m i) → (∀ x y v, g' x y = some v → g x y = some v ∨ ∃ a b, g x m = some a ∧ g m y = some b ∧ v = a + b) → ∀ low high : Nat,
      (∀ i, step m low high g' i m = g i m) ∧ (∀ i, step m low high g' m i = g m i) ∧ ∀ x y v, step m low high g' x y = some v → g x y = some v ∨ ∃ a b, g x m = some a ∧ g m y = some b ∧ v = a + b := by
    intro g' h1 h2 h3 low high
    rcases step_cases m low high g' with ⟨a, b, ha, hb, e⟩ | e
    · rw [e]
      have ha' := ha; have hb' := hb
      rw [h1] at ha'
      rw [h2] at hb'
      refine ⟨fun i => ?_, fun i => ?_, fun x y v hv => ?_⟩
      · by_cases e : i = low ∧ (m : Int) = high
        · obtain ⟨rfl, e2⟩ := e
          rw [← e2] at hb' ⊢
          rw [hz] at hb'
          have : b = 0 := by simpa using hb'.symm
          subst this
          have hlm : g' low m = some a := ha
          simp only [raise, putG, and_self, if_true, hlm, more, Int.add_zero, Int.lt_irrefl, if_false]
          rw [← h1]; exact hlm.symm
        · rw [raise_ne _ _ _ _ _ _ e]; exact h1 i
      · by_cases e : (m : Int) = low ∧ i = high
        · obtain ⟨e1, rfl⟩ := e
          rw [← e1] at ha' ⊢
          rw [hz] at ha'
          have : a = 0 := by simpa using ha'.symm
          subst this
          simp only [raise, putG, and_self, if_true, hb, more, Int.zero_add, Int.lt_irrefl, if_false]
          rw [← h2]; exact hb.symm
        · rw [raise_ne _ _ _ _ _ _ e]; exact h2 i
      · rcases raise_cases _ _ _ _ _ _ _ hv with h | ⟨rfl, rfl, rfl⟩
        · exact h3 _ _ _ h
        · exact .inr ⟨a, b, ha', hb', rfl⟩
    · rw [e]; exact ⟨h1, h2, h3⟩
  have := rng_ind (f := passRow n m) (fun _ g' => (∀ i, g' i m = g i m) ∧ (∀ i, g' m i = g m i) ∧ ∀ x y v, g' x y = some v → g x y = some v ∨ ∃ a b, g x m = some a ∧ g m y = some b ∧ v = a + b)
    (a := g) ⟨fun _ => rfl, fun _ => rfl, fun _ _ _ h => .inl h⟩ n fun i _ _ ⟨h1, h2, h3⟩ =>
      rng_ind (f := step m i) (fun _ g' => (∀ i, g' i m = g i m) ∧ (∀ i, g' m i = g m i) ∧ ∀ x y v, g' x y = some v → g x y = some v ∨ ∃ a b, g x m = some a ∧ g m y = some b ∧ v = a + b)
        ⟨h1, h2, h3⟩ n fun j _ y ⟨k1, k2, k3⟩ => key y k1 k2 k3 i j
  exact this.2.2

/-- .. and it has every way through 'm'. -/
theorem pass_through {n m : Nat} {g : G} {x y a b : Int} (hx : Rg n x) (hy : Rg n y) (ha : g x m = some a) (hb : g m y = some b) : ∃ v, pass n m g x y = some v ∧ a + b ≤ v := by
  obtain ⟨i, rfl⟩ := Int.eq_ofNat_of_zero_le hx.1
  obtain ⟨j, rfl⟩ := Int.eq_ofNat_of_zero_le hy.1
  have hi : i < n := by have := hx.2; omega
  have hj : j < n := by have := hy.2; omega
  have hrow : ∀ (g' : G), Le g g' → ∀ k, j < k → ∃ v, rng (step m i) k g' i j = some v ∧ a + b ≤ v := by
    intro g' hg' k
    induction k with
    | zero => omega
    | succ k ih =>
      intro hk
      by_cases e : j = k
      · subst e
        have hle : Le g (rng (step m i) j g') := rng_ind (fun _ x => Le g x) hg' j fun q _ x hx => hx.trans (step_le m i q x)
        obtain ⟨a', h1, h2⟩ := hle _ _ _ ha
        obtain ⟨b', h3, h4⟩ := hle _ _ _ hb
        simp only [rng]
        have : step m i j (rng (step m i) j g') = raise (rng (step m i) j g') i j (a' + b') := by
          exact step_some h1 h3
        rw [this]
        obtain ⟨u, hu, hle'⟩ := raise_self (rng (step m i) j g') i j (a' + b')
        exact ⟨u, hu, by omega⟩
      · obtain ⟨v, hv, hle⟩ := ih (by omega)
        obtain ⟨v', h1, h2⟩ := step_le m i k _ _ _ _ hv
        exact ⟨v', h1, by omega⟩
  have hall : ∀ k, i < k → ∃ v, rng (passRow n m) k g i j = some v ∧ a + b ≤ v := by
    intro k
    induction k with
    | zero => omega
    | succ k ih =>
      intro hk
      by_cases e : i = k
      · subst e
        have hle : Le g (rng (passRow n m) i g) := rng_ind (fun _ x => Le g x) (Le.refl g) i fun q _ _ hx => rng_ind (fun _ z => Le g z) hx n fun r _ z hz => hz.trans (step_le m q r z)
        exact hrow _ hle n hj
      · obtain ⟨v, hv, hle⟩ := ih (by omega)
        have : Le (rng (passRow n m) k g) (passRow n m k (rng (passRow n m) k g)) := rng_ind (fun _ z => Le (rng (passRow n m) k g) z) (Le.refl _) n fun r _ z hz => hz.trans (step_le m k r z)
        obtain ⟨v', h1, h2⟩ := this _ _ _ hv
        exact ⟨v', h1, by omega⟩
  exact hall n hi

/-- the ways through the first m variables are in it -/
def Tri (m : Nat) (g : G) : Prop := ∀ (k : Nat) x y a b, k < m → g x k = some a → g k y = some b → ∃ v, g x y = some v ∧ a + b ≤ v

theorem cyc_false {n : Nat} {g : G} (h : cyc n g = false) {v : Nat} (hv : v < n) {u : Int} (hu : g v v = some u) : u ≤ 0 := by
  unfold cyc at h
  have := List.any_eq_false.1 h v (List.mem_range.2 hv)
  unfold posG at this
  simp [hu] at this
  omega
theorem cyc_true {n : Nat} {g : G} (h : cyc n g = true) : ∃ v : Nat, v < n ∧ ∃ u, g v v = some u ∧ 0 < u := by
  unfold cyc at h
  obtain ⟨v, hv, h⟩ := List.any_eq_true.1 h
  refine ⟨v, List.mem_range.1 hv, ?_⟩
  unfold posG at h
  cases hg : g v v with
  | none => simp [hg] at h
  | some u => simp [hg] at h; exact ⟨u, rfl, h⟩

def Diag (n : Nat) (g : G) : Prop := ∀ v : Nat, v < n → ∃ u, g v v = some u ∧ 0 ≤ u
theorem Diag.le {n : Nat} {g g' : G} (h : Diag n g) (k : Le g g') : Diag n g' := fun v hv => by
  obtain ⟨u, h1, h2⟩ := h v hv
  obtain ⟨u', h3, h4⟩ := k _ _ _ h1
  exact ⟨u', h3, by omega⟩

theorem pass_tri {n m : Nat} {os : List Order} (hm : m < n) {g : G} (hg : Ok n os g) (hd : Diag n g) (ht : Tri m g) (hc : cyc n (pass n m g) = false) : Tri (m + 1) (pass n m g) := by
  have hz : g m m = some 0 := by
    obtain ⟨u, h1, h2⟩ := hd m hm
    obtain ⟨u', h3, h4⟩ := pass_le n m g _ _ _ h1
    have := cyc_false hc hm h3
    rw [h1]; congr 1; omega
  have hz' := pass_zero (n := n) hz
  have hle := pass_le n m g
  intro k x y a b hk ha hb
  have hgo := pass_ok hg m
  have hx := (hgo _ _ _ ha).1
  have hy := (hgo _ _ _ hb).2.1
  have ha' := hz' _ _ _ ha
  have hb' := hz' _ _ _ hb
  by_cases e : k = m
  · subst e
    have h1 : g x k = some a := by
      rcases ha' with h | ⟨p, q, hp, hq, rfl⟩
      · exact h
      · rw [hz] at hq; have : q = 0 := by simpa using hq.symm
        subst this; simpa using hp
    have h2 : g k y = some b := by
      rcases hb' with h | ⟨p, q, hp, hq, rfl⟩
      · exact h
      · rw [hz] at hp; have : p = 0 := by simpa using hp.symm
        subst this; simpa using hq
    exact pass_through hx hy h1 h2
  · have hkm : k < m := by omega
    rcases ha' with h1 | ⟨a1, a2, h1, h1', rfl⟩ <;> rcases hb' with h2 | ⟨b1, b2, h2, h2', rfl⟩
    · obtain ⟨v, hv, hle1⟩ := ht k x y a b hkm h1 h2
      obtain ⟨v', h3, h4⟩ := hle _ _ _ hv
      exact ⟨v', h3, by omega⟩
    · obtain ⟨v, hv, hle1⟩ := ht k x m a b1 hkm h1 h2
      obtain ⟨v', h3, h4⟩ := pass_through (n := n) hx hy hv h2'
      exact ⟨v', h3, by omega⟩
    · obtain ⟨v, hv, hle1⟩ := ht k m y a2 b hkm h1' h2
      obtain ⟨v', h3, h4⟩ := pass_through (n := n) hx hy h1 hv
      exact ⟨v', h3, by omega⟩
    · obtain ⟨v, hv, hle1⟩ := ht k m m a2 b1 hkm h1' h2
      rw [hz] at hv
      have : v = 0 := by simpa using hv.symm
      obtain ⟨v', h3, h4⟩ := pass_through (n := n) hx hy h1 h2'
      exact ⟨v', h3, by omega⟩

/-- what the rounds come to -/
theorem fwGo_spec {n : Nat} {os : List Order} : ∀ (f m : Nat) (g : G), m + f = n → Ok n os g → Diag n g → Tri m g → (1 ≤ m → cyc n g = false) →
    match fwGo n f m g with
    | none => ∃ x w, Walk n os x x w ∧ 0 < w
    | some g' => Ok n os g' ∧ Le g g' ∧ Tri n g' ∧ (1 ≤ n → ∀ v : Nat, v < n → g' v v = some 0)
  | 0, m, g, hmf, hg, hd, ht, hc => by
    simp only [fwGo]
    have : m = n := by omega
    subst this
    refine ⟨hg, Le.refl _, ht, fun h1 v hv => ?_⟩
    obtain ⟨u, h2, h3⟩ := hd v hv
    have := cyc_false (hc h1) hv h2
    rw [h2]; congr 1; omega
  | f + 1, m, g, hmf, hg, hd, ht, hc => by
    simp only [fwGo]
    cases hcy : cyc n (pass n m g) with
    | true =>
      simp only [if_true]
      obtain ⟨v, hv, u, h1, h2⟩ := cyc_true hcy
      exact ⟨v, u, (pass_ok hg m _ _ _ h1).2.2, h2⟩
    | false =>
      simp only [Bool.false_eq_true, if_false]
      have := fwGo_spec (os := os) f (m + 1) (pass n m g) (by omega) (pass_ok hg m) (hd.le (pass_le n m g)) (pass_tri (by omega) hg hd ht hcy) (fun _ => hcy)
      cases h : fwGo n f (m + 1) (pass n m g) with
      | none => rw [h] at this; exact this
      | some g' => rw [h] at this; exact ⟨this.1, (pass_le n m g).trans this.2.1, this.2.2⟩

theorem ordG_spec {vars : Int} {n : Nat} (hn : (n : Int) = vars + 1) {os : List Order} : ∀ (r : List Order) (g : G), (∀ o ∈ r, o ∈ os) → Ok n os g → ∀ g', ordG vars r g = some g' → Ok n os g' ∧ Le g g' ∧ (∀ o ∈ r, ∃ v, g' o.low o.high = some v ∧ o.add ≤ v) ∧ ∀ o ∈ r, badOrd vars o = false
  | [], g, _, hg, g', h => by
    simp only [ordG, Option.some.injEq] at h
    subst h
    exact ⟨hg, Le.refl _, ⟨fun o ho => (by cases ho), fun o ho => (by cases ho)⟩⟩
  | o :: r, g, hr, hg, g', h => by
    simp only [ordG] at h
    cases hb : badOrd vars o with
    | true => rw [hb] at h; simp at h
    | false =>
      rw [hb] at h
      simp only [Bool.false_eq_true, if_false] at h
      have hb' : ¬ (o.low < 0 ∨ vars < o.low ∨ o.high < 0 ∨ vars < o.high ∨ o.add < -1000 ∨ 1000 < o.add) := by simpa [badOrd] using hb
      have h1 : Rg n o.low := by unfold Rg; omega
      have h2 : Rg n o.high := by unfold Rg; omega
      have hok := raise_ok hg h1 h2 (Walk.one (.ord o (hr o (by simp)) h1 h2) h1)
      obtain ⟨k1, k2, k3, k4⟩ := ordG_spec hn r _ (fun q hq => hr q (by simp [hq])) hok g' h
      refine ⟨k1, (raise_le _ _ _ _).trans k2, fun q hq => ?_, fun q hq => ?_⟩
      · rcases List.mem_cons.1 hq with rfl | hq
        · obtain ⟨u, h3, h4⟩ := raise_self g q.low q.high q.add
          obtain ⟨u', h5, h6⟩ := k2 _ _ _ h3
          exact ⟨u', h5, by omega⟩
        · exact k3 q hq
      · rcases List.mem_cons.1 hq with rfl | hq
        · exact hb
        · exact k4 q hq

theorem ordG_none {vars : Int} : ∀ (r : List Order) (g : G), (ordG vars r g = none ↔ r.any (badOrd vars) = true)
  | [], g => by simp [ordG]
  | o :: r, g => by
    simp only [ordG, List.any_cons]
    cases hb : badOrd vars o with
    | true => simp
    | false => simpa using ordG_none r _

/-- the graph that 'closed' comes to -/
structure Closed (n : Nat) (os : List Order) (g : G) : Prop where
  walk : ∀ x y v, g x y = some v → Rg n x ∧ Rg n y ∧ Walk n os x y v
  most : ∀ x y p, Walk n os x y p → ∃ v, g x y = some v ∧ p ≤ v
  zero : ∀ x, Rg n x → g x x = some 0

theorem closedF_ok {vars : Int} {os : List Order} {g : G} (h : closedF vars os = .ok g) : Closed (vars.toNat + 1) os g ∧ 0 ≤ vars ∧ vars ≤ 16 ∧ os.length ≤ 64 ∧ os.any (badOrd vars) = false := by
  unfold closedF at h
  split at h
  · cases h
  · rename_i hv
    split at h
    · cases h
    · rename_i hl
      split at h
      · cases h
      · rename_i g0 hg0
        split at h
        · cases h
        · rename_i g1 hg1
          have : g1 = g := by simpa using h
          subst this
          have hn : ((vars.toNat + 1 : Nat) : Int) = vars + 1 := by omega
          obtain ⟨k1, k2, k3, k4⟩ := ordG_spec hn os (initG (vars.toNat + 1)) (fun _ h => h) (initG_ok _ os) g0 hg0
          have hd : Diag (vars.toNat + 1) g0 := Diag.le (fun v hv => ⟨0, (initG_eq _ _ (Nat.le_refl _) _ _ _).2 ⟨rfl, .inl ⟨rfl, rg_cast hv⟩⟩, Int.le_refl _⟩) k2
          have := fwGo_spec (os := os) (vars.toNat + 1) 0 g0 (by omega) k1 hd (fun k _ _ _ _ hk => by omega) (fun h => by omega)
          rw [hg1] at this
          obtain ⟨m1, m2, m3, m4⟩ := this
          have hz : ∀ x, Rg (vars.toNat + 1) x → g1 x x = some 0 := fun x hx => by
            obtain ⟨i, rfl⟩ := Int.eq_ofNat_of_zero_le hx.1
            exact m4 (by omega) i (by have := hx.2; omega)
          have hedge : ∀ x y p, Edge (vars.toNat + 1) os x y p → ∃ v, g1 x y = some v ∧ p ≤ v := by
            intro x y p e
            cases e with
            | zero _ hy =>
              obtain ⟨u, h1, h2⟩ := (k2.trans m2) _ _ _ ((initG_eq _ _ (Nat.le_refl _) 0 y 0).2 ⟨rfl, .inr ⟨rfl, hy⟩⟩)
              exact ⟨u, h1, h2⟩
            | self _ hy => exact ⟨0, hz _ hy, Int.le_refl _⟩
            | ord o ho _ _ =>
              obtain ⟨u, h1, h2⟩ := k3 o ho
              obtain ⟨u', h3, h4⟩ := m2 _ _ _ h1
              exact ⟨u', h3, by omega⟩
          refine ⟨⟨m1, fun x y p hw => ?_, hz⟩, by omega, by omega, by omega, ?_⟩
          · induction hw with
            | nil hx => exact ⟨0, hz _ hx, Int.le_refl _⟩
            | snoc hw e ih =>
              obtain ⟨a, ha, hp⟩ := ih
              obtain ⟨b, hb, hq⟩ := hedge _ _ _ e
              have hmid := (m1 _ _ _ ha).2.1
              obtain ⟨i, rfl⟩ := Int.eq_ofNat_of_zero_le hmid.1
              obtain ⟨v, hv, hle⟩ := m3 i _ _ a b (by have := hmid.2; omega) ha hb
              exact ⟨v, hv, by omega⟩
          · rw [List.any_eq_false]
            exact fun o ho => by simp [k4 o ho]

theorem closedF_err {vars : Int} {os : List Order} {e : Int} (h : closedF vars os = .error e) :
    ((vars < 0 ∨ 16 < vars) ∧ e = 1) ∨ (¬ (vars < 0 ∨ 16 < vars) ∧ 64 < os.length ∧ e = 5) ∨ (¬ (vars < 0 ∨ 16 < vars) ∧ ¬ 64 < os.length ∧ os.any (badOrd vars) = true ∧ e = 1) ∨
    (¬ (vars < 0 ∨ 16 < vars) ∧ ¬ 64 < os.length ∧ os.any (badOrd vars) = false ∧ e = 7 ∧ ∃ x w, Walk (vars.toNat + 1) os x x w ∧ 0 < w) := by
  unfold closedF at h
  split at h
  · rename_i hv; exact .inl ⟨hv, by simpa using h.symm⟩
  · rename_i hv
    split at h
    · rename_i hl; exact .inr (.inl ⟨hv, hl, by simpa using h.symm⟩)
    · rename_i hl
      split at h
      · rename_i hg; exact .inr (.inr (.inl ⟨hv, hl, (ordG_none os _).1 hg, by simpa using h.symm⟩))
      · rename_i g0 hg0
        have hany : os.any (badOrd vars) = false := by
          cases hb : os.any (badOrd vars) with
          | false => rfl
          | true => rw [(ordG_none os _).2 hb] at hg0; cases hg0
        split at h
        · rename_i hg1
          have hn : ((vars.toNat + 1 : Nat) : Int) = vars + 1 := by omega
          obtain ⟨k1, k2, k3, k4⟩ := ordG_spec hn os (initG (vars.toNat + 1)) (fun _ h => h) (initG_ok _ os) g0 hg0
          have hd : Diag (vars.toNat + 1) g0 := Diag.le (fun v hv => ⟨0, (initG_eq _ _ (Nat.le_refl _) _ _ _).2 ⟨rfl, .inl ⟨rfl, rg_cast hv⟩⟩, Int.le_refl _⟩) k2
          have := fwGo_spec (os := os) (vars.toNat + 1) 0 g0 (by omega) k1 hd (fun k _ _ _ _ hk => by omega) (fun h => by omega)
          rw [hg1] at this
          exact .inr (.inr (.inr ⟨hv, hl, hany, by simpa using h.symm, this⟩))
        · cases h
end Lv
