/-
  Levels: the walks of the program's and the reference's functions.
-/
import Derived.Test.YtbgiljognlbkhaaLvM
import Derived.Test.YtbgiljognlbkhaaLvC
set_option linter.unusedSimpArgs false
set_option linter.unusedVariables false
namespace Go.Proofs.Ytbgiljognlbkhaa
open Go.Wx Lv

/-! ### how data lie in memory -/
def Rw (N : Nat) (h : Array Obj) (a : Option Addr) (k len : Nat) (c : Nat → Nat → Value) : Prop :=
  len = 0 ∨ ∃ b o, a = some ⟨b, o, none⟩ ∧ b < N ∧ ∀ i j, i < len → j < k → Cl h b (o + i * k + j) (c i j)
theorem Rw.kp {N k len : Nat} {w w' : World} {a : Option Addr} {c : Nat → Nat → Value} (h : Rw N w.heap a k len c) (hk : Kp [] w w') {N' : Nat} (hN : N ≤ N') : Rw N' w'.heap a k len c := by
  rcases h with h | ⟨b, o, h1, h2, h3⟩
  · exact .inl h
  · exact .inr ⟨b, o, h1, by omega, fun i j hi hj => (h3 i j hi hj).kp hk (by simp)⟩

def I64 (x : Int) : Prop := -9223372036854775808 ≤ x ∧ x ≤ 9223372036854775807
def Ints (N : Nat) (h : Array Obj) (a : Option Addr) (l : List Int) : Prop := Rw N h a 1 l.length (fun i _ => .int .i64 (l.getD i 0)) ∧ ∀ x ∈ l, I64 x
def Atoms (N : Nat) (h : Array Obj) (a : Option Addr) (l : List Atom) : Prop :=
  Rw N h a 2 l.length (fun i j => .int .i64 (if j = 0 then (l.getD i default).var else (l.getD i default).add)) ∧ ∀ x ∈ l, I64 x.var ∧ I64 x.add
def Orders (N : Nat) (h : Array Obj) (a : Option Addr) (l : List Order) : Prop :=
  Rw N h a 3 l.length (fun i j => .int .i64 (if j = 0 then (l.getD i default).low else if j = 1 then (l.getD i default).add else (l.getD i default).high)) ∧ ∀ x ∈ l, I64 x.low ∧ I64 x.add ∧ I64 x.high

theorem Ints.kp {N : Nat} {w w' : World} {a : Option Addr} {l : List Int} (h : Ints N w.heap a l) (hk : Kp [] w w') {N' : Nat} (hN : N ≤ N') : Ints N' w'.heap a l := ⟨h.1.kp hk hN, h.2⟩
theorem Atoms.kp {N : Nat} {w w' : World} {a : Option Addr} {l : List Atom} (h : Atoms N w.heap a l) (hk : Kp [] w w') {N' : Nat} (hN : N ≤ N') : Atoms N' w'.heap a l := ⟨h.1.kp hk hN, h.2⟩
theorem Orders.kp {N : Nat} {w w' : World} {a : Option Addr} {l : List Order} (h : Orders N w.heap a l) (hk : Kp [] w w') {N' : Nat} (hN : N ≤ N') : Orders N' w'.heap a l := ⟨h.1.kp hk hN, h.2⟩

theorem drop_cons {α : Type} [Inhabited α] (l : List α) (k : Nat) (h : k < l.length) : l.drop k = l.getD k default :: l.drop (k + 1) := by
  rw [List.drop_eq_getElem_cons h]
  simp [h]
theorem getD_mem {α : Type} [Inhabited α] (l : List α) (k : Nat) (h : k < l.length) : l.getD k default ∈ l := by
  simp [h]

theorem at2 {h : Array Obj} {b o : Nat} {x y : Value} (h0 : Cl h b (o + 0) x) (h1 : Cl h b (o + 1) y) : ∀ j v, [x, y][j]? = some v → Cl h b (o + j) v := by
  intro j v hv
  match j, hv with
  | 0, hv => simp at hv; subst hv; exact h0
  | 1, hv => simp at hv; subst hv; exact h1
  | j + 2, hv => simp at hv
theorem at3 {h : Array Obj} {b o : Nat} {x y z : Value} (h0 : Cl h b (o + 0) x) (h1 : Cl h b (o + 1) y) (h2 : Cl h b (o + 2) z) : ∀ j v, [x, y, z][j]? = some v → Cl h b (o + j) v := by
  intro j v hv
  match j, hv with
  | 0, hv => simp at hv; subst hv; exact h0
  | 1, hv => simp at hv; subst hv; exact h1
  | 2, hv => simp at hv; subst hv; exact h2
  | j + 3, hv => simp at hv

/-! ### raise -/
theorem raise_ct {w : World} {b : Nat} {g : G} (hg : Gr w.heap b g) (x y v : Int) :
    CallOk Try.prog 44 ∧ Calls Try.prog 44 #[.map (some b), .agg #[.int .i64 x, .int .i64 y], .int .i64 v] w (fun e w' => e = .returned (.tuple #[]) ∧ Gr w'.heap b (raise g x y v) ∧ Kp [b] w w') := by
  refine ⟨⟨_, Try.func44, rfl, by decide⟩, ?_⟩
  refine calls_of (args := [_, _, _]) 24 [] τok Try.func44 rfl rfl rfl (Nat.le_of_ble_eq_true rfl) ?_
  refine new fun b1 w1 hb1 hB1 hs1 hk1 => ?_
  have hg1 : Gr w1.heap b g := hg.kp hk1 (by simp)
  have hlt := hg.lt
  refine ldN [.int .i64 x, .int .i64 y] rfl (at2 (hB1.cl rfl) (hB1.cl rfl)) ?_
  refine run (gr_look hg1 x y true) ?_
  have keep : ∀ old, g x y = some old → ¬ old < v → raise g x y v = g := fun old h1 h2 => by
    funext a c
    by_cases e : a = x ∧ c = y
    · obtain ⟨rfl, rfl⟩ := e; simp [raise, putG, h1, more, h2]
    · exact raise_ne _ _ _ _ _ _ e
  cases hgo : g x y with
  | none =>
    have hr : raise g x y v = putG g x y v := by simp [raise, hgo, more]
    refine ldN [.int .i64 x, .int .i64 y] rfl (at2 (hB1.cl rfl) (hB1.cl rfl)) ?_
    refine gr_put hg1 x y v fun w2 hg2 hs2 hk2 => ?_
    refine ⟨rfl, by rw [hr]; exact hg2, ?_⟩
    exact (hk1.weak (by simp)).trans hk2 (fun _ h _ => h)
  | some old =>
    refine br_dec (fun h1 => ?_) (fun h1 => ?_)
    · have h1' : old < v := h1
      have hr : raise g x y v = putG g x y v := by simp [raise, hgo, more, h1']
      refine ldN [.int .i64 x, .int .i64 y] rfl (at2 (hB1.cl rfl) (hB1.cl rfl)) ?_
      refine gr_put hg1 x y v fun w2 hg2 hs2 hk2 => ?_
      refine ⟨rfl, by rw [hr]; exact hg2, ?_⟩
      exact (hk1.weak (by simp)).trans hk2 (fun _ h _ => h)
    · exact ⟨rfl, by rw [keep old hgo h1]; exact hg1, hk1.weak (by simp)⟩

/-! ### closed -/
def ClosedPost (vars : Int) (os : List Order) (w : World) (e : Ending) (w' : World) : Prop :=
  Kp [] w w' ∧ match closedF vars os with
    | .error n => e = .returned (.tuple #[.map none, .int .i64 n])
    | .ok g => ∃ b, e = .returned (.tuple #[.map (some b), .int .i64 0]) ∧ Gr w'.heap b g ∧ w.heap.size ≤ b

theorem Kp.own {w w1 w2 : World} {b : Nat} (h : Kp [] w w1) (k : Kp [b] w1 w2) (hb : w.heap.size ≤ b) : Kp [] w w2 :=
  h.trans k fun x hx hl => by
    have : x = b := by simpa using hx
    omega

set_option maxHeartbeats 1000000 in
theorem closed_ct (vars : Int) (os : List Order) (a : Option Addr) (cap : Nat) (w : World) (hv : Orders w.heap.size w.heap a os) :
    CallOk Try.prog 34 ∧ Calls Try.prog 34 #[.int .i64 vars, .slice a os.length cap] w (ClosedPost vars os w) := by
  refine ⟨⟨_, Try.func34, rfl, by decide⟩, ?_⟩
  refine calls_of (args := [_, _]) 146 [.tmp 4, .tmp 5] τok Try.func34 rfl rfl rfl (Nat.le_of_ble_eq_true rfl) ?_
  have err : ∀ n, closedF vars os = .error n → ∀ w', Kp [] w w' → ClosedPost vars os w (.returned (.tuple #[.map none, .int .i64 n])) w' := fun n h w' hk => ⟨hk, by rw [h]⟩
  refine br_dec (fun h1 => ?_) (fun h1 => ?_)
  · exact err 1 (by unfold closedF; rw [if_pos (by omega)]) _ (Kp.refl _ _)
  refine br_dec (fun h2 => ?_) (fun h2 => ?_)
  · exact err 1 (by unfold closedF; rw [if_pos (by omega)]) _ (Kp.refl _ _)
  refine br_dec (fun h3 => ?_) (fun h3 => ?_)
  · exact err 5 (by unfold closedF; rw [if_neg (by omega), if_pos (by omega)]) _ (Kp.refl _ _)
  obtain ⟨n, hn⟩ : ∃ n : Nat, (n : Int) = vars + 1 := ⟨vars.toNat + 1, by omega⟩
  have hn17 : n ≤ 17 := by omega
  have hcl : closedF vars os = match ordG vars os (initG n) with
    | none => .error 1
    | some g => match fwGo n n 0 g with
      | none => .error 7
      | some g' => .ok g' := by
    have e : vars.toNat + 1 = n := by omega
    unfold closedF
    rw [if_neg (by omega), if_neg (by omega), e]
    rfl
  refine gr_new fun bm w1 hbm hg1 hs1 hk1 => ?_
  have hbw : w.heap.size ≤ bm := by omega
  refine int64 (by omega) (by omega) ?_
  -- the first loop
  refine loop τok (σ := Nat) (fun k => [(0, .int .i64 vars), (1, .slice a os.length cap), (6, .map (some bm)), (29, .int .i64 (vars + 1)), (30, .int .i64 k)])
    (fun k w' => k ≤ n ∧ Gr w'.heap bm (rng (fun v g => putG (putG g v v 0) 0 v 0) k (fun _ _ => none)) ∧ Kp [] w w') (fun k => n - k) 0 ⟨rfl, rfl, rfl, rfl, rfl, trivial⟩ ⟨Nat.zero_le _, hg1, hk1⟩ ?_
  rintro k w2 ⟨hk, hg2, hk2⟩
  refine br_dec (fun h4 => ?_) (fun h4 => ?_)
  · refine gr_put hg2 k k 0 fun w3 hg3 hs3 hk3 => ?_
    refine gr_put hg3 0 k 0 fun w4 hg4 hs4 hk4 => ?_
    refine int64 (by omega) (by omega) ?_
    exact ⟨k + 1, by omega, rfl, ⟨rfl, rfl, rfl, rfl, rfl, trivial⟩, by omega, hg4, Kp.own (Kp.own hk2 hk3 hbw) hk4 hbw⟩
  obtain rfl : k = n := by omega
  clear h4 hk
  have hg2' : Gr w2.heap bm (initG k) := hg2
  clear hg2
  obtain ⟨n, rfl⟩ : ∃ n, n = k := ⟨k, rfl⟩
  -- the orders
  refine loop τok (σ := Nat × G) (fun x => [(0, .int .i64 vars), (41, .slice a os.length cap), (6, .map (some bm)), (42, .int .i64 os.length), (43, .int .i64 x.1)])
    (fun x w' => x.1 ≤ os.length ∧ Gr w'.heap bm x.2 ∧ ordG vars os (initG n) = ordG vars (os.drop x.1) x.2 ∧ BdG 1000 x.2 ∧ Kp [] w w') (fun x => os.length - x.1) (0, initG n) ⟨rfl, rfl, rfl, rfl, rfl, trivial⟩
    ⟨Nat.zero_le _, hg2', rfl, initG_bd n, hk2⟩ ?_
  rintro ⟨k, g⟩ w3 ⟨hk, hg3, hord, hbd, hk3⟩
  refine br_dec (fun h5 => ?_) (fun h5 => ?_)
  · have hlt : k < os.length := by omega
    obtain ⟨x, hx⟩ : ∃ x, x = os.getD k default := ⟨_, rfl⟩
    have hord' : ordG vars os (initG n) = if badOrd vars x then none else ordG vars (os.drop (k + 1)) (raise g x.low x.high x.add) := by
      rw [hord, drop_cons os k hlt, ← hx]; rfl
    rcases hv.1 with h0 | ⟨b, o, rfl, hb, hc⟩
    · omega
    have hc0 := (hc k 0 hlt (by omega)).kp hk3 (by simp)
    have hc1 := (hc k 1 hlt (by omega)).kp hk3 (by simp)
    have hc2 := (hc k 2 hlt (by omega)).kp hk3 (by simp)
    simp only [if_true, if_false, Nat.one_ne_zero, ← hx] at hc0 hc1 hc2
    refine ix k rfl hlt ?_
    refine ldN [.int .i64 x.low, .int .i64 x.add, .int .i64 x.high] rfl (at3 hc0 hc1 hc2) ?_
    refine new fun b4 w4 hb4 hB4 hs4 hk4 => ?_
    refine stN hB4 rfl (by simp [Value.oneCell']) fun w5 hB5 hs5 hk5 => ?_
    have hk5' := hk3.tr (hk4.newSt hb4 hk5)
    have hg5 : Gr w5.heap bm g := hg3.kp (hk4.newSt hb4 hk5) (by simp)
    have bad : badOrd vars x = true → closedF vars os = .error 1 := fun h => by rw [hcl, hord', h]; rfl
    refine ld (hB5.cl rfl).cell ?_
    refine br_dec (fun c1 => ?_) (fun c1 => ?_)
    · exact err 1 (bad (by unfold badOrd; exact decide_eq_true (by omega))) _ hk5'
    refine ld (hB5.cl rfl).cell ?_
    refine br_dec (fun c2 => ?_) (fun c2 => ?_)
    · exact err 1 (bad (by unfold badOrd; exact decide_eq_true (by omega))) _ hk5'
    refine ld (hB5.cl rfl).cell ?_
    refine br_dec (fun c3 => ?_) (fun c3 => ?_)
    · exact err 1 (bad (by unfold badOrd; exact decide_eq_true (by omega))) _ hk5'
    refine ld (hB5.cl rfl).cell ?_
    refine br_dec (fun c4 => ?_) (fun c4 => ?_)
    · exact err 1 (bad (by unfold badOrd; exact decide_eq_true (by omega))) _ hk5'
    refine ld (hB5.cl rfl).cell ?_
    refine br_dec (fun c5 => ?_) (fun c5 => ?_)
    · exact err 1 (bad (by unfold badOrd; exact decide_eq_true (by omega))) _ hk5'
    refine ld (hB5.cl rfl).cell ?_
    refine br_dec (fun c6 => ?_) (fun c6 => ?_)
    · exact err 1 (bad (by unfold badOrd; exact decide_eq_true (by omega))) _ hk5'
    have ok : badOrd vars x = false := by unfold badOrd; exact decide_eq_false (by omega)
    rw [ok] at hord'
    refine ld (hB5.cl rfl).cell ?_
    refine ld (hB5.cl rfl).cell ?_
    refine ld (hB5.cl rfl).cell ?_
    refine ev_call (raise_ct hg5 x.low x.high x.add) ?_
    rintro e w6 ⟨rfl, hg6, hk6⟩
    refine int64 (by omega) (by omega) ?_
    exact ⟨(k + 1, raise g x.low x.high x.add), by simp only; omega, rfl, ⟨rfl, rfl, rfl, rfl, rfl, trivial⟩, by simp only; omega, hg6, hord', raise_bd hbd (by omega) (by omega), Kp.own hk5' hk6 hbw⟩
  have hord2 : ordG vars os (initG n) = some g := by rw [hord, List.drop_eq_nil_of_le (by omega)]; rfl
  rw [hord2] at hcl
  simp only at hcl
  clear hord hord2 h5 hk
  refine int64 (by omega) (by omega) ?_
  -- the rounds
  refine loop τok (σ := Nat × G) (fun x => [(0, .int .i64 vars), (6, .map (some bm)), (88, .int .i64 (vars + 1)), (89, .int .i64 x.1)])
    (fun x w' => x.1 ≤ n ∧ Gr w'.heap bm x.2 ∧ fwGo n n 0 g = fwGo n (n - x.1) x.1 x.2 ∧ BdG (pw x.1) x.2 ∧ Kp [] w w') (fun x => n - x.1) (0, g) ⟨rfl, rfl, rfl, rfl, trivial⟩
    ⟨Nat.zero_le _, hg3, rfl, hbd, hk3⟩ ?_
  clear hg3 hbd hk3
  rintro ⟨m, g1⟩ w3 ⟨hm, hg3, hfw, hbd, hk3⟩
  simp only at hm hg3 hfw hbd
  refine br_dec (fun h5 => ?_) (fun h5 => ?_)
  · have hmn : m < n := by omega
    obtain ⟨hp0, hp1⟩ := pw_le m (by omega)
    have hJ := J_start hp0 hbd m
    refine int64 (by omega) (by omega) ?_
    -- rows
    refine loop τok (σ := Nat) (fun k => [(0, .int .i64 vars), (6, .map (some bm)), (88, .int .i64 (vars + 1)), (89, .int .i64 m), (10, .int .i64 m), (93, .int .i64 (vars + 1)), (94, .int .i64 k)])
      (fun k w' => k ≤ n ∧ Gr w'.heap bm (rng (passRow n m) k g1) ∧ Kp [] w w') (fun k => n - k) 0 ⟨rfl, rfl, rfl, rfl, rfl, rfl, rfl, trivial⟩ ⟨Nat.zero_le _, hg3, hk3⟩ ?_
    rintro low w4 ⟨hlow, hg4, hk4⟩
    refine br_dec (fun h6 => ?_) (fun h6 => ?_)
    · have hln : low < n := by omega
      obtain ⟨g2, hg2⟩ : ∃ g2, g2 = rng (passRow n m) low g1 := ⟨_, rfl⟩
      have hJ2 : J (pw m) m low 0 g2 := hg2 ▸ J_rows (n := n) hJ low
      rw [← hg2] at hg4
      refine int64 (by omega) (by omega) ?_
      -- columns
      refine loop τok (σ := Nat) (fun k => [(0, .int .i64 vars), (6, .map (some bm)), (88, .int .i64 (vars + 1)), (89, .int .i64 m), (10, .int .i64 m), (93, .int .i64 (vars + 1)), (94, .int .i64 low), (11, .int .i64 low), (98, .int .i64 (vars + 1)), (99, .int .i64 k)])
        (fun k w' => k ≤ n ∧ Gr w'.heap bm (rng (Lv.step m low) k g2) ∧ Kp [] w w') (fun k => n - k) 0 ⟨rfl, rfl, rfl, rfl, rfl, rfl, rfl, rfl, rfl, rfl, trivial⟩ ⟨Nat.zero_le _, hg4, hk4⟩ ?_
      rintro high w5 ⟨hhigh, hg5, hk5⟩
      refine br_dec (fun h7 => ?_) (fun h7 => ?_)
      · have hhn : high < n := by omega
        obtain ⟨g3, hg3'⟩ : ∃ g3, g3 = rng (Lv.step m low) high g2 := ⟨_, rfl⟩
        have hJ3 : J (pw m) m low high g3 := hg3' ▸ J_rng hJ2 high
        rw [← hg3'] at hg5
        have hstep : rng (Lv.step m low) (high + 1) g2 = Lv.step m low high g3 := by rw [hg3']; rfl
        refine run (gr_look hg5 low m true) ?_
        refine run (gr_look hg5 m high true) ?_
        have none_step : (g3 low m = none ∨ g3 m high = none) → Lv.step m low high g3 = g3 := fun h => by
          rcases step_cases m low high g3 with ⟨p, q, hp, hq, _⟩ | e
          · rcases h with h | h
            · rw [h] at hp; cases hp
            · rw [h] at hq; cases hq
          · exact e
        cases ha : g3 low m with
        | none =>
          refine int64 (by omega) (by omega) ?_
          exact ⟨high + 1, by omega, rfl, ⟨rfl, rfl, rfl, rfl, rfl, rfl, rfl, rfl, rfl, rfl, trivial⟩, by omega, by rw [hstep, none_step (.inl ha)]; exact hg5, hk5⟩
        | some p =>
          cases hb : g3 m high with
          | none =>
            refine int64 (by omega) (by omega) ?_
            exact ⟨high + 1, by omega, rfl, ⟨rfl, rfl, rfl, rfl, rfl, rfl, rfl, rfl, rfl, rfl, trivial⟩, by omega, by rw [hstep, none_step (.inr hb)]; exact hg5, hk5⟩
          | some q =>
            have hs := J_sum hJ3 ha hb
            refine int64 (by simp only [Option.getD_some]; omega) (by simp only [Option.getD_some]; omega) ?_
            refine ev_call (raise_ct hg5 low high (p + q)) ?_
            rintro e w6 ⟨rfl, hg6, hk6⟩
            refine int64 (by omega) (by omega) ?_
            exact ⟨high + 1, by omega, rfl, ⟨rfl, rfl, rfl, rfl, rfl, rfl, rfl, rfl, rfl, rfl, trivial⟩, by omega, by rw [hstep, step_some ha hb]; exact hg6, Kp.own hk5 hk6 hbw⟩
      · obtain rfl : high = n := by omega
        refine int64 (by omega) (by omega) ?_
        exact ⟨low + 1, by omega, rfl, ⟨rfl, rfl, rfl, rfl, rfl, rfl, rfl, trivial⟩, by omega, by rw [hg2] at hg5; exact hg5, hk5⟩
    · obtain rfl : low = n := by omega
      have hg4' : Gr w4.heap bm (pass low m g1) := hg4
      have hbd' : BdG (pw (m + 1)) (pass low m g1) := pass_bd hp0 hbd
      obtain ⟨g2, hg2⟩ : ∃ g2, g2 = pass low m g1 := ⟨_, rfl⟩
      rw [← hg2] at hg4' hbd'
      have hfw' : fwGo low low 0 g = if cyc low g2 then none else fwGo low (low - (m + 1)) (m + 1) g2 := by
        rw [hfw, show low - m = (low - (m + 1)) + 1 by omega, hg2]; rfl
      refine int64 (by omega) (by omega) ?_
      -- is there a cycle?
      refine loop τok (σ := Nat) (fun k => [(0, .int .i64 vars), (6, .map (some bm)), (88, .int .i64 (vars + 1)), (89, .int .i64 m), (133, .int .i64 (vars + 1)), (134, .int .i64 k)])
        (fun k w' => k ≤ low ∧ Gr w'.heap bm g2 ∧ (∀ v, v < k → posG g2 v = false) ∧ Kp [] w w') (fun k => low - k) 0 ⟨rfl, rfl, rfl, rfl, rfl, rfl, trivial⟩ ⟨Nat.zero_le _, hg4', fun v hv => by omega, hk4⟩ ?_
      rintro k w5 ⟨hk, hg5, hpos, hk5⟩
      refine br_dec (fun h7 => ?_) (fun h7 => ?_)
      · refine run (gr_look hg5 k k false) ?_
        refine br_dec (fun h8 => ?_) (fun h8 => ?_)
        · have hcy : cyc low g2 = true := by
            unfold cyc
            rw [List.any_eq_true]
            exact ⟨k, List.mem_range.2 (by omega), by unfold posG; exact decide_eq_true h8⟩
          exact err 7 (by rw [hcl, hfw', hcy]; rfl) _ hk5
        · refine int64 (by omega) (by omega) ?_
          refine ⟨k + 1, by omega, rfl, ⟨rfl, rfl, rfl, rfl, rfl, rfl, trivial⟩, by omega, hg5, fun v hv => ?_, hk5⟩
          by_cases e : v = k
          · subst e; unfold posG; exact decide_eq_false h8
          · exact hpos v (by omega)
      · obtain rfl : k = low := by omega
        have hcy : cyc k g2 = false := by
          unfold cyc
          rw [List.any_eq_false]
          intro v hv
          simp [hpos v (List.mem_range.1 hv)]
        rw [hcy] at hfw'
        refine int64 (by omega) (by omega) ?_
        exact ⟨(m + 1, g2), by simp only; omega, rfl, ⟨rfl, rfl, rfl, rfl, trivial⟩, by simp only; omega, hg5, hfw', hbd', hk5⟩
  · obtain rfl : m = n := by omega
    have : fwGo m m 0 g = some g1 := by rw [hfw, Nat.sub_self]; rfl
    refine ⟨hk3, ?_⟩
    rw [hcl, this]
    exact ⟨bm, rfl, hg3, hbw⟩
end Go.Proofs.Ytbgiljognlbkhaa
