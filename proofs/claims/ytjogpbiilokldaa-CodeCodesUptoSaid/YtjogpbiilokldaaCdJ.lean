/-
  Code: size, shaped, Check.
-/
import Derived.Test.YtjogpbiilokldaaCdI
set_option linter.unusedSimpArgs false
set_option linter.unusedVariables false
namespace Go.Wx
/-- cells of a block besides -/
def addB (C : Mem) (b : Nat) (cs : List Value) : Mem := fun b' o v => C b' o v ∨ (b' = b ∧ cs[o]? = some v)
theorem addB_l {C : Mem} {b : Nat} {cs : List Value} : ∀ b' o v, C b' o v → addB C b cs b' o v := fun _ _ _ h => Or.inl h
theorem addB_r {C : Mem} {b : Nat} {cs : List Value} {o : Nat} {v : Value} (h : cs[o]? = some v) : addB C b cs b o v := Or.inr ⟨rfl, h⟩
theorem addB_sub {C : Mem} {b : Nat} {cs : List Value} {w : World} {T : TypeId} (h : Sub C w) (hb : Bk w.heap b cs T) : Sub (addB C b cs) w := fun b' o v hc => by
  rcases hc with hc | ⟨rfl, hc⟩
  · exact h _ _ _ hc
  · exact hb.cl hc
def orM (C D : Mem) : Mem := fun b o v => C b o v ∨ D b o v
theorem orM_sub {C D : Mem} {w : World} (h : Sub C w) (h' : Sub D w) : Sub (orM C D) w := fun b o v hc => hc.elim (h _ _ _) (h' _ _ _)

/-- rows whose cells tell all of their elements -/
theorem Own.flat {α : Type} {R : Rd α} {e lo : Nat} {w w' : World} {v : Value} {l : List α} {X : List Nat} (hR : ∀ C C' cs x, R.den C cs x → R.den C' cs x) (h : Own R e lo w v l) (k : Kp X w w') (hx : ∀ g, v.ownBlock = some g → g ∉ X) : Own R e lo w' v l := by
  obtain ⟨⟨css, h1, h2⟩, h3⟩ := h
  exact ⟨⟨css, own_kp h1 k hx, h2.mono fun cs x hx => hR _ _ _ _ hx⟩, Nat.le_trans h3 k.size⟩
end Go.Wx

namespace Cd
open Go Go.Wx
def sizeM (c : Cod) : Nat := c.main.length + (c.funs.map fun f => f.code.length).sum + (c.bodies.map List.length).sum
def boxes (c : Cod) : List (List Nd) := c.bodies.map fun b => if b.length = 0 then [] else [Nd.box]
def stepB (c : Cod) (s : Bool × Int) (code : List Ins) (fl : Int) : Bool × Int := (s.1 && (blockM c code fl).isSome, max s.2 ((blockM c code fl).getD 0))
def stepF (c : Cod) (s : Bool × Int) (f : Fn) : Bool × Int := stepB c s f.code (f.caps + 1)
def stepY (c : Cod) (s : Bool × Int) (b : List Ins) : Bool × Int := if 0 < b.length then stepB c s b 0 else s
def blocksM (c : Cod) : Bool × Int := c.bodies.foldl (stepY c) (c.funs.foldl (stepF c) ((blockM c c.main 0).isSome, (blockM c c.main 0).getD 0))
def checkM (c : Cod) : Int :=
  if 64 < c.bodies.length ∨ 64 < c.shapes.length ∨ 4096 < c.funs.length ∨ 16384 < sizeM c then 5
  else if c.funs.any (fun f => !inM f.caps 0 255) then 5
  else if rightM (boxes c) c.shapes c.nat = false then 27
  else if (blocksM c).1 = false then 27
  else if 4096 < (blocksM c).2 then 5
  else 0

theorem sum_le {B : Nat} : ∀ (l : List Nat), (∀ x ∈ l, x ≤ B) → l.sum ≤ l.length * B
  | [], _ => by simp
  | x :: r, h => by
    have := sum_le r fun y hy => h y (by simp [hy])
    have := h x (by simp)
    simp only [List.sum_cons, List.length_cons, Nat.add_mul]
    omega
theorem le_sum {x : Nat} : ∀ {l : List Nat}, x ∈ l → x ≤ l.sum
  | y :: r, h => by
    rcases List.mem_cons.1 h with rfl | h
    · simp
    · have := le_sum h
      simp; omega
end Cd

namespace Go.Proofs.Ytjogpbiilokldaa
open Go.Wx Cd

theorem fn_len {C : Mem} {a : Option Addr} {l : List Cd.Fn} (h : Sl rFn C a l) : ∀ f ∈ l, f.code.length ≤ 1099511627776 := fun f hf => by
  obtain ⟨i, hi⟩ := List.getElem?_of_mem hf
  obtain ⟨b, o, _, a', cap, hs, _⟩ := sl_fn h hi
  exact hs.1
theorem sl_len {α : Type} {R : Rd α} {C : Mem} {a : Option Addr} {l : List (List α)} (h : Sl (rSl R) C a l) : ∀ x ∈ l, x.length ≤ 1099511627776 := fun x hx => by
  obtain ⟨i, hi⟩ := List.getElem?_of_mem hx
  obtain ⟨b, o, _, a', cap, _, hs⟩ := h.sl hi
  exact hs.1

theorem size_ct {C : Mem} {w : World} (hS : Sub C w) {cs : List Value} {c : Cod} (hc : rCod.den C cs c) (hb : c.bodies.length ≤ 64) (hf : c.funs.length ≤ 4096) :
    CallOk Try.prog 22 ∧ Calls Try.prog 22 #[.agg cs.toArray] w (fun e w' => e = .returned (.int .i64 (sizeM c)) ∧ Kp [] w w') := by
  obtain ⟨a1, c1, a2, c2, a3, c3, a4, c4, rfl, h1, h2, h3, h4, h5⟩ := hc
  have hsf : (c.funs.map fun f => f.code.length).sum ≤ 4096 * 1099511627776 := by
    refine Nat.le_trans (sum_le _ (B := 1099511627776) fun x hx => ?_) (Nat.mul_le_mul_right _ (by simpa using hf))
    obtain ⟨f, hf, rfl⟩ := List.mem_map.1 hx
    exact fn_len h2 f hf
  have hsb : (c.bodies.map List.length).sum ≤ 64 * 1099511627776 := by
    refine Nat.le_trans (sum_le _ (B := 1099511627776) fun x hx => ?_) (Nat.mul_le_mul_right _ (by simpa using hb))
    obtain ⟨f, hf, rfl⟩ := List.mem_map.1 hx
    exact sl_len h3 f hf
  have hml := h4.1
  refine ⟨⟨_, Try.func22, rfl, by decide⟩, ?_⟩
  refine calls_of (args := [_]) 37 [.tmp 2] τok Try.func22 rfl rfl rfl (Nat.le_of_ble_eq_true rfl) ?_
  refine new fun b1 w1 hb1 hB1 hs1 hk1 => ?_
  have hB1 : Bk w1.heap b1 [.int .i64 c.nat, .slice a1 c.shapes.length c1, .slice a2 c.funs.length c2, .slice a3 c.bodies.length c3, .slice a4 c.main.length c4] 28 := hB1
  (repeat first | refine ldC ‹Sub _ _› (by assumption) ?_ | refine ld (Cl.cell (by first | assumption | exact Bk.cl (by assumption) rfl)) ?_ | refine ldK (by first | assumption | exact Bk.cl (by assumption) rfl | exact ‹Sub _ _› _ _ _ (by assumption)) ?_)
  refine lp τok (σ := Nat × Nat) (fun q => [(1, .pointer (some ⟨b1, 0, none⟩)), (3, .int .i64 q.2), (12, .slice a2 c.funs.length c2), (13, .int .i64 c.funs.length), (14, .int .i64 q.1)])
    (fun q w' => q.1 ≤ c.funs.length ∧ Kp [] w1 w' ∧ q.2 + ((c.funs.drop q.1).map fun f => f.code.length).sum = c.main.length + (c.funs.map fun f => f.code.length).sum) (fun q => c.funs.length - q.1) (0, c.main.length) rfl
    ⟨rfl, rfl, rfl, rfl, rfl, trivial⟩ ⟨Nat.zero_le _, Kp.refl _ _, rfl⟩ ?_
  rintro ⟨k, m⟩ w2 ⟨hk, hkp, hr⟩
  simp only at hk hr
  have hB2 := hB1.kp hkp (by simp)
  have hS2 := (hS.tr hk1).tr hkp
  refine br_dec (fun h6 => ?_) (fun h6 => ?_)
  · have hlt : k < c.funs.length := by omega
    obtain ⟨f, hf', hd⟩ := drop_get hlt
    rw [hd] at hr
    simp only [List.map_cons, List.sum_cons] at hr
    obtain ⟨b, o, rfl, a', cap, hcode, _, hcp, hcc⟩ := sl_fn h2 hf'
    refine ix k rfl hlt ?_
    refine ldN [.int .i64 f.caps, .slice a' f.code.length cap] rfl (fun j v hj => ?_) ?_
    · match j with
      | 0 => simp at hj; subst hj; exact hS2 _ _ _ hcp
      | 1 => simp at hj; subst hj; exact hS2 _ _ _ hcc
      | j + 2 => simp at hj
    refine new fun b3 w3 hb3 hB3 hs3 hk3 => ?_
    refine stN hB3 rfl (by simp [Value.oneCell']) fun w4 hB4 hs4 hk4 => ?_
    have hk24 : Kp [] w2 w4 := hk3.newSt hb3 hk4
    refine ld (hB4.cl rfl).cell ?_
    refine int64 (by simp only; omega) (by simp only; omega) ?_
    refine int64 (by omega) (by omega) ?_
    exact ⟨(k + 1, m + f.code.length), by simp only; omega, rfl, ⟨rfl, rfl, rfl, rfl, rfl, trivial⟩, hlt, hkp.tr hk24, by simp only; omega⟩
  · rw [List.drop_eq_nil_of_le (by omega)] at hr
    simp only [List.map_nil, List.sum_nil] at hr
    (repeat first | refine ldC ‹Sub _ _› (by assumption) ?_ | refine ld (Cl.cell (by first | assumption | exact Bk.cl (by assumption) rfl)) ?_ | refine ldK (by first | assumption | exact Bk.cl (by assumption) rfl | exact ‹Sub _ _› _ _ _ (by assumption)) ?_)
    refine lp τok (σ := Nat × Nat) (fun q => [(3, .int .i64 q.2), (25, .slice a3 c.bodies.length c3), (26, .int .i64 c.bodies.length), (27, .int .i64 q.1)])
      (fun q w' => q.1 ≤ c.bodies.length ∧ Kp [] w w' ∧ q.2 + ((c.bodies.drop q.1).map List.length).sum = sizeM c) (fun q => c.bodies.length - q.1) (0, m) rfl
      ⟨rfl, rfl, rfl, rfl, trivial⟩ ⟨Nat.zero_le _, hk1.tr hkp, by simp only [List.drop_zero, sizeM]; omega⟩ ?_
    rintro ⟨k', m'⟩ w5 ⟨hk', hkp', hr'⟩
    simp only at hk' hr'
    have hsz : sizeM c ≤ 1099511627776 + 4096 * 1099511627776 + 64 * 1099511627776 := by unfold sizeM; omega
    refine br_dec (fun h7 => ?_) (fun h7 => ?_)
    · have hlt : k' < c.bodies.length := by omega
      obtain ⟨f, hf', hd⟩ := drop_get hlt
      rw [hd] at hr'
      simp only [List.map_cons, List.sum_cons] at hr'
      obtain ⟨b, o, rfl, a', cap, hcell, _⟩ := h3.sl hf'
      have hS5 := hS.tr hkp'
      refine ix k' rfl hlt ?_
      (repeat first | refine ldC ‹Sub _ _› (by assumption) ?_ | refine ld (Cl.cell (by first | assumption | exact Bk.cl (by assumption) rfl)) ?_ | refine ldK (by first | assumption | exact Bk.cl (by assumption) rfl | exact ‹Sub _ _› _ _ _ (by assumption)) ?_)
      refine int64 (by simp only; omega) (by simp only; omega) ?_
      refine int64 (by omega) (by omega) ?_
      exact ⟨(k' + 1, m' + f.length), by simp only; omega, rfl, ⟨rfl, rfl, rfl, rfl, trivial⟩, hlt, hkp', by simp only; omega⟩
    · rw [List.drop_eq_nil_of_le (by omega)] at hr'
      simp only [List.map_nil, List.sum_nil, Nat.add_zero] at hr'
      subst hr'
      exact ⟨rfl, hkp'⟩

/-- a body as it stands in shaped's program: none, or the box at b12 -/
def rBx (b12 : Nat) : Rd (List Nd) where
  sz := 1
  den _ cs x := (x = [] ∧ cs = [.slice none 0 0]) ∨ (x = [Nd.box] ∧ cs = [.slice (some ⟨b12, 0, none⟩) 1 1])
  len := by rintro _ cs x (⟨_, rfl⟩ | ⟨_, rfl⟩) <;> rfl
  mono := by rintro _ _ cs x _ h; exact h
  one := by rintro _ cs x (⟨_, rfl⟩ | ⟨_, rfl⟩) u hu <;> simp at hu <;> subst hu <;> rfl

theorem shaped_ct {C : Mem} {w : World} (hS : Sub C w) {cs : List Value} {c : Cod} (hc : rCod.den C cs c) (hb : c.bodies.length ≤ 64) (hs : c.shapes.length ≤ 64) :
    CallOk Try.prog 26 ∧ Calls Try.prog 26 #[.agg cs.toArray] w (fun e w' => e = .returned (.bool (rightM (boxes c) c.shapes c.nat)) ∧ Kp [] w w') := by
  obtain ⟨a1, c1, a2, c2, a3, c3, a4, c4, rfl, h1, h2, h3, h4, h5⟩ := hc
  refine ⟨⟨_, Try.func26, rfl, by decide⟩, ?_⟩
  refine calls_of (args := [_]) 36 [.tmp 2] τok Try.func26 rfl rfl rfl (Nat.le_of_ble_eq_true rfl) ?_
  refine new fun b1 w1 hb1 hB1 hs1 hk1 => ?_
  have hB1 : Bk w1.heap b1 [.int .i64 c.nat, .slice a1 c.shapes.length c1, .slice a2 c.funs.length c2, .slice a3 c.bodies.length c3, .slice a4 c.main.length c4] 28 := hB1
  (repeat first | refine ldC ‹Sub _ _› (by assumption) ?_ | refine ld (Cl.cell (by first | assumption | exact Bk.cl (by assumption) rfl)) ?_ | refine ldK (by first | assumption | exact Bk.cl (by assumption) rfl | exact ‹Sub _ _› _ _ _ (by assumption)) ?_)
  refine fill [.int .i64 22, .int .i64 0, .int .i64 0] rfl ?_
  refine new fun b12 w2 hb12 hX hs2 hk2 => ?_
  refine new fun b3 w3 hb3 hB3 hs3 hk3 => ?_
  refine stN (vs := [.slice none 0 0, .slice a1 c.shapes.length c1, .slice (some ⟨b12, 0, none⟩) 1 1, .int .i64 c.nat, .slice none 0 0]) hB3 rfl (by simp [Value.oneCell']) fun w4 hP hs4 hk4 => ?_
  have hk24 : Kp [] w2 w4 := hk3.newSt hb3 hk4
  have hk14 : Kp [] w1 w4 := hk2.tr hk24
  have hB4 := hB1.kp hk14 (by simp)
  have hX4 := hX.kp hk24 (by simp)
  refine ld (hB4.cl rfl).cell ?_
  refine lp τok (σ := Nat × Value) (fun q => [(3, .pointer (some ⟨b3, 0, none⟩)), (15, .slice a3 c.bodies.length c3), (16, .int .i64 c.bodies.length), (17, .int .i64 q.1)])
    (fun q w' => q.1 ≤ c.bodies.length ∧ Kp [] w w' ∧ Bk w'.heap b3 [q.2, .slice a1 c.shapes.length c1, .slice (some ⟨b12, 0, none⟩) 1 1, .int .i64 c.nat, .slice none 0 0] 71 ∧ Bk w'.heap b12 [.int .i64 22, .int .i64 0, .int .i64 0] 65 ∧
      Own (rBx b12) 67 (b3 + 1) w' q.2 ((boxes c).take q.1)) (fun q => c.bodies.length - q.1) (0, .slice none 0 0) rfl
    ⟨rfl, rfl, rfl, rfl, trivial⟩ ⟨Nat.zero_le _, hk1.tr hk14, hP, hX4, Own.nil _ _ (by omega)⟩ ?_
  rintro ⟨k, v⟩ w5 ⟨hk, hkp, hP5, hX5, hO⟩
  simp only at hk hP5 hO
  have hbl : (boxes c).length = c.bodies.length := by simp [boxes]
  refine br_dec (fun h6 => ?_) (fun h6 => ?_)
  · have hlt : k < c.bodies.length := by omega
    obtain ⟨x, hx, hd⟩ := drop_get hlt
    have hbx : (boxes c)[k]? = some (if x.length = 0 then [] else [Nd.box]) := by simp [boxes, hx]
    obtain ⟨b, o, rfl, a', cap, hcell, _⟩ := h3.sl hx
    have hS5 := hS.tr hkp
    refine ix k rfl hlt ?_
    (repeat first | refine ldC ‹Sub _ _› (by assumption) ?_ | refine ld (Cl.cell (by first | assumption | exact Bk.cl (by assumption) rfl)) ?_ | refine ldK (by first | assumption | exact Bk.cl (by assumption) rfl | exact ‹Sub _ _› _ _ _ (by assumption)) ?_)
    -- the element's cells, then the append
    have tail : ∀ (cv : Value), (rBx b12).den (Dn (b3 + 1) v w5) [cv] (if x.length = 0 then [] else [Nd.box]) → ∀ (K : Value → World → Prop),
        (∀ v' w', Kp [] w w' → Bk w'.heap b3 [v, .slice a1 c.shapes.length c1, .slice (some ⟨b12, 0, none⟩) 1 1, .int .i64 c.nat, .slice none 0 0] 71 → Bk w'.heap b12 [.int .i64 22, .int .i64 0, .int .i64 0] 65 →
          Own (rBx b12) 67 (b3 + 1) w' v' ((boxes c).take (k + 1)) → K v' w') → ∀ b6 w6, b6 = w5.heap.size → Bk w6.heap b6 [cv] 67 → Kp [] w5 w6 →
        EvRun Try.prog (Builtin.append_ #[68, 68] 68 #[v, .slice (some ⟨b6, 0, none⟩) 1 1]) w6 K := by
      intro cv hden K hK b6 w6 hb6 hB6 hk6
      have hlen : ((boxes c).take k).length = k := by simp; omega
      refine (hO.kp hk6).ap1 τok rfl rfl Nat.one_pos (if x.length = 0 then [] else [Nd.box]) [cv] hden (fun j u hj => by rw [Nat.zero_add]; exact hB6.cl hj) (by rw [hlen]; omega) (by rw [hlen]; simp only [maxLen]; omega) fun v' w7 hO7 hk7 _ => ?_
      have hg : ∀ g, v.ownBlock = some g → b3 < g := fun g hg => (hO.block g hg).1
      refine hK v' w7 ?_ ?_ ?_ ?_
      · exact (hkp.tr hk6).trans hk7 fun y hy hl => by
          have hy : v.ownBlock = some y := by simpa using hy
          have := hg y hy
          have := hk1.size
          omega
      · exact (hP5.kp hk6 (by simp)).kp hk7 (by
          intro hy
          have hy : v.ownBlock = some b3 := by simpa using hy
          have := hg b3 hy
          omega)
      · exact (hX5.kp hk6 (by simp)).kp hk7 (by
          intro hy
          have hy : v.ownBlock = some b12 := by simpa using hy
          have := hg b12 hy
          omega)
      · rw [take_get hbx]
        exact hO7
    have fin : ∀ v' w7, Kp [] w w7 → Bk w7.heap b3 [v, .slice a1 c.shapes.length c1, .slice (some ⟨b12, 0, none⟩) 1 1, .int .i64 c.nat, .slice none 0 0] 71 → Bk w7.heap b12 [.int .i64 22, .int .i64 0, .int .i64 0] 65 →
        Own (rBx b12) 67 (b3 + 1) w7 v' ((boxes c).take (k + 1)) → v'.oneCell' = true := fun v' w7 _ _ _ hO7 => by
      obtain ⟨a, cap, rfl⟩ := hO7.len
      rfl
    refine br_dec (fun h7 => ?_) (fun h7 => ?_)
    · (repeat first | refine ldC ‹Sub _ _› (by assumption) ?_ | refine ld (Cl.cell (by first | assumption | exact Bk.cl (by assumption) rfl)) ?_ | refine ldK (by first | assumption | exact Bk.cl (by assumption) rfl | exact ‹Sub _ _› _ _ _ (by assumption)) ?_)
      refine fill [.slice (some ⟨b12, 0, none⟩) 1 1] rfl ?_
      refine new fun b6 w6 hb6 hB6 hs6 hk6 => ?_
      refine tail (.slice (some ⟨b12, 0, none⟩) 1 1) (.inr ⟨by rw [if_neg (by omega)], rfl⟩) _ ?_ b6 w6 hb6 hB6 hk6
      intro v' w7 hkp7 hP7 hX7 hO7
      refine st hP7 (by simp) (fin v' w7 hkp7 hP7 hX7 hO7) fun w8 hP8 hs8 hk8 => ?_
      refine int64 (by omega) (by omega) ?_
      refine ⟨(k + 1, v'), by simp only; omega, rfl, ⟨rfl, rfl, rfl, rfl, trivial⟩, hlt, hkp7.trans hk8 (fun y hy hl => by have := hk1.size; simp at hy; omega), hP8, hX7.kp hk8 (by simp; omega), ?_⟩
      exact hO7.flat (fun _ _ _ _ h => h) hk8 fun g hg => by have := (hO7.block g hg).1; simp; omega
    · (repeat first | refine ldC ‹Sub _ _› (by assumption) ?_ | refine ld (Cl.cell (by first | assumption | exact Bk.cl (by assumption) rfl)) ?_ | refine ldK (by first | assumption | exact Bk.cl (by assumption) rfl | exact ‹Sub _ _› _ _ _ (by assumption)) ?_)
      refine fill [.slice none 0 0] rfl ?_
      refine new fun b6 w6 hb6 hB6 hs6 hk6 => ?_
      refine tail (.slice none 0 0) (.inl ⟨by rw [if_pos (by omega)], rfl⟩) _ ?_ b6 w6 hb6 hB6 hk6
      intro v' w7 hkp7 hP7 hX7 hO7
      refine st hP7 (by simp) (fin v' w7 hkp7 hP7 hX7 hO7) fun w8 hP8 hs8 hk8 => ?_
      refine int64 (by omega) (by omega) ?_
      refine ⟨(k + 1, v'), by simp only; omega, rfl, ⟨rfl, rfl, rfl, rfl, trivial⟩, hlt, hkp7.trans hk8 (fun y hy hl => by have := hk1.size; simp at hy; omega), hP8, hX7.kp hk8 (by simp; omega), ?_⟩
      exact hO7.flat (fun _ _ _ _ h => h) hk8 fun g hg => by have := (hO7.block g hg).1; simp; omega
  · have hke : (boxes c).take k = boxes c := List.take_of_length_le (by omega)
    rw [hke] at hO
    obtain ⟨ab, cb, rfl, hSl⟩ := hO.den (by omega)
    have hS5 := hS.tr hkp
    let D : Mem := addB (orM C (New (b3 + 1) w5)) b12 [.int .i64 22, .int .i64 0, .int .i64 0]
    have hD : Sub D w5 := addB_sub (orM_sub hS5 (New.sub _ _)) hX5
    have hbox1 : Sl rNd D (some ⟨b12, 0, none⟩) [Nd.box] := ⟨by simp, .inr ⟨b12, 0, rfl, fun i x hi => by
      match i with
      | 0 =>
        simp at hi
        subst hi
        exact ⟨_, ⟨rfl, by simp [I64, Nd.box]⟩, fun j v hj => addB_r (by simpa [Nd.box] using hj)⟩
      | i + 1 => simp at hi⟩⟩
    have hbod : Sl (rSl rNd) D ab (boxes c) := by
      refine ⟨hSl.1, ?_⟩
      rcases hSl.2 with h0 | ⟨b, o, ha, hh⟩
      · exact .inl h0
      · refine .inr ⟨b, o, ha, fun i x hi => ?_⟩
        obtain ⟨cs', hden, hcells⟩ := hh i x hi
        refine ⟨cs', ?_, fun j v hj => Or.inl (Or.inr (hcells j v hj))⟩
        rcases hden with ⟨rfl, rfl⟩ | ⟨rfl, rfl⟩
        · exact ⟨none, 0, rfl, Sl.nil _ _ _⟩
        · exact ⟨_, 1, rfl, hbox1⟩
    refine ldN [.slice ab (boxes c).length cb, .slice a1 c.shapes.length c1, .slice (some ⟨b12, 0, none⟩) 1 1, .int .i64 c.nat, .slice none 0 0] rfl (fun j v hj => by rw [Nat.zero_add]; exact hP5.cl hj) ?_
    refine ev_call (right_ct hD (boxes c) c.shapes c.nat ab a1 (some ⟨b12, 0, none⟩) none cb c1 1 0 hbod (h1.mono fun b o v h => Or.inl (Or.inl h)) hbox1 (fun b hb => ?_) (by omega) hs) ?_
    · simp only [boxes, List.mem_map] at hb
      obtain ⟨y, _, rfl⟩ := hb
      split
      · exact .inl rfl
      · exact .inr rfl
    rintro e w6 ⟨n, rfl, hn, hk6⟩
    refine ⟨?_, hkp.tr hk6⟩
    rw [← hn]
    rfl
end Go.Proofs.Ytjogpbiilokldaa
