/-
  Own texts put together: CdJ, CdK, CdL.
-/
import Derived.Test.YtbggaljmollhmaaGreatDoorMg06
import Derived.Lib.SliceRun
/-
  Code: size, shaped, Check.
-/
set_option linter.unusedSimpArgs false
set_option linter.unusedVariables false
namespace Go.Wx
/-- cells of a block besides -/
def addB (C : Mem) (b : Nat) (cs : List Value) : Mem := fun b' o v => C b' o v ∨ (b' = b ∧ cs[o]? = some v)
theorem addB_l {C : Mem} {b : Nat} {cs : List Value} : ∀ b' o v, C b' o v → addB C b cs b' o v := fun _ _ _ h => Or.inl h
theorem addB_r {C : Mem} {b : Nat} {cs : List Value} {o : Nat} {v : Value} (h : cs[o]? = some v) : addB C b cs b o v := Or.inr ⟨rfl, h⟩
theorem addB_sub {C : Mem} {b : Nat} {cs : List Value} {w : World} {T : TypeId} (h : Sub C w) (hb : Bk w.heap b cs T) : Sub (addB C b cs) w := fun b' o v hc => by
  rcases hc with hc | ⟨rfl, hc⟩
  · exact h _ _ _ hc
  · exact hb.cl hc
def orM (C D : Mem) : Mem := fun b o v => C b o v ∨ D b o v
theorem orM_sub {C D : Mem} {w : World} (h : Sub C w) (h' : Sub D w) : Sub (orM C D) w := fun b o v hc => hc.elim (h _ _ _) (h' _ _ _)

/-- rows whose cells tell all of their elements -/
theorem Own.flat {α : Type} {R : Rd α} {e lo : Nat} {w w' : World} {v : Value} {l : List α} {X : List Nat} (hR : ∀ C C' cs x, R.den C cs x → R.den C' cs x) (h : Own R e lo w v l) (k : Kp X w w') (hx : ∀ g, v.ownBlock = some g → g ∉ X) : Own R e lo w' v l := by
  obtain ⟨⟨css, h1, h2⟩, h3⟩ := h
  exact ⟨⟨css, own_kp h1 k hx, h2.mono fun cs x hx => hR _ _ _ _ hx⟩, Nat.le_trans h3 k.size⟩
end Go.Wx

namespace Cd
open Go Go.Wx
def sizeM (c : Cod) : Nat := c.main.length + (c.funs.map fun f => f.code.length).sum + (c.bodies.map List.length).sum
def boxes (c : Cod) : List (List Nd) := c.bodies.map fun b => if b.length = 0 then [] else [Nd.box]
def stepB (c : Cod) (s : Bool × Int) (code : List Ins) (fl : Int) : Bool × Int := (s.1 && (blockM c code fl).isSome, max s.2 ((blockM c code fl).getD 0))
def stepF (c : Cod) (s : Bool × Int) (f : Fn) : Bool × Int := stepB c s f.code (f.caps + 1)
def stepY (c : Cod) (s : Bool × Int) (b : List Ins) : Bool × Int := if 0 < b.length then stepB c s b 0 else s
def blocksM (c : Cod) : Bool × Int := c.bodies.foldl (stepY c) (c.funs.foldl (stepF c) ((blockM c c.main 0).isSome, (blockM c c.main 0).getD 0))
def checkM (c : Cod) : Int :=
  if 64 < c.bodies.length ∨ 64 < c.shapes.length ∨ 4096 < c.funs.length ∨ 16384 < sizeM c then 5
  else if c.funs.any (fun f => !inM f.caps 0 255) then 5
  else if rightM (boxes c) c.shapes c.nat = false then 27
  else if (blocksM c).1 = false then 27
  else if 4096 < (blocksM c).2 then 5
  else 0

theorem sum_le {B : Nat} : ∀ (l : List Nat), (∀ x ∈ l, x ≤ B) → l.sum ≤ l.length * B
  | [], _ => by simp
  | x :: r, h => by
    have := sum_le r fun y hy => h y (by simp [hy])
    have := h x (by simp)
    simp only [List.sum_cons, List.length_cons, Nat.add_mul]
    omega
theorem le_sum {x : Nat} : ∀ {l : List Nat}, x ∈ l → x ≤ l.sum
  | y :: r, h => by
    rcases List.mem_cons.1 h with rfl | h
    · simp
    · have := le_sum h
      simp; omega
end Cd

namespace Go.Proofs.YtbggaljmollhmaaGreatDoor
open Go.Wx Cd

theorem fn_len {C : Mem} {a : Option Addr} {l : List Cd.Fn} (h : Sl rFn C a l) : ∀ f ∈ l, f.code.length ≤ 1099511627776 := fun f hf => by
  obtain ⟨i, hi⟩ := List.getElem?_of_mem hf
  obtain ⟨b, o, _, a', cap, hs, _⟩ := sl_fn h hi
  exact hs.1
theorem sl_len {α : Type} {R : Rd α} {C : Mem} {a : Option Addr} {l : List (List α)} (h : Sl (rSl R) C a l) : ∀ x ∈ l, x.length ≤ 1099511627776 := fun x hx => by
  obtain ⟨i, hi⟩ := List.getElem?_of_mem hx
  obtain ⟨b, o, _, a', cap, _, hs⟩ := h.sl hi
  exact hs.1

theorem size_ct {C : Mem} {w : World} (hS : Sub C w) {cs : List Value} {c : Cod} (hc : rCod.den C cs c) (hb : c.bodies.length ≤ 64) (hf : c.funs.length ≤ 4096) :
    CallOk Tryz.prog 56 ∧ Calls Tryz.prog 56 #[.agg cs.toArray] w (fun e w' => e = .returned (.int .i64 (sizeM c)) ∧ Kp [] w w') := by
  obtain ⟨a1, c1, a2, c2, a3, c3, a4, c4, rfl, h1, h2, h3, h4, h5⟩ := hc
  have hsf : (c.funs.map fun f => f.code.length).sum ≤ 4096 * 1099511627776 := by
    refine Nat.le_trans (sum_le _ (B := 1099511627776) fun x hx => ?_) (Nat.mul_le_mul_right _ (by simpa using hf))
    obtain ⟨f, hf, rfl⟩ := List.mem_map.1 hx
    exact fn_len h2 f hf
  have hsb : (c.bodies.map List.length).sum ≤ 64 * 1099511627776 := by
    refine Nat.le_trans (sum_le _ (B := 1099511627776) fun x hx => ?_) (Nat.mul_le_mul_right _ (by simpa using hb))
    obtain ⟨f, hf, rfl⟩ := List.mem_map.1 hx
    exact sl_len h3 f hf
  have hml := h4.1
  refine ⟨⟨_, Tryz.func56, rfl, by decide⟩, ?_⟩
  refine calls_of (args := [_]) 37 [.tmp 2] τok Tryz.func56 rfl rfl rfl (Nat.le_of_ble_eq_true rfl) ?_
  refine new fun b1 w1 hb1 hB1 hs1 hk1 => ?_
  have hB1 : Bk w1.heap b1 [.int .i64 c.nat, .slice a1 c.shapes.length c1, .slice a2 c.funs.length c2, .slice a3 c.bodies.length c3, .slice a4 c.main.length c4] 28 := hB1
  (repeat first | refine ldC ‹Sub _ _› (by assumption) ?_ | refine ld (Cl.cell (by first | assumption | exact Bk.cl (by assumption) rfl)) ?_ | refine ldK (by first | assumption | exact Bk.cl (by assumption) rfl | exact ‹Sub _ _› _ _ _ (by assumption)) ?_)
  refine lp τok (σ := Nat × Nat) (fun q => [(1, .pointer (some ⟨b1, 0, none⟩)), (3, .int .i64 q.2), (12, .slice a2 c.funs.length c2), (13, .int .i64 c.funs.length), (14, .int .i64 q.1)])
    (fun q w' => q.1 ≤ c.funs.length ∧ Kp [] w1 w' ∧ q.2 + ((c.funs.drop q.1).map fun f => f.code.length).sum = c.main.length + (c.funs.map fun f => f.code.length).sum) (fun q => c.funs.length - q.1) (0, c.main.length) rfl
    ⟨rfl, rfl, rfl, rfl, rfl, trivial⟩ ⟨Nat.zero_le _, Kp.refl _ _, rfl⟩ ?_
  rintro ⟨k, m⟩ w2 ⟨hk, hkp, hr⟩
  simp only at hk hr
  have hB2 := hB1.kp hkp (by simp)
  have hS2 := (hS.tr hk1).tr hkp
  refine br_dec (fun h6 => ?_) (fun h6 => ?_)
  · have hlt : k < c.funs.length := by omega
    obtain ⟨f, hf', hd⟩ := drop_get hlt
    rw [hd] at hr
    simp only [List.map_cons, List.sum_cons] at hr
    obtain ⟨b, o, rfl, a', cap, hcode, _, hcp, hcc⟩ := sl_fn h2 hf'
    refine ix k rfl hlt ?_
    refine ldN [.int .i64 f.caps, .slice a' f.code.length cap] rfl (fun j v hj => ?_) ?_
    · match j with
      | 0 => simp at hj; subst hj; exact hS2 _ _ _ hcp
      | 1 => simp at hj; subst hj; exact hS2 _ _ _ hcc
      | j + 2 => simp at hj
    refine new fun b3 w3 hb3 hB3 hs3 hk3 => ?_
    refine stN hB3 rfl (by simp [Value.oneCell']) fun w4 hB4 hs4 hk4 => ?_
    have hk24 : Kp [] w2 w4 := hk3.newSt hb3 hk4
    refine ld (hB4.cl rfl).cell ?_
    refine int64 (by simp only; omega) (by simp only; omega) ?_
    refine int64 (by omega) (by omega) ?_
    exact ⟨(k + 1, m + f.code.length), by simp only; omega, rfl, ⟨rfl, rfl, rfl, rfl, rfl, trivial⟩, hlt, hkp.tr hk24, by simp only; omega⟩
  · rw [List.drop_eq_nil_of_le (by omega)] at hr
    simp only [List.map_nil, List.sum_nil] at hr
    (repeat first | refine ldC ‹Sub _ _› (by assumption) ?_ | refine ld (Cl.cell (by first | assumption | exact Bk.cl (by assumption) rfl)) ?_ | refine ldK (by first | assumption | exact Bk.cl (by assumption) rfl | exact ‹Sub _ _› _ _ _ (by assumption)) ?_)
    refine lp τok (σ := Nat × Nat) (fun q => [(3, .int .i64 q.2), (25, .slice a3 c.bodies.length c3), (26, .int .i64 c.bodies.length), (27, .int .i64 q.1)])
      (fun q w' => q.1 ≤ c.bodies.length ∧ Kp [] w w' ∧ q.2 + ((c.bodies.drop q.1).map List.length).sum = sizeM c) (fun q => c.bodies.length - q.1) (0, m) rfl
      ⟨rfl, rfl, rfl, rfl, trivial⟩ ⟨Nat.zero_le _, hk1.tr hkp, by simp only [List.drop_zero, sizeM]; omega⟩ ?_
    rintro ⟨k', m'⟩ w5 ⟨hk', hkp', hr'⟩
    simp only at hk' hr'
    have hsz : sizeM c ≤ 1099511627776 + 4096 * 1099511627776 + 64 * 1099511627776 := by unfold sizeM; omega
    refine br_dec (fun h7 => ?_) (fun h7 => ?_)
    · have hlt : k' < c.bodies.length := by omega
      obtain ⟨f, hf', hd⟩ := drop_get hlt
      rw [hd] at hr'
      simp only [List.map_cons, List.sum_cons] at hr'
      obtain ⟨b, o, rfl, a', cap, hcell, _⟩ := h3.sl hf'
      have hS5 := hS.tr hkp'
      refine ix k' rfl hlt ?_
      (repeat first | refine ldC ‹Sub _ _› (by assumption) ?_ | refine ld (Cl.cell (by first | assumption | exact Bk.cl (by assumption) rfl)) ?_ | refine ldK (by first | assumption | exact Bk.cl (by assumption) rfl | exact ‹Sub _ _› _ _ _ (by assumption)) ?_)
      refine int64 (by simp only; omega) (by simp only; omega) ?_
      refine int64 (by omega) (by omega) ?_
      exact ⟨(k' + 1, m' + f.length), by simp only; omega, rfl, ⟨rfl, rfl, rfl, rfl, trivial⟩, hlt, hkp', by simp only; omega⟩
    · rw [List.drop_eq_nil_of_le (by omega)] at hr'
      simp only [List.map_nil, List.sum_nil, Nat.add_zero] at hr'
      subst hr'
      exact ⟨rfl, hkp'⟩

/-- a body as it stands in shaped's program: none, or the box at b12 -/
def rBx (b12 : Nat) : Rd (List Nd) where
  sz := 1
  den _ cs x := (x = [] ∧ cs = [.slice none 0 0]) ∨ (x = [Nd.box] ∧ cs = [.slice (some ⟨b12, 0, none⟩) 1 1])
  len := by rintro _ cs x (⟨_, rfl⟩ | ⟨_, rfl⟩) <;> rfl
  mono := by rintro _ _ cs x _ h; exact h
  one := by rintro _ cs x (⟨_, rfl⟩ | ⟨_, rfl⟩) u hu <;> simp at hu <;> subst hu <;> rfl

theorem shaped_ct {C : Mem} {w : World} (hS : Sub C w) {cs : List Value} {c : Cod} (hc : rCod.den C cs c) (hb : c.bodies.length ≤ 64) (hs : c.shapes.length ≤ 64) :
    CallOk Tryz.prog 60 ∧ Calls Tryz.prog 60 #[.agg cs.toArray] w (fun e w' => e = .returned (.bool (rightM (boxes c) c.shapes c.nat)) ∧ Kp [] w w') := by
  obtain ⟨a1, c1, a2, c2, a3, c3, a4, c4, rfl, h1, h2, h3, h4, h5⟩ := hc
  refine ⟨⟨_, Tryz.func60, rfl, by decide⟩, ?_⟩
  refine calls_of (args := [_]) 36 [.tmp 2] τok Tryz.func60 rfl rfl rfl (Nat.le_of_ble_eq_true rfl) ?_
  refine new fun b1 w1 hb1 hB1 hs1 hk1 => ?_
  have hB1 : Bk w1.heap b1 [.int .i64 c.nat, .slice a1 c.shapes.length c1, .slice a2 c.funs.length c2, .slice a3 c.bodies.length c3, .slice a4 c.main.length c4] 28 := hB1
  (repeat first | refine ldC ‹Sub _ _› (by assumption) ?_ | refine ld (Cl.cell (by first | assumption | exact Bk.cl (by assumption) rfl)) ?_ | refine ldK (by first | assumption | exact Bk.cl (by assumption) rfl | exact ‹Sub _ _› _ _ _ (by assumption)) ?_)
  refine fill [.int .i64 22, .int .i64 0, .int .i64 0] rfl ?_
  refine new fun b12 w2 hb12 hX hs2 hk2 => ?_
  refine new fun b3 w3 hb3 hB3 hs3 hk3 => ?_
  refine stN (vs := [.slice none 0 0, .slice a1 c.shapes.length c1, .slice (some ⟨b12, 0, none⟩) 1 1, .int .i64 c.nat, .slice none 0 0]) hB3 rfl (by simp [Value.oneCell']) fun w4 hP hs4 hk4 => ?_
  have hk24 : Kp [] w2 w4 := hk3.newSt hb3 hk4
  have hk14 : Kp [] w1 w4 := hk2.tr hk24
  have hB4 := hB1.kp hk14 (by simp)
  have hX4 := hX.kp hk24 (by simp)
  refine ld (hB4.cl rfl).cell ?_
  refine lp τok (σ := Nat × Value) (fun q => [(3, .pointer (some ⟨b3, 0, none⟩)), (15, .slice a3 c.bodies.length c3), (16, .int .i64 c.bodies.length), (17, .int .i64 q.1)])
    (fun q w' => q.1 ≤ c.bodies.length ∧ Kp [] w w' ∧ Bk w'.heap b3 [q.2, .slice a1 c.shapes.length c1, .slice (some ⟨b12, 0, none⟩) 1 1, .int .i64 c.nat, .slice none 0 0] 94 ∧ Bk w'.heap b12 [.int .i64 22, .int .i64 0, .int .i64 0] 139 ∧
      Own (rBx b12) 91 (b3 + 1) w' q.2 ((boxes c).take q.1)) (fun q => c.bodies.length - q.1) (0, .slice none 0 0) rfl
    ⟨rfl, rfl, rfl, rfl, trivial⟩ ⟨Nat.zero_le _, hk1.tr hk14, hP, hX4, Own.nil _ _ (by omega)⟩ ?_
  rintro ⟨k, v⟩ w5 ⟨hk, hkp, hP5, hX5, hO⟩
  simp only at hk hP5 hO
  have hbl : (boxes c).length = c.bodies.length := by simp [boxes]
  refine br_dec (fun h6 => ?_) (fun h6 => ?_)
  · have hlt : k < c.bodies.length := by omega
    obtain ⟨x, hx, hd⟩ := drop_get hlt
    have hbx : (boxes c)[k]? = some (if x.length = 0 then [] else [Nd.box]) := by simp [boxes, hx]
    obtain ⟨b, o, rfl, a', cap, hcell, _⟩ := h3.sl hx
    have hS5 := hS.tr hkp
    refine ix k rfl hlt ?_
    (repeat first | refine ldC ‹Sub _ _› (by assumption) ?_ | refine ld (Cl.cell (by first | assumption | exact Bk.cl (by assumption) rfl)) ?_ | refine ldK (by first | assumption | exact Bk.cl (by assumption) rfl | exact ‹Sub _ _› _ _ _ (by assumption)) ?_)
    -- the element's cells, then the append
    have tail : ∀ (cv : Value), (rBx b12).den (Dn (b3 + 1) v w5) [cv] (if x.length = 0 then [] else [Nd.box]) → ∀ (K : Value → World → Prop),
        (∀ v' w', Kp [] w w' → Bk w'.heap b3 [v, .slice a1 c.shapes.length c1, .slice (some ⟨b12, 0, none⟩) 1 1, .int .i64 c.nat, .slice none 0 0] 94 → Bk w'.heap b12 [.int .i64 22, .int .i64 0, .int .i64 0] 139 →
          Own (rBx b12) 91 (b3 + 1) w' v' ((boxes c).take (k + 1)) → K v' w') → ∀ b6 w6, b6 = w5.heap.size → Bk w6.heap b6 [cv] 91 → Kp [] w5 w6 →
        EvRun Tryz.prog (Builtin.append_ #[89, 89] 89 #[v, .slice (some ⟨b6, 0, none⟩) 1 1]) w6 K := by
      intro cv hden K hK b6 w6 hb6 hB6 hk6
      have hlen : ((boxes c).take k).length = k := by simp; omega
      refine (hO.kp hk6).ap1 τok rfl rfl Nat.one_pos (if x.length = 0 then [] else [Nd.box]) [cv] hden (fun j u hj => by rw [Nat.zero_add]; exact hB6.cl hj) (by rw [hlen]; omega) (by rw [hlen]; simp only [maxLen]; omega) fun v' w7 hO7 hk7 _ => ?_
      have hg : ∀ g, v.ownBlock = some g → b3 < g := fun g hg => (hO.block g hg).1
      refine hK v' w7 ?_ ?_ ?_ ?_
      · exact (hkp.tr hk6).trans hk7 fun y hy hl => by
          have hy : v.ownBlock = some y := by simpa using hy
          have := hg y hy
          have := hk1.size
          omega
      · exact (hP5.kp hk6 (by simp)).kp hk7 (by
          intro hy
          have hy : v.ownBlock = some b3 := by simpa using hy
          have := hg b3 hy
          omega)
      · exact (hX5.kp hk6 (by simp)).kp hk7 (by
          intro hy
          have hy : v.ownBlock = some b12 := by simpa using hy
          have := hg b12 hy
          omega)
      · rw [take_get hbx]
        exact hO7
    have fin : ∀ v' w7, Kp [] w w7 → Bk w7.heap b3 [v, .slice a1 c.shapes.length c1, .slice (some ⟨b12, 0, none⟩) 1 1, .int .i64 c.nat, .slice none 0 0] 94 → Bk w7.heap b12 [.int .i64 22, .int .i64 0, .int .i64 0] 139 →
        Own (rBx b12) 91 (b3 + 1) w7 v' ((boxes c).take (k + 1)) → v'.oneCell' = true := fun v' w7 _ _ _ hO7 => by
      obtain ⟨a, cap, rfl⟩ := hO7.len
      rfl
    refine br_dec (fun h7 => ?_) (fun h7 => ?_)
    · (repeat first | refine ldC ‹Sub _ _› (by assumption) ?_ | refine ld (Cl.cell (by first | assumption | exact Bk.cl (by assumption) rfl)) ?_ | refine ldK (by first | assumption | exact Bk.cl (by assumption) rfl | exact ‹Sub _ _› _ _ _ (by assumption)) ?_)
      refine fill [.slice (some ⟨b12, 0, none⟩) 1 1] rfl ?_
      refine new fun b6 w6 hb6 hB6 hs6 hk6 => ?_
      refine tail (.slice (some ⟨b12, 0, none⟩) 1 1) (.inr ⟨by rw [if_neg (by omega)], rfl⟩) _ ?_ b6 w6 hb6 hB6 hk6
      intro v' w7 hkp7 hP7 hX7 hO7
      refine st hP7 (by simp) (fin v' w7 hkp7 hP7 hX7 hO7) fun w8 hP8 hs8 hk8 => ?_
      refine int64 (by omega) (by omega) ?_
      refine ⟨(k + 1, v'), by simp only; omega, rfl, ⟨rfl, rfl, rfl, rfl, trivial⟩, hlt, hkp7.trans hk8 (fun y hy hl => by have := hk1.size; simp at hy; omega), hP8, hX7.kp hk8 (by simp; omega), ?_⟩
      exact hO7.flat (fun _ _ _ _ h => h) hk8 fun g hg => by have := (hO7.block g hg).1; simp; omega
    · (repeat first | refine ldC ‹Sub _ _› (by assumption) ?_ | refine ld (Cl.cell (by first | assumption | exact Bk.cl (by assumption) rfl)) ?_ | refine ldK (by first | assumption | exact Bk.cl (by assumption) rfl | exact ‹Sub _ _› _ _ _ (by assumption)) ?_)
      refine fill [.slice none 0 0] rfl ?_
      refine new fun b6 w6 hb6 hB6 hs6 hk6 => ?_
      refine tail (.slice none 0 0) (.inl ⟨by rw [if_pos (by omega)], rfl⟩) _ ?_ b6 w6 hb6 hB6 hk6
      intro v' w7 hkp7 hP7 hX7 hO7
      refine st hP7 (by simp) (fin v' w7 hkp7 hP7 hX7 hO7) fun w8 hP8 hs8 hk8 => ?_
      refine int64 (by omega) (by omega) ?_
      refine ⟨(k + 1, v'), by simp only; omega, rfl, ⟨rfl, rfl, rfl, rfl, trivial⟩, hlt, hkp7.trans hk8 (fun y hy hl => by have := hk1.size; simp at hy; omega), hP8, hX7.kp hk8 (by simp; omega), ?_⟩
      exact hO7.flat (fun _ _ _ _ h => h) hk8 fun g hg => by have := (hO7.block g hg).1; simp; omega
  · have hke : (boxes c).take k = boxes c := List.take_of_length_le (by omega)
    rw [hke] at hO
    obtain ⟨ab, cb, rfl, hSl⟩ := hO.den (by omega)
    have hS5 := hS.tr hkp
    let D : Mem := addB (orM C (New (b3 + 1) w5)) b12 [.int .i64 22, .int .i64 0, .int .i64 0]
    have hD : Sub D w5 := addB_sub (orM_sub hS5 (New.sub _ _)) hX5
    have hbox1 : Sl rNd D (some ⟨b12, 0, none⟩) [Nd.box] := ⟨by simp, .inr ⟨b12, 0, rfl, fun i x hi => by
      match i with
      | 0 =>
        simp at hi
        subst hi
        exact ⟨_, ⟨rfl, by simp [I64, Nd.box]⟩, fun j v hj => addB_r (by simpa [Nd.box] using hj)⟩
      | i + 1 => simp at hi⟩⟩
    have hbod : Sl (rSl rNd) D ab (boxes c) := by
      refine ⟨hSl.1, ?_⟩
      rcases hSl.2 with h0 | ⟨b, o, ha, hh⟩
      · exact .inl h0
      · refine .inr ⟨b, o, ha, fun i x hi => ?_⟩
        obtain ⟨cs', hden, hcells⟩ := hh i x hi
        refine ⟨cs', ?_, fun j v hj => Or.inl (Or.inr (hcells j v hj))⟩
        rcases hden with ⟨rfl, rfl⟩ | ⟨rfl, rfl⟩
        · exact ⟨none, 0, rfl, Sl.nil _ _ _⟩
        · exact ⟨_, 1, rfl, hbox1⟩
    refine ldN [.slice ab (boxes c).length cb, .slice a1 c.shapes.length c1, .slice (some ⟨b12, 0, none⟩) 1 1, .int .i64 c.nat, .slice none 0 0] rfl (fun j v hj => by rw [Nat.zero_add]; exact hP5.cl hj) ?_
    refine ev_call (right_ct hD (boxes c) c.shapes c.nat ab a1 (some ⟨b12, 0, none⟩) none cb c1 1 0 hbod (h1.mono fun b o v h => Or.inl (Or.inl h)) hbox1 (fun b hb => ?_) (by omega) hs) ?_
    · simp only [boxes, List.mem_map] at hb
      obtain ⟨y, _, rfl⟩ := hb
      split
      · exact .inl rfl
      · exact .inr rfl
    rintro e w6 ⟨n, rfl, hn, hk6⟩
    refine ⟨?_, hkp.tr hk6⟩
    rw [← hn]
    rfl
end Go.Proofs.YtbggaljmollhmaaGreatDoor

/-
  Code: Check.
-/
set_option linter.unusedSimpArgs false
set_option linter.unusedVariables false
namespace Go.Proofs.YtbggaljmollhmaaGreatDoor
open Go.Wx Cd

theorem check1_ct (f : Cd.Fn) (a : Option Addr) (cap : Nat) (w : World) : CallOk Tryz.prog 58 ∧ Calls Tryz.prog 58 #[.agg #[.int .i64 f.caps, .slice a f.code.length cap]] w (fun e w' => e = .returned (.bool (!inM f.caps 0 255)) ∧ Kp [] w w') := by
  refine ⟨⟨_, Tryz.func58, rfl, by decide⟩, ?_⟩
  refine calls_of (args := [_]) 7 [.tmp 2] τok Tryz.func58 rfl rfl rfl (Nat.le_of_ble_eq_true rfl) ?_
  refine new fun b1 w1 hb1 hB1 hs1 hk1 => ?_
  have hB1 : Bk w1.heap b1 [.int .i64 f.caps, .slice a f.code.length cap] 98 := hB1
  (repeat first | refine ldC ‹Sub _ _› (by assumption) ?_ | refine ld (Cl.cell (by first | assumption | exact Bk.cl (by assumption) rfl)) ?_ | refine ldK (by first | assumption | exact Bk.cl (by assumption) rfl | exact ‹Sub _ _› _ _ _ (by assumption)) ?_)
  refine ev_call (in_ct _ _ _ w1) ?_
  rintro e w2 ⟨rfl, hk2⟩
  exact ⟨rfl, hk1.tr hk2⟩

theorem indexFuns_ct {C : Mem} {w : World} (hS : Sub C w) (l : List Cd.Fn) (a : Option Addr) (cap : Nat) (hl : Sl rFn C a l) :
    CallOk Tryz.prog 93 ∧ Calls Tryz.prog 93 #[.slice a l.length cap, .func (.func 58) #[] #[]] w (fun e w' => ∃ i : Int, e = .returned (.int .i64 i) ∧ Kp [] w w' ∧ (l.any (fun f => !inM f.caps 0 255) = decide (0 ≤ i))) := by
  refine ⟨⟨_, Tryz.func93, rfl, by decide⟩, ?_⟩
  have hlen := hl.1
  refine calls_of (args := [_, _]) 19 [.tmp 4] τok Tryz.func93 rfl rfl rfl (Nat.le_of_ble_eq_true rfl) ?_
  refine lp τok (σ := Nat) (fun k => [(0, .slice a l.length cap), (1, .func (.func 58) #[] #[]), (7, .int .i64 l.length), (8, .int .i64 k)]) (fun k w' => k ≤ l.length ∧ Kp [] w w' ∧ l.any (fun f => !inM f.caps 0 255) = (l.drop k).any (fun f => !inM f.caps 0 255)) (fun k => l.length - k) 0 rfl
    ⟨rfl, rfl, rfl, rfl, trivial⟩ ⟨Nat.zero_le _, Kp.refl _ _, rfl⟩ ?_
  rintro k w1 ⟨hk, hkp, hr⟩
  refine br_dec (fun h => ?_) (fun h => ?_)
  · have hlt : k < l.length := by omega
    obtain ⟨x, hx, hd⟩ := drop_get hlt
    rw [hd, List.any_cons] at hr
    obtain ⟨b, o, rfl, a', c', hcode, _, hcp, hcc⟩ := sl_fn hl hx
    have hS1 := hS.tr hkp
    refine ix k rfl hlt ?_
    refine ldN [.int .i64 x.caps, .slice a' x.code.length c'] rfl (fun j v hj => ?_) ?_
    · match j with
      | 0 => simp at hj; subst hj; exact hS1 _ _ _ hcp
      | 1 => simp at hj; subst hj; exact hS1 _ _ _ hcc
      | j + 2 => simp at hj
    refine ev_call (check1_ct x a' c' w1) ?_
    rintro e w2 ⟨rfl, hk2⟩
    have hkp2 := hkp.tr hk2
    refine br (fun hc => ?_) (fun hc => ?_)
    · refine ⟨(k : Int), rfl, hkp2, ?_⟩
      rw [hr, hc, decide_eq_true (by omega)]
      rfl
    · refine int64 (by omega) (by omega) ?_
      refine ⟨k + 1, by omega, rfl, ⟨rfl, rfl, rfl, rfl, trivial⟩, hlt, hkp2, ?_⟩
      rw [hr, hc, Bool.false_or]
  · refine ⟨-1, rfl, hkp, ?_⟩
    rw [hr, List.drop_eq_nil_of_le (by omega)]
    rfl

theorem containsFuns_ct {C : Mem} {w : World} (hS : Sub C w) (l : List Cd.Fn) (a : Option Addr) (cap : Nat) (hl : Sl rFn C a l) :
    CallOk Tryz.prog 57 ∧ Calls Tryz.prog 57 #[.slice a l.length cap, .func (.func 58) #[] #[]] w (fun e w' => e = .returned (.bool (l.any fun f => !inM f.caps 0 255)) ∧ Kp [] w w') := by
  refine ⟨⟨_, Tryz.func57, rfl, by decide⟩, ?_⟩
  refine calls_of (args := [_, _]) 9 [.tmp 4] τok Tryz.func57 rfl rfl rfl (Nat.le_of_ble_eq_true rfl) ?_
  refine ev_call (indexFuns_ct hS l a cap hl) ?_
  rintro e w1 ⟨i, rfl, hk1, hi⟩
  refine ⟨?_, hk1⟩
  rw [hi]
  rfl

theorem kept_le {C : Mem} {a : Option Addr} {l : List Shp} (h : Sl rShp C a l) : ∀ s ∈ l, ∀ k ∈ s.kept, k.length ≤ 1099511627776 := fun s hs k hk => by
  obtain ⟨i, hi⟩ := List.getElem?_of_mem hs
  obtain ⟨b, o, _, a', cap, hkept, _⟩ := sl_shp h hi
  exact sl_len hkept k hk

/-- what Check asks, for the blocks to be looked at -/
theorem codOk_of {C : Mem} {cs : List Value} {c : Cod} (hc : rCod.den C cs c) (hf : c.funs.any (fun f => !inM f.caps 0 255) = false) (hr : rightM (boxes c) c.shapes c.nat = true) : CodOk c := by
  obtain ⟨a1, c1, a2, c2, a3, c3, a4, c4, _, h1, h2, h3, h4, h5⟩ := hc
  refine ⟨fun f hf' => ?_, ?_, kept_le h1⟩
  · rw [List.any_eq_false] at hf
    have := hf f hf'
    simpa [inM] using this
  · simp only [rightM, Bool.and_eq_true, decide_eq_true_eq, boxes, List.length_map] at hr
    exact hr.1

theorem size_mem {c : Cod} (h : sizeM c ≤ 16384) : c.main.length ≤ 16384 ∧ (∀ f ∈ c.funs, f.code.length ≤ 16384) ∧ ∀ b ∈ c.bodies, b.length ≤ 16384 := by
  unfold sizeM at h
  refine ⟨by omega, fun f hf => ?_, fun b hb => ?_⟩
  · have := le_sum (List.mem_map_of_mem (f := fun f : Cd.Fn => f.code.length) hf)
    omega
  · have := le_sum (List.mem_map_of_mem (f := List.length) hb)
    omega

theorem check_ct {C : Mem} {w : World} (hS : Sub C w) {cs : List Value} {c : Cod} (hc : rCod.den C cs c) :
    CallOk Tryz.prog 25 ∧ Calls Tryz.prog 25 #[.agg cs.toArray] w (fun e w' => e = .returned (.int .i64 (checkM c)) ∧ Kp [] w w') := by
  have hc0 := hc
  obtain ⟨a1, c1, a2, c2, a3, c3, a4, c4, rfl, h1, h2, h3, h4, h5⟩ := hc
  obtain ⟨RES, hRES⟩ : ∃ r, checkM c = r := ⟨_, rfl⟩
  rw [hRES]
  refine ⟨⟨_, Tryz.func25, rfl, by decide⟩, ?_⟩
  refine calls_of (args := [_]) 99 [.tmp 2] τok Tryz.func25 rfl rfl rfl (Nat.le_of_ble_eq_true rfl) ?_
  refine new fun b1 w1 hb1 hB1 hs1 hk1 => ?_
  have hB1 : Bk w1.heap b1 [.int .i64 c.nat, .slice a1 c.shapes.length c1, .slice a2 c.funs.length c2, .slice a3 c.bodies.length c3, .slice a4 c.main.length c4] 28 := hB1
  have hS1 := hS.tr hk1
  have ret : ∀ n w', Kp [] w w' → RES = n → Ending.returned (one [.int .i64 n]) = .returned (.int .i64 RES) ∧ Kp [] w w' := fun n w' h e => ⟨by rw [e]; rfl, h⟩
  (repeat first | refine ldC ‹Sub _ _› (by assumption) ?_ | refine ld (Cl.cell (by first | assumption | exact Bk.cl (by assumption) rfl)) ?_ | refine ldK (by first | assumption | exact Bk.cl (by assumption) rfl | exact ‹Sub _ _› _ _ _ (by assumption)) ?_)
  refine br_dec (fun g1 => ?_) (fun g1 => ?_)
  · exact ret _ _ hk1 (by rw [← hRES]; unfold checkM; rw [if_pos (.inl (by omega))])
  (repeat first | refine ldC ‹Sub _ _› (by assumption) ?_ | refine ld (Cl.cell (by first | assumption | exact Bk.cl (by assumption) rfl)) ?_ | refine ldK (by first | assumption | exact Bk.cl (by assumption) rfl | exact ‹Sub _ _› _ _ _ (by assumption)) ?_)
  refine br_dec (fun g2 => ?_) (fun g2 => ?_)
  · exact ret _ _ hk1 (by rw [← hRES]; unfold checkM; rw [if_pos (.inr (.inl (by omega)))])
  (repeat first | refine ldC ‹Sub _ _› (by assumption) ?_ | refine ld (Cl.cell (by first | assumption | exact Bk.cl (by assumption) rfl)) ?_ | refine ldK (by first | assumption | exact Bk.cl (by assumption) rfl | exact ‹Sub _ _› _ _ _ (by assumption)) ?_)
  refine br_dec (fun g3 => ?_) (fun g3 => ?_)
  · exact ret _ _ hk1 (by rw [← hRES]; unfold checkM; rw [if_pos (.inr (.inr (.inl (by omega))))])
  refine ldN [.int .i64 c.nat, .slice a1 c.shapes.length c1, .slice a2 c.funs.length c2, .slice a3 c.bodies.length c3, .slice a4 c.main.length c4] rfl (fun j v hj => by rw [Nat.zero_add]; exact hB1.cl hj) ?_
  refine ev_call (size_ct hS1 hc0 (by omega) (by omega)) ?_
  rintro e w2 ⟨rfl, hk2⟩
  have hk12 := hk1.tr hk2
  refine br_dec (fun g4 => ?_) (fun g4 => ?_)
  · exact ret _ _ hk12 (by rw [← hRES]; unfold checkM; rw [if_pos (.inr (.inr (.inr (by omega))))])
  have hsz : sizeM c ≤ 16384 := by omega
  have e1 : RES = if c.funs.any (fun f => !inM f.caps 0 255) then 5 else if rightM (boxes c) c.shapes c.nat = false then 27 else if (blocksM c).1 = false then 27 else if 4096 < (blocksM c).2 then 5 else 0 := by
    rw [← hRES]; unfold checkM; rw [if_neg (by omega)]
  have hB2 := hB1.kp hk2 (by simp)
  have hS2 := hS1.tr hk2
  refine ld (hB2.cl rfl).cell ?_
  refine ev_call (containsFuns_ct hS2 c.funs a2 c2 h2) ?_
  rintro e w3 ⟨rfl, hk3⟩
  have hk13 := hk12.tr hk3
  refine br (fun g5 => ?_) (fun g5 => ?_)
  · exact ret _ _ hk13 (by rw [e1, if_pos g5])
  rw [if_neg (by rw [g5]; simp)] at e1
  have hB3 := hB2.kp hk3 (by simp)
  have hS3 := hS2.tr hk3
  refine ldN [.int .i64 c.nat, .slice a1 c.shapes.length c1, .slice a2 c.funs.length c2, .slice a3 c.bodies.length c3, .slice a4 c.main.length c4] rfl (fun j v hj => by rw [Nat.zero_add]; exact hB3.cl hj) ?_
  refine ev_call (shaped_ct hS3 hc0 (by omega) (by omega)) ?_
  rintro e w4 ⟨rfl, hk4⟩
  have hk14 := hk13.tr hk4
  refine br (fun g6 => ?_) (fun g6 => ?_)
  · exact ret _ _ hk14 (by rw [e1, if_pos (by simpa using g6)])
  have g6 : rightM (boxes c) c.shapes c.nat = true := by simpa using g6
  rw [if_neg (by rw [g6]; simp)] at e1
  have hco := codOk_of hc0 g5 g6
  obtain ⟨hml, hfl, hbl⟩ := size_mem hsz
  have hB4 := hB3.kp hk4 (by simp)
  -- the memory with the code's own block
  obtain ⟨C1, hC1⟩ : ∃ C1, C1 = addB C b1 [.int .i64 c.nat, .slice a1 c.shapes.length c1, .slice a2 c.funs.length c2, .slice a3 c.bodies.length c3, .slice a4 c.main.length c4] := ⟨_, rfl⟩
  have hC : Sub C1 w4 := by rw [hC1]; exact addB_sub (hS3.tr hk4) hB4
  have hmono : ∀ b o v, C b o v → C1 b o v := by rw [hC1]; exact addB_l
  have hcod : rCod.At C1 b1 0 c := ⟨_, rCod.mono hmono hc0, fun j v hj => by rw [hC1, Nat.zero_add]; exact addB_r hj⟩
  refine ld (hB4.cl rfl).cell ?_
  refine ev_call (block_ct c.main hC hcod (h4.mono hmono) hco (by omega) (by omega)) ?_
  rintro e w5 ⟨rfl, hk5⟩
  have hB5 := hB4.kp hk5 (by simp)
  have hk15 := hk14.tr hk5
  refine ld (hB5.cl rfl).cell ?_
  refine lp τok (σ := Nat × Bool × Int) (fun q => [(1, .pointer (some ⟨b1, 0, none⟩)), (3, .int .i64 q.2.2), (4, .bool q.2.1), (47, .slice a2 c.funs.length c2), (48, .int .i64 c.funs.length), (49, .int .i64 q.1)])
    (fun q w' => q.1 ≤ c.funs.length ∧ Kp [] w5 w' ∧ blocksM c = c.bodies.foldl (stepY c) ((c.funs.drop q.1).foldl (stepF c) q.2)) (fun q => c.funs.length - q.1) (0, (blockM c c.main 0).isSome, (blockM c c.main 0).getD 0) rfl
    ⟨rfl, rfl, rfl, rfl, rfl, rfl, trivial⟩ ⟨Nat.zero_le _, Kp.refl _ _, rfl⟩ ?_
  rintro ⟨k, ok, most⟩ w6 ⟨hk, hkp, hr⟩
  simp only at hk hr
  have hC6 := (hC.tr hk5).tr hkp
  have hB6 := hB5.kp hkp (by simp)
  refine br_dec (fun g7 => ?_) (fun g7 => ?_)
  · have hlt : k < c.funs.length := by omega
    obtain ⟨f, hf, hd⟩ := drop_get hlt
    rw [hd, List.foldl_cons] at hr
    have hfm := List.mem_of_getElem? hf
    have hcap := hco.caps f hfm
    obtain ⟨b, o, rfl, a', cap, hcode, _, hcp, hcc⟩ := sl_fn h2 hf
    refine ix k rfl hlt ?_
    refine ldN [.int .i64 f.caps, .slice a' f.code.length cap] rfl (fun j v hj => ?_) ?_
    · match j with
      | 0 => simp at hj; subst hj; exact hC6 _ _ _ (hmono _ _ _ hcp)
      | 1 => simp at hj; subst hj; exact hC6 _ _ _ (hmono _ _ _ hcc)
      | j + 2 => simp at hj
    refine new fun b7 w7 hb7 hB7 hs7 hk7 => ?_
    refine stN hB7 rfl (by simp [Value.oneCell']) fun w8 hB8 hs8 hk8 => ?_
    have hk68 : Kp [] w6 w8 := hk7.newSt hb7 hk8
    refine ld (hB8.cl rfl).cell ?_
    refine ld (hB8.cl rfl).cell ?_
    refine int64 (by omega) (by omega) ?_
    refine ev_call (block_ct f.code (hC6.tr hk68) hcod (hcode.mono hmono) hco (by have := hfl f hfm; omega) (by omega)) ?_
    rintro e w9 ⟨rfl, hk9⟩
    have hkp9 := (hkp.tr hk68).tr hk9
    refine br (fun g8 => ?_) (fun g8 => ?_)
    · refine max64 ?_
      refine int64 (by omega) (by omega) ?_
      refine ⟨(k + 1, stepF c (ok, most) f), by simp only; omega, rfl, ⟨rfl, rfl, ?_, rfl, rfl, rfl, trivial⟩, hlt, hkp9, hr⟩
      have g8 : ok = true := g8
      show some _ = some _
      simp [stepF, stepB, g8]
    · refine max64 ?_
      refine int64 (by omega) (by omega) ?_
      refine ⟨(k + 1, stepF c (ok, most) f), by simp only; omega, rfl, ⟨rfl, rfl, ?_, rfl, rfl, rfl, trivial⟩, hlt, hkp9, hr⟩
      have g8 : ok = false := g8
      show some _ = some _
      simp [stepF, stepB, g8]
  rw [List.drop_eq_nil_of_le (by omega)] at hr
  have hr : blocksM c = c.bodies.foldl (stepY c) (ok, most) := hr
  refine ld (hB6.cl rfl).cell ?_
  refine lp τok (σ := Nat × Bool × Int) (fun q => [(1, .pointer (some ⟨b1, 0, none⟩)), (3, .int .i64 q.2.2), (4, .bool q.2.1), (71, .slice a3 c.bodies.length c3), (72, .int .i64 c.bodies.length), (73, .int .i64 q.1)])
    (fun q w' => q.1 ≤ c.bodies.length ∧ Kp [] w6 w' ∧ blocksM c = (c.bodies.drop q.1).foldl (stepY c) q.2) (fun q => c.bodies.length - q.1) (0, ok, most) rfl
    ⟨rfl, rfl, rfl, rfl, rfl, rfl, trivial⟩ ⟨Nat.zero_le _, Kp.refl _ _, hr⟩ ?_
  clear hr
  rintro ⟨k', ok', most'⟩ w7 ⟨hk', hkp', hr⟩
  simp only at hk' hr
  have hC7 := hC6.tr hkp'
  refine br_dec (fun g7 => ?_) (fun g7 => ?_)
  · have hlt : k' < c.bodies.length := by omega
    obtain ⟨x, hx, hd⟩ := drop_get hlt
    rw [hd, List.foldl_cons] at hr
    have hxm := List.mem_of_getElem? hx
    obtain ⟨b, o, rfl, a', cap, hcell, hcode⟩ := h3.sl hx
    refine ix k' rfl hlt ?_
    refine ldC hC7 (hmono _ _ _ hcell) ?_
    refine br_dec (fun g8 => ?_) (fun g8 => ?_)
    · refine ev_call (block_ct x hC7 hcod (hcode.mono hmono) hco (by have := hbl x hxm; omega) (by omega)) ?_
      rintro e w9 ⟨rfl, hk9⟩
      have hkp9 := hkp'.tr hk9
      have hst : stepY c (ok', most') x = stepB c (ok', most') x 0 := by unfold stepY; rw [if_pos (by omega)]
      rw [hst] at hr
      refine br (fun g9 => ?_) (fun g9 => ?_)
      · refine max64 ?_
        refine int64 (by omega) (by omega) ?_
        refine ⟨(k' + 1, stepB c (ok', most') x 0), by simp only; omega, rfl, ⟨rfl, rfl, ?_, rfl, rfl, rfl, trivial⟩, hlt, hkp9, hr⟩
        have g9 : ok' = true := g9
        show some _ = some _
        simp [stepB, g9]
      · refine max64 ?_
        refine int64 (by omega) (by omega) ?_
        refine ⟨(k' + 1, stepB c (ok', most') x 0), by simp only; omega, rfl, ⟨rfl, rfl, ?_, rfl, rfl, rfl, trivial⟩, hlt, hkp9, hr⟩
        have g9 : ok' = false := g9
        show some _ = some _
        simp [stepB, g9]
    · have hst : stepY c (ok', most') x = (ok', most') := by unfold stepY; rw [if_neg (by omega)]
      rw [hst] at hr
      refine int64 (by omega) (by omega) ?_
      exact ⟨(k' + 1, ok', most'), by simp only; omega, rfl, ⟨rfl, rfl, rfl, rfl, rfl, rfl, trivial⟩, hlt, hkp', hr⟩
  · rw [List.drop_eq_nil_of_le (by omega)] at hr
    have hr : blocksM c = (ok', most') := hr
    rw [hr] at e1
    simp only at e1
    have hk17 := (hk15.tr hkp).tr hkp'
    refine br (fun g9 => ?_) (fun g9 => ?_)
    · exact ret _ _ hk17 (by rw [e1, if_pos (by simpa using g9)])
    rw [if_neg (by simpa using g9)] at e1
    refine br_dec (fun g10 => ?_) (fun g10 => ?_)
    · exact ret _ _ hk17 (by rw [e1, if_pos g10])
    · exact ret _ _ hk17 (by rw [e1, if_neg g10])
end Go.Proofs.YtbggaljmollhmaaGreatDoor

/-
  Code: bytes: octet.form, Put; code's writer.
-/
set_option linter.unusedSimpArgs false
set_option linter.unusedVariables false
namespace Cd
open Go Go.Wx
/-- the form of a number -/
def formM (n : Nat) : List Nat := if h : n < 128 then [n] else (n % 128 + 128) :: formM (n / 128)
termination_by n
decreasing_by omega

theorem formM_small {n : Nat} (h : n < 128) : formM n = [n] := by rw [formM, dif_pos h]
theorem formM_big {n : Nat} (h : ¬ n < 128) : formM n = (n % 128 + 128) :: formM (n / 128) := by rw [formM, dif_neg h]
theorem formM_byte (n : Nat) : ∀ x ∈ formM n, x < 256 := by
  induction n using Nat.strongRecOn with
  | _ n ih =>
    by_cases h : n < 128
    · rw [formM_small h]; intro x hx; simp at hx; omega
    · rw [formM_big h]
      intro x hx
      rcases List.mem_cons.1 hx with rfl | hx
      · omega
      · exact ih (n / 128) (by omega) x hx
theorem formM_len {k : Nat} : ∀ {n : Nat}, n < 128 ^ (k + 1) → (formM n).length ≤ k + 1 := by
  induction k with
  | zero => intro n h; rw [formM_small (by simpa using h)]; simp
  | succ k ih =>
    intro n h
    by_cases hs : n < 128
    · rw [formM_small hs]; simp
    · rw [formM_big hs]
      have : n / 128 < 128 ^ (k + 1) := by
        rw [Nat.div_lt_iff_lt_mul (by omega), ← Nat.pow_succ]
        exact h
      have := ih this
      simp; omega
theorem formM_len10 {n : Nat} (h : n < 18446744073709551616) : (formM n).length ≤ 10 := formM_len (k := 9) (by omega)

def numsB (xs : List Int) : List Nat := xs.flatMap fun x => formM x.toNat
def insB (n : Ins) : List Nat := numsB [n.op, n.a, n.b, n.to.length] ++ numsB n.to
def blockB (b : List Ins) : List Nat := numsB [(b.length : Int)] ++ b.flatMap insB
def bitI (b : Bool) : Int := if b then 1 else 0
def keptB (k : List Bool) : List Nat := numsB [(k.length : Int)] ++ numsB (k.map bitI)
def shpB (s : Shp) : List Nat := numsB [s.params, s.kept.length] ++ s.kept.flatMap keptB
def fnB (f : Cd.Fn) : List Nat := numsB [f.caps] ++ blockB f.code
def codB (c : Cod) : List Nat := numsB [c.nat + 1, c.shapes.length] ++ c.shapes.flatMap shpB ++ numsB [(c.funs.length : Int)] ++ c.funs.flatMap fnB ++ numsB [(c.bodies.length : Int)] ++ c.bodies.flatMap blockB ++ blockB c.main
end Cd

namespace Go.Wx
/-- from one row of one's own to the next: what else was there stays -/
structure Gw (w : World) (v : Value) (w' : World) (v' : Value) : Prop where
  kp : Kp v.ownBlock.toList w w'
  blk : ∀ g, v'.ownBlock = some g → v.ownBlock = some g ∨ w.heap.size ≤ g
theorem Gw.refl (w : World) (v : Value) : Gw w v w v := ⟨(Kp.refl [] w).weak (by simp), fun g h => .inl h⟩
theorem Gw.trans {w w' w'' : World} {v v' v'' : Value} (h : Gw w v w' v') (k : Gw w' v' w'' v'') : Gw w v w'' v'' := by
  refine ⟨h.kp.trans k.kp fun x hx hl => ?_, fun g hg => ?_⟩
  · have hx : v'.ownBlock = some x := by simpa using hx
    rcases h.blk x hx with e | e
    · simpa using e
    · omega
  · rcases k.blk g hg with e | e
    · exact h.blk g e
    · exact .inr (Nat.le_trans h.kp.size e)
theorem Gw.of {w w1 w2 : World} {v v' : Value} (k1 : Kp [] w w1) (k2 : Kp v.ownBlock.toList w1 w2) (hb : v'.ownBlock = v.ownBlock ∨ v'.ownBlock = some w1.heap.size) : Gw w v w2 v' := by
  refine ⟨(k1.weak (by simp)).trans k2 (fun x hx _ => hx), fun g hg => ?_⟩
  rcases hb with e | e
  · exact .inl (by rw [← e]; exact hg)
  · rw [e] at hg
    have := Option.some.inj hg
    have := k1.size
    exact .inr (by omega)
end Go.Wx

namespace Go.Proofs.YtbggaljmollhmaaGreatDoor
open Go.Wx Cd

theorem or128 : ∀ x : Nat, x < 256 → x ||| 128 = x % 128 + 128 := by decide +kernel

theorem form_ct {lo : Nat} {w : World} {v : Value} {l : List Nat} (h : Own rU8 5 lo w v l) (n : Nat) (hn : n < 18446744073709551616) (hl : l.length ≤ 549755813888) :
    CallOk Tryz.prog 176 ∧ Calls Tryz.prog 176 #[v, .int .u64 (n : Int)] w (fun e w' => ∃ v', e = .returned v' ∧ Own rU8 5 lo w' v' (l ++ formM n) ∧ Gw w v w' v') := by
  refine ⟨⟨_, Tryz.func176, rfl, by decide⟩, ?_⟩
  refine calls_of (args := [_, _]) 20 [.tmp 4] τok Tryz.func176 rfl rfl rfl (Nat.le_of_ble_eq_true rfl) ?_
  have hfl := formM_len10 hn
  refine lp τok (σ := Value × Nat × List Nat) (fun q => [(0, q.1), (1, .int .u64 (q.2.1 : Int))])
    (fun q w' => q.2.1 ≤ n ∧ Own rU8 5 lo w' q.1 q.2.2 ∧ q.2.2 ++ formM q.2.1 = l ++ formM n ∧ Gw w v w' q.1) (fun q => q.2.1) (v, n, l) rfl ⟨rfl, rfl, trivial⟩ ⟨Nat.le_refl _, h, rfl, Gw.refl _ _⟩ ?_
  rintro ⟨u, m, r⟩ w1 ⟨hm, hO, hr, hg⟩
  simp only at hm hO hr hg
  have hrl : r.length ≤ 549755813888 + 10 := by
    have := congrArg List.length hr
    simp only [List.length_append] at this
    omega
  refine br_dec (fun h1 => ?_) (fun h1 => ?_)
  · have h1 : (128 : Int) ≤ (m : Int) := h1
    have h1 : ¬ m < 128 := by omega
    refine intv ((m % 256 : Nat) : Int) (by rw [wrap8']; simp) ?_
    refine or8 (x := m % 256) (y := 128) (m % 128 + 128) (by omega) (by omega) (by rw [or128 _ (by omega)]; omega) ?_
    refine fill [.int .u8 ((m % 128 + 128 : Nat) : Int)] rfl ?_
    refine new fun b2 w2 hb2 hB2 hs2 hk2 => ?_
    refine (hO.kp hk2).ap1 τok rfl rfl Nat.one_pos (m % 128 + 128) [.int .u8 ((m % 128 + 128 : Nat) : Int)] ⟨rfl, by omega⟩ (fun j x hj => by rw [Nat.zero_add]; exact hB2.cl hj) (by omega) (by simp only [maxLen]; omega) fun u' w3 hO3 hk3 hb3 => ?_
    refine shr64 (x := m) (n := 7) (m / 128) (by omega) rfl ?_
    refine ⟨(u', m / 128, r ++ [m % 128 + 128]), by simp only; omega, rfl, ⟨rfl, rfl, trivial⟩, by simp only; omega, hO3, ?_, hg.trans (Gw.of hk2 hk3 hb3)⟩
    simp only
    rw [← hr, formM_big h1]
    simp
  · have h1 : ¬ (128 : Int) ≤ (m : Int) := h1
    have h1 : m < 128 := by omega
    refine intv ((m : Nat) : Int) (by rw [wrap8']; simp only; omega) ?_
    refine fill [.int .u8 ((m : Nat) : Int)] rfl ?_
    refine new fun b2 w2 hb2 hB2 hs2 hk2 => ?_
    refine (hO.kp hk2).ap1 τok rfl rfl Nat.one_pos m [.int .u8 ((m : Nat) : Int)] ⟨rfl, by omega⟩ (fun j x hj => by rw [Nat.zero_add]; exact hB2.cl hj) (by omega) (by simp only [maxLen]; omega) fun u' w3 hO3 hk3 hb3 => ?_
    refine ⟨u', rfl, ?_, hg.trans (Gw.of hk2 hk3 hb3)⟩
    rw [formM_small h1] at hr
    rw [← hr]
    exact hO3

theorem clone_ct {C : Mem} {w : World} (hS : Sub C w) (l : List Nat) (a : Option Addr) (cap : Nat) (hl : Sl rU8 C a l) (hll : l.length ≤ 549755813888) :
    CallOk Tryz.prog 86 ∧ Calls Tryz.prog 86 #[.slice a l.length cap] w (fun e w' => ∃ v, e = .returned v ∧ Own rU8 5 w.heap.size w' v l ∧ Kp [] w w') := by
  refine ⟨⟨_, Tryz.func86, rfl, by decide⟩, ?_⟩
  refine calls_of (args := [_]) 8 [.tmp 2] τok Tryz.func86 rfl rfl rfl (Nat.le_of_ble_eq_true rfl) ?_
  refine eqNil τok rfl ?_
  refine br (fun h1 => ?_) (fun h1 => ?_)
  · have ha : a = none := by cases a <;> simp_all
    have hnil : l = [] := by
      rcases hl.2 with h0 | ⟨b, o, e, _⟩
      · exact List.length_eq_zero_iff.1 h0
      · rw [ha] at e; cases e
    subst hnil
    exact ⟨_, rfl, Own.nil _ _ (Nat.le_refl _), Kp.refl _ _⟩
  refine fill [] rfl ?_
  refine new fun b1 w1 hb1 hB1 hs1 hk1 => ?_
  have hO : Own rU8 5 w.heap.size w1 (.slice (some ⟨b1, 0, none⟩) 0 0) [] := Own.empty rU8 hB1 (by omega)
  have hS1 := hS.tr hk1
  refine hO.ap τok rfl rfl Nat.one_pos l (l.map fun x : Nat => [Value.int .u8 (x : Int)]) rfl ?_ ?_ (by simp; omega) (by simp [maxLen]; omega) fun v' w2 hO2 hk2 _ => ?_
  · have hbyte : ∀ x ∈ l, x < 256 := fun x hx => by
      obtain ⟨i, hi⟩ := List.getElem?_of_mem hx
      obtain ⟨_, _, _, _, h⟩ := hl.u8 hi
      exact h
    clear hl hll
    induction l with
    | nil => trivial
    | cons x r ih => exact ⟨⟨rfl, hbyte x (by simp)⟩, ih (fun y hy => hbyte y (by simp [hy]))⟩
  · rcases hl.2 with h0 | ⟨b, o, ha, hc⟩
    · exact .inl h0
    · refine .inr ⟨b, o, ha, fun i x j u hi hj => ?_⟩
      rw [List.getElem?_map] at hi
      cases hy : l[i]? with
      | none => rw [hy] at hi; cases hi
      | some y =>
        rw [hy] at hi
        have hi : [Value.int .u8 (y : Int)] = x := by simpa using hi
        subst hi
        obtain ⟨cs, ⟨rfl, _⟩, h2⟩ := hc i y hy
        exact hS1 _ _ _ (h2 j u hj)
  · refine ⟨v', rfl, by simpa using hO2, hk1.trans hk2 fun x hx hl => ?_⟩
    have hx : x = b1 := by simpa [Value.ownBlock, eq_comm] using hx
    omega

theorem put_ct {C D : Mem} {w : World} (hS : Sub C w) (hD : Sub D w) (l : List Nat) (xs : List Int) (a ax : Option Addr) (cap cx : Nat) (hl : Sl rU8 C a l) (hx : Sl rInt D ax xs) (hpos : ∀ x ∈ xs, 0 ≤ x) (hll : (l ++ numsB xs).length ≤ 549755813888) :
    CallOk Tryz.prog 156 ∧ Calls Tryz.prog 156 #[.slice a l.length cap, .slice ax xs.length cx] w (fun e w' => ∃ v, e = .returned (.tuple #[v, .int .i64 0]) ∧ Own rU8 5 w.heap.size w' v (l ++ numsB xs) ∧ Kp [] w w') := by
  refine ⟨⟨_, Tryz.func156, rfl, by decide⟩, ?_⟩
  have hxl := hx.1
  simp only [List.length_append] at hll
  refine calls_of (args := [_, _]) 25 [.tmp 4, .tmp 5] τok Tryz.func156 rfl rfl rfl (Nat.le_of_ble_eq_true rfl) ?_
  refine ev_call (clone_ct hS l a cap hl (by omega)) ?_
  rintro e w1 ⟨v, rfl, hO, hk1⟩
  refine lp τok (σ := Nat × Value) (fun q => [(6, q.2), (11, .slice ax xs.length cx), (12, .int .i64 xs.length), (13, .int .i64 q.1)])
    (fun q w' => q.1 ≤ xs.length ∧ Own rU8 5 w.heap.size w' q.2 (l ++ numsB (xs.take q.1)) ∧ Kp [] w w') (fun q => xs.length - q.1) (0, v) rfl ⟨rfl, rfl, rfl, rfl, trivial⟩ ⟨Nat.zero_le _, by simpa [numsB] using hO, hk1⟩ ?_
  rintro ⟨k, u⟩ w2 ⟨hk, hO2, hkp⟩
  simp only at hk hO2
  refine br_dec (fun h1 => ?_) (fun h1 => ?_)
  · have hlt : k < xs.length := by omega
    obtain ⟨x, hxk, hd⟩ := drop_get hlt
    obtain ⟨b, o, rfl, hcell, h64⟩ := hx.int hxk
    have hD2 := hD.tr hkp
    have hx0 := hpos x (List.mem_of_getElem? hxk)
    unfold I64 at h64
    refine ix k rfl hlt ?_
    (repeat first | refine ldC ‹Sub _ _› (by assumption) ?_ | refine ld (Cl.cell (by first | assumption | exact Bk.cl (by assumption) rfl)) ?_ | refine ldK (by first | assumption | exact Bk.cl (by assumption) rfl | exact ‹Sub _ _› _ _ _ (by assumption)) ?_)
    refine br_dec (fun h2 => ?_) (fun h2 => ?_)
    · omega
    refine u64n x.toNat (by omega) (by omega) ?_
    have htl : (numsB (xs.take k)).length ≤ (numsB xs).length := by
      have : numsB xs = numsB (xs.take k) ++ numsB (xs.drop k) := by
        unfold numsB
        rw [← List.flatMap_append, List.take_append_drop]
      rw [this, List.length_append]
      omega
    refine ev_call (form_ct hO2 x.toNat (by omega) (by rw [List.length_append]; omega)) ?_
    rintro e w3 ⟨u', rfl, hO3, hg3⟩
    refine int64 (by omega) (by omega) ?_
    refine ⟨(k + 1, u'), by simp only; omega, rfl, ⟨rfl, rfl, rfl, rfl, trivial⟩, hlt, ?_, hkp.own hg3.kp hO2⟩
    have : numsB (xs.take (k + 1)) = numsB (xs.take k) ++ formM x.toNat := by
      rw [take_get hxk]
      simp [numsB]
    simp only
    rw [this, ← List.append_assoc]
    exact hO3
  · rw [List.take_of_length_le (by omega)] at hO2
    exact ⟨u, rfl, hO2, hkp⟩
end Go.Proofs.YtbggaljmollhmaaGreatDoor

