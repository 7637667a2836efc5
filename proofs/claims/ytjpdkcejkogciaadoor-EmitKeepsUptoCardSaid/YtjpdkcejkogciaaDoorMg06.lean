/-
  Own texts put together: CdG, CdH, TrB, EmA.
-/
import Derived.Test.YtjpdkcejkogciaaDoorMg05
/-
  Code: package bare, at rows that are one box.
-/
set_option linter.unusedSimpArgs false
set_option linter.unusedVariables false
namespace Go.Proofs.YtjpdkcejkogciaaDoor
open Go.Wx Cd

/-- a box stands at (b, o) -/
structure Bx (w : World) (b o : Nat) : Prop where
  op : Cl w.heap b o (.int .i64 22)
  a : Cl w.heap b (o + 1) (.int .i64 0)
  b : Cl w.heap b (o + 2) (.int .i64 0)
theorem Bx.kp {w w' : World} {b o : Nat} {X : List Nat} (h : Bx w b o) (k : Kp X w w') (hx : b ∉ X) : Bx w' b o := ⟨h.op.kp k hx, h.a.kp k hx, h.b.kp k hx⟩
theorem Bx.cells {w : World} {b o : Nat} (h : Bx w b o) : ∀ j v, [Value.int .i64 22, .int .i64 0, .int .i64 0][j]? = some v → Cl w.heap b (o + j) v := fun j v hj => by
  match j with
  | 0 => simp at hj; subst hj; exact h.op
  | 1 => simp at hj; subst hj; exact h.a
  | 2 => simp at hj; subst hj; exact h.b
  | j + 3 => simp at hj

theorem kids_box (w : World) : CallOk Tryd.prog 97 ∧ Calls Tryd.prog 97 #[.agg #[.int .i64 22, .int .i64 0, .int .i64 0]] w (fun e w' => e = .returned (.int .i64 0) ∧ Kp [] w w') := by
  refine ⟨⟨_, Tryd.func97, rfl, by decide⟩, ?_⟩
  refine calls_of (args := [_]) 111 [.tmp 2] τok Tryd.func97 rfl rfl rfl (Nat.le_of_ble_eq_true rfl) ?_
  refine new fun b1 w1 hb1 hB1 hs1 hk1 => ?_
  have hB1 : Bk w1.heap b1 [.int .i64 22, .int .i64 0, .int .i64 0] 47 := hB1
  (repeat first | refine ldC ‹Sub _ _› (by assumption) ?_ | refine ld (Cl.cell (by first | assumption | exact Bk.cl (by assumption) rfl)) ?_ | refine ldK (by first | assumption | exact Bk.cl (by assumption) rfl | exact ‹Sub _ _› _ _ _ (by assumption)) ?_)
  exact ⟨rfl, hk1⟩

theorem end_box {w : World} {b o : Nat} (cap : Nat) (hx : Bx w b o) : CallOk Tryd.prog 95 ∧ Calls Tryd.prog 95 #[.slice (some ⟨b, o, none⟩) 1 cap, .int .i64 0] w (fun e w' => e = .returned (.int .i64 1) ∧ Kp [] w w') := by
  refine ⟨⟨_, Tryd.func95, rfl, by decide⟩, ?_⟩
  refine calls_of (args := [_, _]) 29 [.tmp 4] τok Tryd.func95 rfl rfl rfl (Nat.le_of_ble_eq_true rfl) ?_
  refine ix 0 rfl (by decide) ?_
  refine ldN [.int .i64 22, .int .i64 0, .int .i64 0] rfl (fun j v hj => by simpa using hx.cells j v hj) ?_
  refine ev_call (kids_box w) ?_
  rintro e w1 ⟨rfl, hk1⟩
  refine int64 (by decide) (by decide) ?_
  refine lp τok (fun _ : Unit => [(1, .int .i64 1), (19, .int .i64 0), (20, .int .i64 0)]) (fun _ w' => Kp [] w w') (fun _ => 0) () rfl ⟨rfl, rfl, rfl, trivial⟩ hk1 ?_
  rintro _ w2 hk2
  exact ⟨rfl, hk2⟩

theorem shape_box {w : World} {b o : Nat} (cap : Nat) (hx : Bx w b o) : CallOk Tryd.prog 82 ∧ Calls Tryd.prog 82 #[.slice (some ⟨b, o, none⟩) 1 cap] w (fun e w' => e = .returned (.int .i64 0) ∧ Kp [] w w') := by
  refine ⟨⟨_, Tryd.func82, rfl, by decide⟩, ?_⟩
  refine calls_of (args := [_]) 11 [.tmp 2] τok Tryd.func82 rfl rfl rfl (Nat.le_of_ble_eq_true rfl) ?_
  refine ev_call (end_box cap hx) ?_
  rintro e w1 ⟨rfl, hk1⟩
  exact ⟨rfl, hk1⟩

theorem below1_box (around : Int) (v : Value) (w : World) : CallOk Tryd.prog 84 ∧ Calls Tryd.prog 84 #[.agg #[.int .i64 22, .int .i64 0, .int .i64 0], .int .i64 around, v] w (fun e w' => e = .returned (.bool true) ∧ Kp [] w w') := by
  refine ⟨⟨_, Tryd.func84, rfl, by decide⟩, ?_⟩
  refine calls_of (args := [_, _, _]) 18 [.tmp 5] τok Tryd.func84 rfl rfl rfl (Nat.le_of_ble_eq_true rfl) ?_
  refine new fun b1 w1 hb1 hB1 hs1 hk1 => ?_
  have hB1 : Bk w1.heap b1 [.int .i64 22, .int .i64 0, .int .i64 0] 47 := hB1
  (repeat first | refine ldC ‹Sub _ _› (by assumption) ?_ | refine ld (Cl.cell (by first | assumption | exact Bk.cl (by assumption) rfl)) ?_ | refine ldK (by first | assumption | exact Bk.cl (by assumption) rfl | exact ‹Sub _ _› _ _ _ (by assumption)) ?_)
  exact ⟨rfl, hk1⟩

theorem walk1_box {w : World} {b o cap bt bat bone : Nat} {v : Value} (pt : Value) (hx : Bx w b o) (ht : Cl w.heap bt 0 (.slice (some ⟨b, o, none⟩) 1 cap)) (hat : Bk w.heap bat [.int .i64 0] 3) (hone : Cl w.heap bone 0 (.func (.func 84) #[] #[v])) (hne : bone ≠ bat) :
    CallOk Tryd.prog 96 ∧ Calls Tryd.prog 96 #[.int .i64 0, .pointer (some ⟨bt, 0, none⟩), .pointer (some ⟨bat, 0, none⟩), .pointer (some ⟨bone, 0, none⟩), pt] w (fun e w' => e = .returned (.bool true) ∧ Kp [bat] w w') := by
  refine ⟨⟨_, Tryd.func96, rfl, by decide⟩, ?_⟩
  refine calls_of (args := [_, _, _, _, _]) 34 [.tmp 6] τok Tryd.func96 rfl rfl rfl (Nat.le_of_ble_eq_true rfl) ?_
  (repeat first | refine ldC ‹Sub _ _› (by assumption) ?_ | refine ld (Cl.cell (by first | assumption | exact Bk.cl (by assumption) rfl)) ?_ | refine ldK (by first | assumption | exact Bk.cl (by assumption) rfl | exact ‹Sub _ _› _ _ _ (by assumption)) ?_)
  refine ix 0 rfl (by decide) ?_
  refine ldN [.int .i64 22, .int .i64 0, .int .i64 0] rfl (fun j v hj => by simpa using hx.cells j v hj) ?_
  refine new fun b1 w1 hb1 hB1 hs1 hk1 => ?_
  refine stN hB1 rfl (by simp [Value.oneCell']) fun w2 hB2 hs2 hk2 => ?_
  have hk12 : Kp [] w w2 := hk1.newSt hb1 hk2
  have hat2 := hat.kp hk12 (by simp)
  have hone2 := hone.kp hk12 (by simp)
  refine ld (hat2.cl rfl).cell ?_
  refine int64 (by decide) (by decide) ?_
  refine st hat2 (by simp) rfl fun w3 hat3 hs3 hk3 => ?_
  have hk13 : Kp [bat] w w3 := (hk12.weak (by simp)).trans hk3 (fun x hx _ => hx)
  have hatl := hat.lt
  have hone3 := hone2.kp hk3 (by simpa using hne)
  have hB3 := hB2.kp hk3 (by simp; omega)
  refine ld hone3.cell ?_
  refine ldN [.int .i64 22, .int .i64 0, .int .i64 0] rfl (fun j v hj => by rw [Nat.zero_add]; exact hB3.cl hj) ?_
  refine ev_call (below1_box 0 v w3) ?_
  rintro e w4 ⟨rfl, hk4⟩
  have hB4 := hB3.kp hk4 (by simp)
  refine ldN [.int .i64 22, .int .i64 0, .int .i64 0] rfl (fun j v hj => by rw [Nat.zero_add]; exact hB4.cl hj) ?_
  refine ev_call (kids_box w4) ?_
  rintro e w5 ⟨rfl, hk5⟩
  have hk15 : Kp [bat] w w5 := (hk13.tr hk4).tr hk5
  refine lp τok (fun _ : Unit => [(21, .int .i64 0), (22, .int .i64 0)]) (fun _ w' => Kp [bat] w w') (fun _ => 0) () rfl ⟨rfl, rfl, trivial⟩ hk15 ?_
  rintro _ w6 hk6
  exact ⟨rfl, hk6⟩

theorem walk_box {w : World} {b o : Nat} (cap : Nat) (v : Value) (hx : Bx w b o) : CallOk Tryd.prog 83 ∧ Calls Tryd.prog 83 #[.slice (some ⟨b, o, none⟩) 1 cap, .func (.func 84) #[] #[v]] w (fun e w' => e = .returned (.bool true) ∧ Kp [] w w') := by
  refine ⟨⟨_, Tryd.func83, rfl, by decide⟩, ?_⟩
  refine calls_of (args := [_, _]) 10 [.tmp 4] τok Tryd.func83 rfl rfl rfl (Nat.le_of_ble_eq_true rfl) ?_
  refine new fun bt w1 hbt hT hs1 hk1 => ?_
  refine new fun bf w2 hbf hF hs2 hk2 => ?_
  refine new fun ba w3 hba hA hs3 hk3 => ?_
  refine st hA (by simp [zc]) rfl fun w4 hA4 hs4 hk4 => ?_
  refine new fun bm w5 hbm hM hs5 hk5 => ?_
  refine st hM (by simp [zc]) rfl fun w6 hM6 hs6 hk6 => ?_
  have hA5 : Bk w5.heap ba [.int .i64 0] 3 := hA4.kp hk5 (by simp)
  have hA6 := hA5.kp hk6 (by simp; omega)
  have k12 := hk1.tr hk2
  have k14 : Kp [] w2 w4 := hk3.newSt hba hk4
  have k46 : Kp [] w4 w6 := hk5.newSt hbm hk6
  have k16 : Kp [] w1 w6 := (hk2.tr k14).tr k46
  have k26 : Kp [] w2 w6 := k14.tr k46
  have k06 := hk1.tr k16
  refine ld (hM6.cl rfl).cell ?_
  refine ev_call (walk1_box _ (hx.kp k06 (by simp)) ((hT.kp k16 (by simp)).cl rfl) hA6 ((hF.kp k26 (by simp)).cl rfl) (by omega)) ?_
  rintro e w7 ⟨rfl, hk7⟩
  refine ⟨rfl, k06.trans hk7 (fun x hx hl => ?_)⟩
  have := k12.size
  simp at hx
  omega

theorem below_box {w : World} {b o : Nat} (cap : Nat) (hx : Bx w b o) : CallOk Tryd.prog 59 ∧ Calls Tryd.prog 59 #[.slice (some ⟨b, o, none⟩) 1 cap, .int .i64 0] w (fun e w' => e = .returned (.bool true) ∧ Kp [] w w') := by
  refine ⟨⟨_, Tryd.func59, rfl, by decide⟩, ?_⟩
  refine calls_of (args := [_, _]) 13 [.tmp 4] τok Tryd.func59 rfl rfl rfl (Nat.le_of_ble_eq_true rfl) ?_
  refine new fun b1 w1 hb1 hB1 hs1 hk1 => ?_
  refine ev_call (shape_box cap (hx.kp hk1 (by simp))) ?_
  rintro e w2 ⟨rfl, hk2⟩
  have hk12 := hk1.tr hk2
  refine ev_call (walk_box cap _ (hx.kp hk12 (by simp))) ?_
  rintro e w3 ⟨rfl, hk3⟩
  exact ⟨rfl, hk12.tr hk3⟩

theorem there_box {w : World} {b o : Nat} (cap : Nat) (cs : List Value) (known : Int) (hx : Bx w b o) : CallOk Tryd.prog 37 ∧ Calls Tryd.prog 37 #[.agg cs.toArray, .int .i64 known, .slice (some ⟨b, o, none⟩) 1 cap] w (fun e w' => e = .returned (.bool true) ∧ Kp [] w w') := by
  refine ⟨⟨_, Tryd.func37, rfl, by decide⟩, ?_⟩
  refine calls_of (args := [_, _, _]) 70 [.tmp 6] τok Tryd.func37 rfl rfl rfl (Nat.le_of_ble_eq_true rfl) ?_
  refine new fun b1 w1 hb1 hB1 hs1 hk1 => ?_
  refine ev_call (below_box cap (hx.kp hk1 (by simp))) ?_
  rintro e w2 ⟨rfl, hk2⟩
  have hk12 := hk1.tr hk2
  refine lp τok (σ := Nat) (fun k => [(1, .int .i64 known), (3, .pointer (some ⟨b1, 0, none⟩)), (13, .slice (some ⟨b, o, none⟩) 1 cap), (14, .int .i64 1), (15, .int .i64 k)]) (fun k w' => Kp [] w w') (fun k => 1 - k) 0 rfl ⟨rfl, rfl, rfl, rfl, rfl, trivial⟩ hk12 ?_
  rintro k w3 hk3
  refine br_dec (fun h => ?_) (fun h => ?_)
  · have h0 : k = 0 := by omega
    subst h0
    have hx3 := hx.kp hk3 (by simp)
    refine ix 0 rfl (by decide) ?_
    refine ldN [.int .i64 22, .int .i64 0, .int .i64 0] rfl (fun j v hj => by simpa using hx3.cells j v hj) ?_
    refine new fun b4 w4 hb4 hB4 hs4 hk4 => ?_
    refine stN hB4 rfl (by simp [Value.oneCell']) fun w5 hB5 hs5 hk5 => ?_
    have hk35 : Kp [] w3 w5 := hk4.newSt hb4 hk5
    (repeat first | refine ldC ‹Sub _ _› (by assumption) ?_ | refine ld (Cl.cell (by first | assumption | exact Bk.cl (by assumption) rfl)) ?_ | refine ldK (by first | assumption | exact Bk.cl (by assumption) rfl | exact ‹Sub _ _› _ _ _ (by assumption)) ?_)
    refine drawR τok (by kernel_rfl) ?_
    intro m
    have hB6 : Bk ({ w5 with drawn := m } : World).heap b4 [.int .i64 22, .int .i64 0, .int .i64 0] 47 := hB5
    refine drawR τok (by kernel_rfl) ?_
    refine ldR (hB6.cl rfl) ?_
    intro m'
    refine int64 (by decide) (by decide) ?_
    exact ⟨1, by decide, rfl, ⟨rfl, rfl, rfl, rfl, rfl, trivial⟩, ((hk3.tr hk35).dr _).dr _⟩
  · exact ⟨rfl, hk3⟩
end Go.Proofs.YtjpdkcejkogciaaDoor

/-
  Code: package bare: shapes, what is registered, Right, where all rows are boxes or none.
-/
set_option linter.unusedSimpArgs false
set_option linter.unusedVariables false
namespace Cd
open Go Go.Wx

def Nd.box : Nd := ⟨22, 0, 0⟩

def shpOk (s : Shp) : Bool := decide (0 ≤ s.params) && decide (s.params ≤ 16) && decide (s.kept.length ≤ 16) && !s.kept.any fun k => decide (16 < k.length)
def entOk (b : List Nd) (s : Shp) : Bool := shpOk s && (decide (b.length = 0) || (decide (s.params = 0) && decide (s.kept.length = 0)))
def entsOk : List (List Nd) → List Shp → Bool
  | b :: bs, s :: ss => entOk b s && entsOk bs ss
  | _, _ => true
def natOk (bodies : List (List Nd)) (shapes : List Shp) (nat : Int) : Bool :=
  decide (nat = -1) || (decide (0 ≤ nat) && decide (nat < bodies.length) && decide (((bodies[nat.toNat]?).getD []).length = 0) && match shapes[nat.toNat]? with
    | some s => decide (s.params = 0) && decide (s.kept = [[], [true]])
    | none => false)
def rightM (bodies : List (List Nd)) (shapes : List Shp) (nat : Int) : Bool :=
  decide (bodies.length = shapes.length) && (entsOk bodies shapes && natOk bodies shapes nat)
end Cd

namespace Go.Proofs.YtjpdkcejkogciaaDoor
open Go.Wx Cd

theorem shaped1_ct (a : Option Addr) (k cap : Nat) (w : World) : CallOk Tryd.prog 58 ∧ Calls Tryd.prog 58 #[.slice a k cap] w (fun e w' => e = .returned (.bool (decide (16 < k))) ∧ Kp [] w w') := by
  refine ⟨⟨_, Tryd.func58, rfl, by decide⟩, ?_⟩
  refine calls_of (args := [_]) 6 [.tmp 2] τok Tryd.func58 rfl rfl rfl (Nat.le_of_ble_eq_true rfl) ?_
  refine ⟨?_, Kp.refl _ _⟩
  simp [one]
  omega

theorem indexKept_ct {C : Mem} {w : World} (hS : Sub C w) (l : List (List Bool)) (a : Option Addr) (cap : Nat) (hl : Sl (rSl rBool) C a l) :
    CallOk Tryd.prog 81 ∧ Calls Tryd.prog 81 #[.slice a l.length cap, .func (.func 58) #[] #[]] w (fun e w' => ∃ i : Int, e = .returned (.int .i64 i) ∧ Kp [] w w' ∧ (l.any (fun k => decide (16 < k.length)) = decide (0 ≤ i))) := by
  refine ⟨⟨_, Tryd.func81, rfl, by decide⟩, ?_⟩
  have hlen := hl.1
  refine calls_of (args := [_, _]) 19 [.tmp 4] τok Tryd.func81 rfl rfl rfl (Nat.le_of_ble_eq_true rfl) ?_
  refine lp τok (σ := Nat) (fun k => [(0, .slice a l.length cap), (1, .func (.func 58) #[] #[]), (7, .int .i64 l.length), (8, .int .i64 k)]) (fun k w' => k ≤ l.length ∧ Kp [] w w' ∧ l.any (fun k => decide (16 < k.length)) = (l.drop k).any (fun k => decide (16 < k.length))) (fun k => l.length - k) 0 rfl
    ⟨rfl, rfl, rfl, rfl, trivial⟩ ⟨Nat.zero_le _, Kp.refl _ _, rfl⟩ ?_
  rintro k w1 ⟨hk, hkp, hr⟩
  refine br_dec (fun h => ?_) (fun h => ?_)
  · have hlt : k < l.length := by omega
    obtain ⟨x, hx, hd⟩ := drop_get hlt
    rw [hd, List.any_cons] at hr
    obtain ⟨b, o, rfl, a', c', hcell, hsl⟩ := hl.sl hx
    have hS1 := hS.tr hkp
    refine ix k rfl hlt ?_
    (repeat first | refine ldC ‹Sub _ _› (by assumption) ?_ | refine ld (Cl.cell (by first | assumption | exact Bk.cl (by assumption) rfl)) ?_ | refine ldK (by first | assumption | exact Bk.cl (by assumption) rfl | exact ‹Sub _ _› _ _ _ (by assumption)) ?_)
    refine ev_call (shaped1_ct a' x.length c' w1) ?_
    rintro e w2 ⟨rfl, hk2⟩
    have hkp2 := hkp.tr hk2
    refine br_dec (fun hc => ?_) (fun hc => ?_)
    · refine ⟨(k : Int), rfl, hkp2, ?_⟩
      rw [hr, decide_eq_true hc, decide_eq_true (by omega)]
      rfl
    · refine int64 (by omega) (by omega) ?_
      refine ⟨k + 1, by omega, rfl, ⟨rfl, rfl, rfl, rfl, trivial⟩, hlt, hkp2, ?_⟩
      rw [hr, decide_eq_false hc, Bool.false_or]
  · refine ⟨-1, rfl, hkp, ?_⟩
    rw [hr, List.drop_eq_nil_of_le (by omega)]
    rfl

theorem containsKept_ct {C : Mem} {w : World} (hS : Sub C w) (l : List (List Bool)) (a : Option Addr) (cap : Nat) (hl : Sl (rSl rBool) C a l) :
    CallOk Tryd.prog 57 ∧ Calls Tryd.prog 57 #[.slice a l.length cap, .func (.func 58) #[] #[]] w (fun e w' => e = .returned (.bool (l.any fun k => decide (16 < k.length))) ∧ Kp [] w w') := by
  refine ⟨⟨_, Tryd.func57, rfl, by decide⟩, ?_⟩
  refine calls_of (args := [_, _]) 9 [.tmp 4] τok Tryd.func57 rfl rfl rfl (Nat.le_of_ble_eq_true rfl) ?_
  refine ev_call (indexKept_ct hS l a cap hl) ?_
  rintro e w1 ⟨i, rfl, hk1, hi⟩
  refine ⟨?_, hk1⟩
  rw [hi]
  rfl

theorem shapedS_ct {C : Mem} {w : World} (hS : Sub C w) (s : Shp) (a : Option Addr) (cap : Nat) (hl : Sl (rSl rBool) C a s.kept) :
    CallOk Tryd.prog 36 ∧ Calls Tryd.prog 36 #[.agg #[.int .i64 s.params, .slice a s.kept.length cap]] w (fun e w' => e = .returned (.bool (shpOk s)) ∧ Kp [] w w') := by
  refine ⟨⟨_, Tryd.func36, rfl, by decide⟩, ?_⟩
  refine calls_of (args := [_]) 21 [.tmp 2] τok Tryd.func36 rfl rfl rfl (Nat.le_of_ble_eq_true rfl) ?_
  refine new fun b1 w1 hb1 hB1 hs1 hk1 => ?_
  have hB1 : Bk w1.heap b1 [.int .i64 s.params, .slice a s.kept.length cap] 60 := hB1
  have hS1 := hS.tr hk1
  (repeat first | refine ldC ‹Sub _ _› (by assumption) ?_ | refine ld (Cl.cell (by first | assumption | exact Bk.cl (by assumption) rfl)) ?_ | refine ldK (by first | assumption | exact Bk.cl (by assumption) rfl | exact ‹Sub _ _› _ _ _ (by assumption)) ?_)
  refine br_dec (fun h1 => ?_) (fun h1 => ?_)
  · exact ⟨by simp [one, shpOk, show ¬ 0 ≤ s.params by omega], hk1⟩
  (repeat first | refine ldC ‹Sub _ _› (by assumption) ?_ | refine ld (Cl.cell (by first | assumption | exact Bk.cl (by assumption) rfl)) ?_ | refine ldK (by first | assumption | exact Bk.cl (by assumption) rfl | exact ‹Sub _ _› _ _ _ (by assumption)) ?_)
  refine br_dec (fun h2 => ?_) (fun h2 => ?_)
  · exact ⟨by simp [one, shpOk, show ¬ s.params ≤ 16 by omega], hk1⟩
  (repeat first | refine ldC ‹Sub _ _› (by assumption) ?_ | refine ld (Cl.cell (by first | assumption | exact Bk.cl (by assumption) rfl)) ?_ | refine ldK (by first | assumption | exact Bk.cl (by assumption) rfl | exact ‹Sub _ _› _ _ _ (by assumption)) ?_)
  refine br_dec (fun h3 => ?_) (fun h3 => ?_)
  · exact ⟨by simp [one, shpOk, show ¬ s.kept.length ≤ 16 by omega], hk1⟩
  (repeat first | refine ldC ‹Sub _ _› (by assumption) ?_ | refine ld (Cl.cell (by first | assumption | exact Bk.cl (by assumption) rfl)) ?_ | refine ldK (by first | assumption | exact Bk.cl (by assumption) rfl | exact ‹Sub _ _› _ _ _ (by assumption)) ?_)
  refine ev_call (containsKept_ct hS1 s.kept a cap hl) ?_
  rintro e w2 ⟨rfl, hk2⟩
  refine ⟨?_, hk1.tr hk2⟩
  unfold shpOk
  rw [decide_eq_true (show 0 ≤ s.params by omega), decide_eq_true (show s.params ≤ 16 by omega), decide_eq_true (show s.kept.length ≤ 16 by omega)]
  rfl

theorem equalB_ct {C D : Mem} {w : World} (hS : Sub C w) (hD : Sub D w) (l m : List Bool) (a a' : Option Addr) (c c' : Nat) (hl : Sl rBool C a l) (hm : Sl rBool D a' m) :
    CallOk Tryd.prog 60 ∧ Calls Tryd.prog 60 #[.slice a l.length c, .slice a' m.length c'] w (fun e w' => e = .returned (.bool (decide (l = m))) ∧ Kp [] w w') := by
  refine ⟨⟨_, Tryd.func60, rfl, by decide⟩, ?_⟩
  have hlen := hl.1
  refine calls_of (args := [_, _]) 26 [.tmp 4] τok Tryd.func60 rfl rfl rfl (Nat.le_of_ble_eq_true rfl) ?_
  refine br_dec (fun h1 => ?_) (fun h1 => ?_)
  · have : ¬ l = m := fun e => h1 (by rw [e])
    exact ⟨by rw [decide_eq_false this]; rfl, Kp.refl _ _⟩
  have h1 : l.length = m.length := by
    have : (l.length : Int) = m.length := by simpa using h1
    omega
  refine lp τok (σ := Nat) (fun k => [(0, .slice a l.length c), (1, .slice a' m.length c'), (12, .int .i64 l.length), (13, .int .i64 k)]) (fun k w' => k ≤ l.length ∧ Kp [] w w' ∧ decide (l = m) = decide (l.drop k = m.drop k)) (fun k => l.length - k) 0 rfl
    ⟨rfl, rfl, rfl, rfl, trivial⟩ ⟨Nat.zero_le _, Kp.refl _ _, rfl⟩ ?_
  rintro k w1 ⟨hk, hkp, hr⟩
  refine br_dec (fun h => ?_) (fun h => ?_)
  · have hlt : k < l.length := by omega
    obtain ⟨x, hx, hd⟩ := drop_get hlt
    obtain ⟨y, hy, hd'⟩ := drop_get (l := m) (k := k) (by omega)
    rw [hd, hd'] at hr
    obtain ⟨b, o, rfl, hcell⟩ := hl.bool hx
    obtain ⟨b', o', rfl, hcell'⟩ := hm.bool hy
    have hc1 := (hS.tr hkp) _ _ _ hcell
    have hc2 := (hD.tr hkp) _ _ _ hcell'
    refine drawR τok (by kernel_rfl) ?_
    refine ix k rfl hlt ?_
    refine ldR hc1 ?_
    refine ix k rfl (by omega) ?_
    refine ldR hc2 ?_
    intro m'
    refine br (fun hc => ?_) (fun hc => ?_)
    · have : x ≠ y := by simpa using hc
      refine ⟨?_, hkp.dr _⟩
      rw [hr, decide_eq_false (by simp [this])]
      rfl
    · have : x = y := by simpa using hc
      subst this
      refine int64 (by omega) (by omega) ?_
      refine ⟨k + 1, by omega, rfl, ⟨rfl, rfl, rfl, rfl, trivial⟩, hlt, hkp.dr _, ?_⟩
      rw [hr]
      simp
  · refine ⟨?_, hkp⟩
    rw [hr, List.drop_eq_nil_of_le (by omega), List.drop_eq_nil_of_le (by omega)]
    rfl
end Go.Proofs.YtjpdkcejkogciaaDoor

/-
  Flat programs and programs without types, in plain Lean; how they read in memory; which may be.
-/
set_option linter.unusedVariables false
namespace Cd
open Go Go.Wx

structure Ffn where
  caps : Int
  body : List Nd
structure Flt where
  funs : List Ffn
  bodies : List (List Nd)
  main : List Nd
structure Brd where
  bodies : List (List Nd)
  shapes : List Shp
  main : List Nd
  nat : Int
  prims : List (Int × Int)

/-! ### how they read -/
def rFfn : Rd Ffn where
  sz := 2
  den C cs x := ∃ a cap, cs = [.int .i64 x.caps, .slice a x.body.length cap] ∧ Sl rNd C a x.body ∧ I64 x.caps ∧ x.body.length ≤ cap
  len := by rintro C cs x ⟨a, cap, rfl, _⟩; rfl
  mono := by rintro C C' cs x hc ⟨a, cap, rfl, h, h'⟩; exact ⟨a, cap, rfl, h.mono hc, h'⟩
  one := by rintro C cs x ⟨a, cap, rfl, _⟩ u hu; simp at hu; rcases hu with rfl | rfl <;> rfl
def rFlt : Rd Flt where
  sz := 3
  den C cs x := ∃ a1 c1 a2 c2 a3 c3, cs = [.slice a1 x.funs.length c1, .slice a2 x.bodies.length c2, .slice a3 x.main.length c3] ∧ Sl rFfn C a1 x.funs ∧ Sl (rSk rNd) C a2 x.bodies ∧ Sl rNd C a3 x.main ∧ x.main.length ≤ c3
  len := by rintro C cs x ⟨a1, c1, a2, c2, a3, c3, rfl, _⟩; rfl
  mono := by rintro C C' cs x hc ⟨a1, c1, a2, c2, a3, c3, rfl, h1, h2, h3, h4⟩; exact ⟨a1, c1, a2, c2, a3, c3, rfl, h1.mono hc, h2.mono hc, h3.mono hc, h4⟩
  one := by rintro C cs x ⟨a1, c1, a2, c2, a3, c3, rfl, _⟩ u hu; simp at hu; rcases hu with rfl | rfl | rfl <;> rfl
def rPrm : Rd (Int × Int) where
  sz := 2
  den _ cs x := cs = [.int .i64 x.1, .int .i64 x.2] ∧ I64 x.1 ∧ I64 x.2
  len := by rintro _ cs x ⟨rfl, _⟩; rfl
  mono := by rintro _ _ cs x _ h; exact h
  one := by rintro _ cs x ⟨rfl, _⟩ u hu; simp at hu; rcases hu with rfl | rfl <;> rfl
def rBrd : Rd Brd where
  sz := 5
  den C cs x := ∃ a1 c1 a2 c2 a3 c3 a4 c4, cs = [.slice a1 x.bodies.length c1, .slice a2 x.shapes.length c2, .slice a3 x.main.length c3, .int .i64 x.nat, .slice a4 x.prims.length c4] ∧
    Sl (rSk rNd) C a1 x.bodies ∧ Sl rShp C a2 x.shapes ∧ Sl rNd C a3 x.main ∧ Sl rPrm C a4 x.prims ∧ I64 x.nat ∧ x.main.length ≤ c3 ∧ x.prims.length ≤ c4
  len := by rintro C cs x ⟨a1, c1, a2, c2, a3, c3, a4, c4, rfl, _⟩; rfl
  mono := by
    rintro C C' cs x hc ⟨a1, c1, a2, c2, a3, c3, a4, c4, rfl, h1, h2, h3, h4, h'⟩
    exact ⟨a1, c1, a2, c2, a3, c3, a4, c4, rfl, h1.mono hc, h2.mono hc, h3.mono hc, h4.mono hc, h'⟩
  one := by rintro C cs x ⟨a1, c1, a2, c2, a3, c3, a4, c4, rfl, _⟩ u hu; simp at hu; rcases hu with rfl | rfl | rfl | rfl | rfl <;> rfl
theorem sl_ffn {C : Mem} {a : Option Addr} {l : List Ffn} (h : Sl rFfn C a l) {i : Nat} {x : Ffn} (hi : l[i]? = some x) : ∃ b o, a = some ⟨b, o, none⟩ ∧ ∃ at' cap, Sl rNd C at' x.body ∧ I64 x.caps ∧
    C b (o + i * 2) (.int .i64 x.caps) ∧ C b (o + i * 2 + 1) (.slice at' x.body.length cap) ∧ x.body.length ≤ cap := by
  obtain ⟨b, o, ha, hc⟩ := h.at (get_lt hi)
  obtain ⟨cs, ⟨a', cap, rfl, h1, h2, h3⟩, h5⟩ := hc i x hi
  exact ⟨b, o, ha, a', cap, h1, h2, h5 0 _ rfl, h5 1 _ rfl, h3⟩
theorem sl_prm {C : Mem} {a : Option Addr} {l : List (Int × Int)} (h : Sl rPrm C a l) {i : Nat} {x : Int × Int} (hi : l[i]? = some x) : ∃ b o, a = some ⟨b, o, none⟩ ∧ I64 x.1 ∧ I64 x.2 ∧
    C b (o + i * 2) (.int .i64 x.1) ∧ C b (o + i * 2 + 1) (.int .i64 x.2) := by
  obtain ⟨b, o, ha, hc⟩ := h.at (get_lt hi)
  obtain ⟨cs, ⟨rfl, h1, h2⟩, h5⟩ := hc i x hi
  exact ⟨b, o, ha, h1, h2, h5 0 _ rfl, h5 1 _ rfl⟩

/-- part of a slice -/
theorem _root_.Go.Wx.Sl.drop {α : Type} {R : Rd α} {C : Mem} {b o : Nat} {l : List α} (h : Sl R C (some ⟨b, o, none⟩) l) (k : Nat) : Sl R C (some ⟨b, o + k * R.sz, none⟩) (l.drop k) := by
  refine ⟨by have := h.1; rw [List.length_drop]; omega, ?_⟩
  rcases h.2 with h0 | ⟨b', o', e, hc⟩
  · left; rw [List.length_drop]; omega
  · have e := Option.some.inj e
    injection e with e1 e2
    subst e1 e2
    refine .inr ⟨_, _, rfl, fun i x hi => ?_⟩
    rw [List.getElem?_drop] at hi
    have := hc _ _ hi
    rwa [Nat.add_mul, ← Nat.add_assoc] at this
theorem _root_.Go.Wx.Sl.take {α : Type} {R : Rd α} {C : Mem} {a : Option Addr} {l : List α} (h : Sl R C a l) (k : Nat) : Sl R C a (l.take k) := by
  refine ⟨by have := h.1; simp; omega, ?_⟩
  rcases h.2 with h0 | ⟨b', o', e, hc⟩
  · left; rw [List.length_take]; omega
  · refine .inr ⟨b', o', e, fun i x hi => ?_⟩
    rw [List.getElem?_take] at hi
    split at hi
    · exact hc _ _ hi
    · cases hi

/-! ### flat rows: which may be -/
def Nd.zero (n : Nd) : Bool := decide (n.a = 0) && decide (n.b = 0)

/-- how many kids a node of a flat row has, where so many places are taken -/
def ndF (p : Flt) (tk : Int) (n : Nd) : Option Int :=
  if n.op = 61 then (if inM n.a 0 (tk - 1) && decide (n.b = 0) then some 0 else none)
  else if n.op = 62 then (if n.zero then some 0 else none)
  else if n.op = 63 then (if inM n.a 0 1048576 && decide (n.b = 0) then some 0 else none)
  else if n.op = 64 then (if inM n.a 0 (p.bodies.length - 1) && decide (0 < ((p.bodies[n.a.toNat]?).getD []).length) && decide (n.b = 0) then some 0 else none)
  else if n.op = 65 then (if inM n.a 0 (p.funs.length - 1) && decide (some n.b = (p.funs[n.a.toNat]?).map Ffn.caps) then some n.b else none)
  else if n.op = 66 then (if n.zero then some 2 else none)
  else if n.op = 67 then (if n.zero then some 2 else none)
  else if n.op = 68 then (if inM n.a 0 1023 && inM n.b 0 16 then some n.b else none)
  else if n.op = 69 then (if inM n.a 0 63 && inM n.b 0 16 then some (1 + n.b) else none)
  else if n.op = 70 then (if inM n.a 0 16 && decide (n.b = 0) then some 1 else none)
  else if n.op = 71 then (if n.zero then some 1 else none)
  else if n.op = 72 then (if n.zero then some 3 else none)
  else if n.op = 73 then (if inM n.a 1 3 && decide (n.b = 0) then some 2 else none)
  else none

def cntF (p : Flt) (s : Int × Bool) (n : Nd) : Option Nat := if decide (n.op = 70) = s.2 then (ndF p s.1 n).map Int.toNat else none
def moreF (n : Nd) (k : Nat) : Int := if n.op = 67 ∧ k = 1 ∨ n.op = 72 ∧ k = 2 then 1 else if n.op = 70 then n.a else 0
def nxF (s : Int × Bool) (n : Nd) (k : Nat) : Int × Bool := (s.1 + moreF n k, decide (n.op = 69) && decide (0 < k))

def CapsOk (p : Flt) : Prop := ∀ f ∈ p.funs, 0 ≤ f.caps ∧ f.caps ≤ 255

theorem of_ite {α : Type} {c : Prop} [Decidable c] {x y : Option α} {v : α} (h : (if c then x else y) = some v) : (c ∧ x = some v) ∨ (¬ c ∧ y = some v) := by
  by_cases hc : c
  · exact .inl ⟨hc, by rwa [if_pos hc] at h⟩
  · exact .inr ⟨hc, by rwa [if_neg hc] at h⟩
theorem of_opt {α : Type} {c : Prop} [Decidable c] {x v : α} (h : (if c then some x else none) = some v) : c ∧ x = v := by
  rcases of_ite h with ⟨h1, h2⟩ | ⟨_, h2⟩
  · exact ⟨h1, Option.some.inj h2⟩
  · cases h2
theorem ndF_bd {p : Flt} (hp : CapsOk p) {tk : Int} {n : Nd} {c : Int} (h : ndF p tk n = some c) : 0 ≤ c ∧ c ≤ 255 := by
  unfold ndF at h
  rcases of_ite h with ⟨_, h⟩ | ⟨_, h⟩
  · obtain ⟨hb, rfl⟩ := of_opt h
    omega
  rcases of_ite h with ⟨_, h⟩ | ⟨_, h⟩
  · obtain ⟨hb, rfl⟩ := of_opt h
    omega
  rcases of_ite h with ⟨_, h⟩ | ⟨_, h⟩
  · obtain ⟨hb, rfl⟩ := of_opt h
    omega
  rcases of_ite h with ⟨_, h⟩ | ⟨_, h⟩
  · obtain ⟨hb, rfl⟩ := of_opt h
    omega
  rcases of_ite h with ⟨_, h⟩ | ⟨_, h⟩
  · obtain ⟨hb, rfl⟩ := of_opt h
    simp only [Bool.and_eq_true, decide_eq_true_eq] at hb
    cases hf : p.funs[n.a.toNat]? with
    | none => rw [hf] at hb; simp at hb
    | some f =>
      rw [hf] at hb
      have := hp f (List.mem_of_getElem? hf)
      have h2 := hb.2
      simp at h2
      omega
  rcases of_ite h with ⟨_, h⟩ | ⟨_, h⟩
  · obtain ⟨hb, rfl⟩ := of_opt h
    omega
  rcases of_ite h with ⟨_, h⟩ | ⟨_, h⟩
  · obtain ⟨hb, rfl⟩ := of_opt h
    omega
  rcases of_ite h with ⟨_, h⟩ | ⟨_, h⟩
  · obtain ⟨hb, rfl⟩ := of_opt h
    simp [inM] at hb
    omega
  rcases of_ite h with ⟨_, h⟩ | ⟨_, h⟩
  · obtain ⟨hb, rfl⟩ := of_opt h
    simp [inM] at hb
    omega
  rcases of_ite h with ⟨_, h⟩ | ⟨_, h⟩
  · obtain ⟨hb, rfl⟩ := of_opt h
    omega
  rcases of_ite h with ⟨_, h⟩ | ⟨_, h⟩
  · obtain ⟨hb, rfl⟩ := of_opt h
    omega
  rcases of_ite h with ⟨_, h⟩ | ⟨_, h⟩
  · obtain ⟨hb, rfl⟩ := of_opt h
    omega
  rcases of_ite h with ⟨_, h⟩ | ⟨_, h⟩
  · obtain ⟨hb, rfl⟩ := of_opt h
    omega
  cases h
theorem moreF_bd {p : Flt} {tk : Int} {n : Nd} {c : Int} (h : ndF p tk n = some c) (k : Nat) : 0 ≤ moreF n k ∧ moreF n k ≤ 16 := by
  unfold moreF
  split
  · omega
  split
  · rename_i h70
    unfold ndF at h
    simp only [h70] at h
    simp [inM] at h
    omega
  · omega

def wholeF (p : Flt) (t : List Nd) (tk : Int) : Bool := decide (t.length ≤ 16384) && (treeOf (cnt := cntF p) (nx := nxF) (tk, false) t).isSome
def rightF (p : Flt) : Int :=
  if 4096 < p.funs.length ∨ 64 < p.bodies.length then 5
  else if p.funs.any (fun f => !inM f.caps 0 255) then 5
  else if p.funs.all (fun f => wholeF p f.body (f.caps + 1)) = false then 8
  else if p.bodies.all (fun b => decide (b.length = 0) || wholeF p b 0) = false then 8
  else if wholeF p p.main 0 = false then 8
  else 0

/-! ### rows without types: which may be -/
def ndB (n : Nd) : Option Int :=
  if n.op = 21 then (if inM n.a 0 1048576 && decide (n.b = 0) then some 0 else none)
  else if n.op = 22 then (if n.zero then some 0 else none)
  else if n.op = 23 then (if n.zero then some 1 else none)
  else if n.op = 24 then (if n.zero then some 2 else none)
  else if n.op = 25 then (if n.zero then some 2 else none)
  else if n.op = 26 then (if inM n.a 0 63 && decide (n.b = 0) then some 0 else none)
  else if n.op = 27 then (if inM n.a 0 63 && inM n.b 0 15 then some 0 else none)
  else if n.op = 28 then (if inM n.a 0 63 && inM n.b 0 16 then some (1 + n.b) else none)
  else if n.op = 29 then (if inM n.b 1 4 && inM n.a 0 (n.b - 1) then some n.b else none)
  else none
def cntB (_ : Unit) (n : Nd) : Option Nat := (ndB n).map Int.toNat
def nxB (_ : Unit) (_ : Nd) (_ : Nat) : Unit := ()
def bndB (n : Nd) (k : Nat) : Int := if n.op = 23 ∨ n.op = 25 ∧ k = 1 then 1 else if n.op = 29 then n.b else 0
theorem ndB_bd {n : Nd} {c : Int} (h : ndB n = some c) : 0 ≤ c ∧ c ≤ 17 := by
  unfold ndB at h
  rcases of_ite h with ⟨_, h⟩ | ⟨_, h⟩
  · obtain ⟨hb, rfl⟩ := of_opt h
    omega
  rcases of_ite h with ⟨_, h⟩ | ⟨_, h⟩
  · obtain ⟨hb, rfl⟩ := of_opt h
    omega
  rcases of_ite h with ⟨_, h⟩ | ⟨_, h⟩
  · obtain ⟨hb, rfl⟩ := of_opt h
    omega
  rcases of_ite h with ⟨_, h⟩ | ⟨_, h⟩
  · obtain ⟨hb, rfl⟩ := of_opt h
    omega
  rcases of_ite h with ⟨_, h⟩ | ⟨_, h⟩
  · obtain ⟨hb, rfl⟩ := of_opt h
    omega
  rcases of_ite h with ⟨_, h⟩ | ⟨_, h⟩
  · obtain ⟨hb, rfl⟩ := of_opt h
    omega
  rcases of_ite h with ⟨_, h⟩ | ⟨_, h⟩
  · obtain ⟨hb, rfl⟩ := of_opt h
    omega
  rcases of_ite h with ⟨_, h⟩ | ⟨_, h⟩
  · obtain ⟨hb, rfl⟩ := of_opt h
    simp [inM] at hb
    omega
  rcases of_ite h with ⟨_, h⟩ | ⟨_, h⟩
  · obtain ⟨hb, rfl⟩ := of_opt h
    simp [inM] at hb
    omega
  cases h
theorem bndB_bd {n : Nd} {c : Int} (h : ndB n = some c) (k : Nat) : 0 ≤ bndB n k ∧ bndB n k ≤ 4 := by
  unfold bndB
  split
  · omega
  split
  · rename_i h29
    unfold ndB at h
    simp only [h29] at h
    simp [inM] at h
    omega
  · omega

def treeB (t : List Nd) : Option Tr := treeOf (cnt := cntB) (nx := nxB) () t
mutual
/-- a test of each node, with the binders around it -/
def allT (g : Nd → Int → Bool) : Tr → Int → Bool
  | .mk n ks, ar => g n ar && allL g ks n ar 0
def allL (g : Nd → Int → Bool) : List Tr → Nd → Int → Nat → Bool
  | [], _, _, _ => true
  | x :: r, n, ar, k => allT g x (ar + bndB n k) && allL g r n ar (k + 1)
end
def shapeB (t : List Nd) : Int := if 4096 < t.length then 9 else if (treeB t).isSome then 0 else 8
def freeB (b : Int) (n : Nd) (ar : Int) : Bool := decide (n.op ≠ 21) || decide (n.a - ar < b)
/-- does a node name what is there, among the first known entries? -/
def nameB (p : Brd) (known : Int) (n : Nd) : Bool :=
  (if n.op = 26 then decide (n.a < known) && decide (0 < ((p.bodies[n.a.toNat]?).getD []).length) else true) &&
  ((if n.op = 27 ∨ n.op = 28 then decide (n.a < known) && decide (((p.bodies[n.a.toNat]?).getD []).length = 0) else true) &&
  (if n.op = 27 then decide (n.b < (((p.shapes[n.a.toNat]?).map Shp.kept).getD []).length) else true))
def thereB (p : Brd) (known : Int) (t : List Nd) : Bool := decide (t.length ≤ 4096) && match treeB t with
  | some x => allT (freeB 0) x 0 && t.all (nameB p known)
  | none => false
def entB (p : Brd) (i : Nat) (b : List Nd) (s : Shp) : Bool := shpOk s && (decide (b.length = 0) || (decide (s.params = 0) && (decide (s.kept.length = 0) && thereB p i b)))
def entsB (p : Brd) : Nat → List (List Nd) → List Shp → Bool
  | i, b :: bs, s :: ss => entB p i b s && entsB p (i + 1) bs ss
  | _, _, _ => true
def primB (p : Brd) (x : Int × Int) : Bool := decide (0 ≤ x.1) && decide (x.1 < p.bodies.length) && decide (0 < ((p.bodies[x.1.toNat]?).getD []).length) && inM x.2 1 3
def primsB (p : Brd) : Nat → List (Int × Int) → Bool
  | _, [] => true
  | i, x :: r => primB p x && (!(p.prims.take i).any (fun y => decide (y.1 = x.1) || decide (y.2 = x.2)) && primsB p (i + 1) r)
def regB (p : Brd) : Bool := if p.nat = -1 then decide (p.prims.length = 0) else natOk p.bodies p.shapes p.nat && primsB p 0 p.prims
def rightB (p : Brd) : Int :=
  if 64 < p.bodies.length ∨ 64 < p.shapes.length then 5
  else if p.bodies.length ≠ p.shapes.length then 8
  else if entsB p 0 p.bodies p.shapes = false then 8
  else if thereB p p.bodies.length p.main = false then 8
  else if regB p = false then 22
  else 0
end Cd

/-
  Package emit, in plain Lean: the instructions of a flat row.
-/
set_option linter.unusedVariables false
namespace Cd
open Go Go.Wx

/-- the row of places from h on -/
def rng (h : Int) (m : Nat) : List Int := (List.range m).map fun (i : Nat) => h + i
def ins0 (op a b : Int) : Ins := ⟨op, a, b, []⟩
def doneOp (op : Int) : Int :=
  if op = 62 then 1 else if op = 63 then 2 else if op = 64 then 7 else if op = 65 then 4 else if op = 66 then 5 else if op = 68 then 8 else if op = 71 then 10 else if op = 73 then 12 else 0
def slides (m : Int) : List Ins := if 0 < m then [ins0 14 m 0] else []

/-! how many instructions there are -/
mutual
def glen : Tr → Nat
  | .mk n ks => if n.op = 61 then 1 else if n.op = 67 then glens ks + 1 else if n.op = 72 then glens ks + 3 else if n.op = 69 then glens ks + (ks.length - 1) else if n.op = 70 then glens ks + (slides n.a).length else glens ks + 1
def glens : List Tr → Nat
  | [] => 0
  | x :: r => glen x + glens r
end
/-- where the arms of a switch begin, and how much they bind -/
def armsTo : List Tr → Nat → List Int
  | [], _ => []
  | x :: r, b => (b : Int) :: x.n.a :: armsTo r (b + glen x + 1)
/-- how much the arms take, with what leads out of them -/
def armsLen : List Tr → Nat
  | [] => 0
  | x :: r => glen x + (if r.isEmpty then 0 else 1) + armsLen r

def underG (m : Int) (g : Int → List Int → Nat → List Ins) (h : Int) (ps : List Int) (b : Nat) : List Ins := g (h + m) (ps ++ rng h m.toNat) b ++ slides m

mutual
/-- the instructions of a row at a height, with the places, from an instruction's number on -/
def gen : Tr → Int → List Int → Nat → List Ins
  | .mk n ks, h, ps, b =>
    if n.op = 61 then [ins0 3 (ps.getD n.a.toNat 0) 0]
    else if n.op = 67 then genLet ks h ps b
    else if n.op = 72 then genPeel ks h ps b
    else if n.op = 69 then genSw n ks h ps b
    else if n.op = 70 then genArm n ks h ps b
    else genAll ks h ps b ++ [ins0 (doneOp n.op) n.a n.b]
def genAll : List Tr → Int → List Int → Nat → List Ins
  | [], _, _, _ => []
  | x :: r, h, ps, b => gen x h ps b ++ genAll r (h + 1) ps (b + (gen x h ps b).length)
def genLet : List Tr → Int → List Int → Nat → List Ins
  | [v, x], h, ps, b => gen v h ps b ++ underG 1 (gen x) h ps (b + (gen v h ps b).length)
  | _, _, _, _ => []
def genPeel : List Tr → Int → List Int → Nat → List Ins
  | [v, z, s], h, ps, b =>
    gen v h ps b ++
    ⟨11, 0, 0, [((b + glen v + 1 + (glen s + 1) + 1 : Nat) : Int)]⟩ :: (underG 1 (gen s) h ps (b + glen v + 1) ++
    ⟨13, 0, 0, [((b + glen v + 1 + (glen s + 1) + 1 + glen z : Nat) : Int)]⟩ :: gen z h ps (b + glen v + 1 + (glen s + 1) + 1))
  | _, _, _, _ => []
def genSw (n : Nd) : List Tr → Int → List Int → Nat → List Ins
  | [], _, _, _ => []
  | v :: arms, h, ps, b =>
    gen v h ps b ++ (if arms.isEmpty then [] else ⟨9, n.a, n.b, armsTo arms (b + glen v + 1)⟩ :: genArms arms h ps (b + glen v + 1) [((b + glen v + 1 + armsLen arms : Nat) : Int)])
def genArms : List Tr → Int → List Int → Nat → List Int → List Ins
  | [], _, _, _, _ => []
  | x :: r, h, ps, b, e => gen x h ps b ++ ((if r.isEmpty then [] else [⟨13, 0, 0, e⟩]) ++ genArms r h ps (b + glen x + 1) e)
def genArm (n : Nd) : List Tr → Int → List Int → Nat → List Ins
  | [x], h, ps, b => underG n.a (gen x) h ps b
  | _, _, _, _ => []
end

/-! ### of right rows -/
section
variable {p : Flt}
/-- a right node's kids are as many as its Op says -/
theorem ok_ndF {n : Nd} {ks : List Tr} {s : Int × Bool} (h : okT (cntF p) nxF (.mk n ks) s) : decide (n.op = 70) = s.2 ∧ ∃ c, ndF p s.1 n = some c ∧ c.toNat = ks.length := by
  obtain ⟨h1, _⟩ := h
  unfold cntF at h1
  split at h1
  · rename_i hd
    cases hq : ndF p s.1 n with
    | none => rw [hq] at h1; cases h1
    | some c => rw [hq] at h1; exact ⟨hd, c, rfl, Option.some.inj h1⟩
  · cases h1
theorem ndF_op {tk : Int} {n : Nd} {c : Int} (h : ndF p tk n = some c) : n.op = 61 ∨ n.op = 62 ∨ n.op = 63 ∨ n.op = 64 ∨ n.op = 65 ∨ n.op = 66 ∨ n.op = 67 ∨ n.op = 68 ∨ n.op = 69 ∨ n.op = 70 ∨ n.op = 71 ∨ n.op = 72 ∨ n.op = 73 := by
  unfold ndF at h
  iterate 13
    rcases of_ite h with ⟨o, _⟩ | ⟨_, h⟩
    · simp [o]
  cases h
theorem ok_let {n : Nd} {ks : List Tr} {s : Int × Bool} (h : okT (cntF p) nxF (.mk n ks) s) (o : n.op = 67) : ∃ v x, ks = [v, x] ∧ okT (cntF p) nxF v (s.1, false) ∧ okT (cntF p) nxF x (s.1 + 1, false) := by
  obtain ⟨_, c, hc, hl⟩ := ok_ndF h
  have : c = 2 := by unfold ndF at hc; simp [o] at hc; exact hc.2.symm
  subst this
  match ks, hl, h with
  | [v, x], _, ⟨_, h1, h2, _⟩ =>
    refine ⟨v, x, rfl, ?_, ?_⟩
    · have e : nxF s n 0 = (s.1, false) := by simp [nxF, moreF, o]
      rwa [e] at h1
    · have e : nxF s n (0 + 1) = (s.1 + 1, false) := by simp [nxF, moreF, o]
      rwa [e] at h2
theorem ok_peel {n : Nd} {ks : List Tr} {s : Int × Bool} (h : okT (cntF p) nxF (.mk n ks) s) (o : n.op = 72) : ∃ v z x, ks = [v, z, x] ∧ okT (cntF p) nxF v (s.1, false) ∧ okT (cntF p) nxF z (s.1, false) ∧ okT (cntF p) nxF x (s.1 + 1, false) := by
  obtain ⟨_, c, hc, hl⟩ := ok_ndF h
  have : c = 3 := by unfold ndF at hc; simp [o] at hc; exact hc.2.symm
  subst this
  match ks, hl, h with
  | [v, z, x], _, ⟨_, h1, h2, h3, _⟩ =>
    refine ⟨v, z, x, rfl, ?_, ?_, ?_⟩
    · have e : nxF s n 0 = (s.1, false) := by simp [nxF, moreF, o]
      rwa [e] at h1
    · have e : nxF s n (0 + 1) = (s.1, false) := by simp [nxF, moreF, o]
      rwa [e] at h2
    · have e : nxF s n (0 + 1 + 1) = (s.1 + 1, false) := by simp [nxF, moreF, o]
      rwa [e] at h3
theorem ok_arm {n : Nd} {ks : List Tr} {s : Int × Bool} (h : okT (cntF p) nxF (.mk n ks) s) (o : n.op = 70) : ∃ x, ks = [x] ∧ 0 ≤ n.a ∧ n.a ≤ 16 ∧ okT (cntF p) nxF x (s.1 + n.a, false) := by
  obtain ⟨_, c, hc, hl⟩ := ok_ndF h
  have hc2 : 0 ≤ n.a ∧ n.a ≤ 16 ∧ c = 1 := by unfold ndF at hc; simp [o, inM] at hc; omega
  obtain ⟨h3, h4, rfl⟩ := hc2
  match ks, hl, h with
  | [x], _, ⟨_, h1, _⟩ =>
    refine ⟨x, rfl, h3, h4, ?_⟩
    have e : nxF s n 0 = (s.1 + n.a, false) := by simp [nxF, moreF, o]
    rwa [e] at h1
theorem ok_sw {n : Nd} {ks : List Tr} {s : Int × Bool} (h : okT (cntF p) nxF (.mk n ks) s) (o : n.op = 69) : ∃ v arms, ks = v :: arms ∧ (arms.length : Int) = n.b ∧ okT (cntF p) nxF v (s.1, false) ∧ (∀ x ∈ arms, okT (cntF p) nxF x (s.1, true)) := by
  obtain ⟨_, c, hc, hl⟩ := ok_ndF h
  have hc2 : 0 ≤ n.b ∧ n.b ≤ 16 ∧ c = 1 + n.b := by unfold ndF at hc; simp [o, inM] at hc; omega
  obtain ⟨h3, h4, rfl⟩ := hc2
  have key : ∀ (l : List Tr) (k : Nat), okL (cntF p) nxF l n s (k + 1) → ∀ x ∈ l, okT (cntF p) nxF x (s.1, true) := by
    intro l
    induction l with
    | nil => intro k _ x hx; cases hx
    | cons y r ih =>
      intro k ⟨h1, h2⟩ x hx
      have e : nxF s n (k + 1) = (s.1, true) := by simp [nxF, moreF, o]
      rw [e] at h1
      rcases List.mem_cons.1 hx with rfl | hx
      · exact h1
      · exact ih (k + 1) h2 x hx
  match ks, hl, h with
  | [], hl, _ => simp at hl; omega
  | v :: arms, hl, ⟨_, h1, h2⟩ =>
    refine ⟨v, arms, rfl, by simp only [List.length_cons] at hl; omega, ?_, key arms 0 h2⟩
    have e : nxF s n 0 = (s.1, false) := by simp [nxF, moreF, o]
    rwa [e] at h1
/-- the other nodes: all kids stand as the node does -/
theorem ok_all {n : Nd} {ks : List Tr} {s : Int × Bool} (h : okT (cntF p) nxF (.mk n ks) s) (o1 : n.op ≠ 67) (o2 : n.op ≠ 72) (o3 : n.op ≠ 69) (o4 : n.op ≠ 70) : ∀ x ∈ ks, okT (cntF p) nxF x (s.1, false) := by
  have key : ∀ (l : List Tr) (k : Nat), okL (cntF p) nxF l n s k → ∀ x ∈ l, okT (cntF p) nxF x (s.1, false) := by
    intro l
    induction l with
    | nil => intro k _ x hx; cases hx
    | cons y r ih =>
      intro k ⟨h1, h2⟩ x hx
      have e : nxF s n k = (s.1, false) := by simp [nxF, moreF, o1, o2, o3, o4]
      rw [e] at h1
      rcases List.mem_cons.1 hx with rfl | hx
      · exact h1
      · exact ih (k + 1) h2 x hx
  exact key ks 0 h.2

theorem glens_app : ∀ (l m : List Tr), glens (l ++ m) = glens l + glens m
  | [], m => by simp [glens]
  | x :: r, m => by simp only [List.cons_append, glens, glens_app r m]; omega
theorem armsLen_eq : ∀ (l : List Tr), armsLen l = glens l + (l.length - 1)
  | [] => rfl
  | [x] => by simp [armsLen, glens]
  | x :: y :: r => by
    have := armsLen_eq (y :: r)
    simp only [armsLen, glens, List.length_cons, List.isEmpty_cons] at this ⊢
    simp only [Bool.false_eq_true, if_false]
    omega

mutual
theorem gen_len : ∀ (x : Tr) (s : Int × Bool), okT (cntF p) nxF x s → ∀ (h : Int) (ps : List Int) (b : Nat), (gen x h ps b).length = glen x
  | .mk n ks, s, hok, h, ps, b => by
    simp only [gen, glen]
    by_cases o1 : n.op = 61
    · rw [if_pos o1, if_pos o1]; rfl
    rw [if_neg o1, if_neg o1]
    by_cases o2 : n.op = 67
    · rw [if_pos o2, if_pos o2]
      obtain ⟨v, x, rfl, h1, h2⟩ := ok_let hok o2
      have e1 := gen_len v _ h1
      have e2 := gen_len x _ h2
      simp [genLet, glens, underG, slides, e1, e2]
      omega
    rw [if_neg o2, if_neg o2]
    by_cases o3 : n.op = 72
    · rw [if_pos o3, if_pos o3]
      obtain ⟨v, z, x, rfl, h1, h2, h3⟩ := ok_peel hok o3
      have e1 := gen_len v _ h1
      have e2 := gen_len z _ h2
      have e3 := gen_len x _ h3
      simp [genPeel, glens, underG, slides, e1, e2, e3]
      omega
    rw [if_neg o3, if_neg o3]
    by_cases o4 : n.op = 69
    · rw [if_pos o4, if_pos o4]
      obtain ⟨v, arms, rfl, hb, h1, h2⟩ := ok_sw hok o4
      have e1 := gen_len v _ h1
      have e2 := genArms_len arms s.1 h2
      cases arms with
      | nil => simp [genSw, glens, e1]
      | cons y r =>
        simp only [genSw, List.isEmpty_cons, Bool.false_eq_true, if_false, List.length_append, List.length_cons, e1, e2, glens, armsLen_eq]
        omega
    rw [if_neg o4, if_neg o4]
    by_cases o5 : n.op = 70
    · rw [if_pos o5, if_pos o5]
      obtain ⟨x, rfl, _, _, h1⟩ := ok_arm hok o5
      have e1 := gen_len x _ h1
      simp [genArm, glens, underG, e1]
    rw [if_neg o5, if_neg o5]
    have e1 := genAll_len ks s.1 (ok_all hok o2 o3 o4 o5)
    simp [e1]
theorem genAll_len : ∀ (l : List Tr) (tk : Int), (∀ x ∈ l, okT (cntF p) nxF x (tk, false)) → ∀ (h : Int) (ps : List Int) (b : Nat), (genAll l h ps b).length = glens l
  | [], _, _, _, _, _ => rfl
  | x :: r, tk, hok, h, ps, b => by
    have e1 := gen_len x _ (hok x (by simp))
    have e2 := genAll_len r tk (fun y hy => hok y (by simp [hy]))
    simp [genAll, glens, e1, e2]
theorem genArms_len : ∀ (l : List Tr) (tk : Int), (∀ x ∈ l, okT (cntF p) nxF x (tk, true)) → ∀ (h : Int) (ps : List Int) (b : Nat) (e : List Int), (genArms l h ps b e).length = armsLen l
  | [], _, _, _, _, _, _ => rfl
  | x :: r, tk, hok, h, ps, b, e => by
    have e1 := gen_len x _ (hok x (by simp))
    have e2 := genArms_len r tk (fun y hy => hok y (by simp [hy]))
    cases r with
    | nil => simp [genArms, armsLen, e1]
    | cons y r =>
      have e3 : genArms (x :: y :: r) h ps b e = gen x h ps b ++ ([⟨13, 0, 0, e⟩] ++ genArms (y :: r) h ps (b + glen x + 1) e) := by rw [genArms]; simp
      have e4 : armsLen (x :: y :: r) = glen x + 1 + armsLen (y :: r) := by rw [armsLen]; simp
      rw [e3, e4]
      simp only [List.length_append, e1, e2, List.length_cons, List.length_nil]
      omega
end

/-! ### there are not too many -/
mutual
theorem glen_bd : ∀ (x : Tr) (s : Int × Bool), okT (cntF p) nxF x s → glen x + 1 ≤ 2 * tsize x
  | .mk n ks, s, hok => by
    simp only [glen, tsize]
    have hsl : (slides n.a).length ≤ 1 := by unfold slides; split <;> simp
    by_cases o1 : n.op = 61
    · rw [if_pos o1]; omega
    rw [if_neg o1]
    by_cases o2 : n.op = 67
    · rw [if_pos o2]
      obtain ⟨v, x, rfl, h1, h2⟩ := ok_let hok o2
      have e1 := glen_bd v _ h1
      have e2 := glen_bd x _ h2
      simp only [glens, tsizes] at *
      omega
    rw [if_neg o2]
    by_cases o3 : n.op = 72
    · rw [if_pos o3]
      obtain ⟨v, z, x, rfl, h1, h2, h3⟩ := ok_peel hok o3
      have e1 := glen_bd v _ h1
      have e2 := glen_bd z _ h2
      have e3 := glen_bd x _ h3
      simp only [glens, tsizes] at *
      omega
    rw [if_neg o3]
    by_cases o4 : n.op = 69
    · rw [if_pos o4]
      obtain ⟨v, arms, rfl, hb, h1, h2⟩ := ok_sw hok o4
      have e1 := glen_bd v _ h1
      have e2 := glens_bd arms s.1 true h2
      simp only [glens, tsizes, List.length_cons] at *
      omega
    rw [if_neg o4]
    by_cases o5 : n.op = 70
    · rw [if_pos o5]
      obtain ⟨x, rfl, _, _, h1⟩ := ok_arm hok o5
      have e1 := glen_bd x _ h1
      simp only [glens, tsizes] at *
      omega
    rw [if_neg o5]
    have e1 := glens_bd ks s.1 false (ok_all hok o2 o3 o4 o5)
    omega
theorem glens_bd : ∀ (l : List Tr) (tk : Int) (arm : Bool), (∀ x ∈ l, okT (cntF p) nxF x (tk, arm)) → glens l + l.length ≤ 2 * tsizes l
  | [], _, _, _ => by simp [glens, tsizes]
  | x :: r, tk, arm, hok => by
    have e1 := glen_bd x _ (hok x (by simp))
    have e2 := glens_bd r tk arm (fun y hy => hok y (by simp [hy]))
    simp only [glens, tsizes, List.length_cons] at *
    omega
end

/-! ### moved: what goes on is told from another beginning -/
def sh9 (k : Nat) : List Int → List Int
  | [] => []
  | [t] => [t + k]
  | t :: m :: r => (t + k) :: m :: sh9 k r
def shift (k : Nat) (i : Ins) : Ins := ⟨i.op, i.a, i.b, if i.op = 9 then sh9 k i.to else i.to.map (· + (k : Int))⟩
theorem shift_ins0 (k : Nat) (op a b : Int) : shift k (ins0 op a b) = ins0 op a b := by
  simp [shift, ins0, sh9]
theorem shift_slides (k : Nat) (m : Int) : (slides m).map (shift k) = slides m := by
  unfold slides
  split
  · simp [shift_ins0]
  · rfl
theorem armsTo_sh : ∀ (l : List Tr) (b k : Nat), armsTo l (b + k) = sh9 k (armsTo l b)
  | [], _, _ => rfl
  | x :: r, b, k => by
    simp only [armsTo, sh9]
    rw [← armsTo_sh r (b + glen x + 1) k]
    rw [show b + k + glen x + 1 = b + glen x + 1 + k by omega]
    simp
mutual
theorem gen_sh : ∀ (x : Tr) (s : Int × Bool), okT (cntF p) nxF x s → ∀ (h : Int) (ps : List Int) (b k : Nat), gen x h ps (b + k) = (gen x h ps b).map (shift k)
  | .mk n ks, s, hok, h, ps, b, k => by
    simp only [gen]
    by_cases o1 : n.op = 61
    · rw [if_pos o1, if_pos o1]; simp [shift_ins0]
    rw [if_neg o1, if_neg o1]
    by_cases o2 : n.op = 67
    · rw [if_pos o2, if_pos o2]
      obtain ⟨v, x, rfl, h1, h2⟩ := ok_let hok o2
      simp only [genLet, underG, List.map_append, shift_slides]
      rw [gen_sh v _ h1, List.length_map, ← gen_sh x _ h2, show b + k + (gen v h ps b).length = b + (gen v h ps b).length + k by omega]
    rw [if_neg o2, if_neg o2]
    by_cases o3 : n.op = 72
    · rw [if_pos o3, if_pos o3]
      obtain ⟨v, z, x, rfl, h1, h2, h3⟩ := ok_peel hok o3
      simp only [genPeel, underG, List.map_append, List.map_cons, shift_slides]
      rw [gen_sh v _ h1, ← gen_sh x _ h3, ← gen_sh z _ h2, show b + k + glen v + 1 = b + glen v + 1 + k by omega, show b + glen v + 1 + k + (glen x + 1) + 1 = b + glen v + 1 + (glen x + 1) + 1 + k by omega]
      simp only [shift]
      simp
      omega
    rw [if_neg o3, if_neg o3]
    by_cases o4 : n.op = 69
    · rw [if_pos o4, if_pos o4]
      obtain ⟨v, arms, rfl, hb, h1, h2⟩ := ok_sw hok o4
      simp only [genSw, List.map_append]
      rw [gen_sh v _ h1]
      congr 1
      cases arms with
      | nil => rfl
      | cons y r =>
        simp only [List.isEmpty_cons, Bool.false_eq_true, if_false, List.map_cons]
        have e1 := genArms_sh (y :: r) s.1 h2 h ps (b + glen v + 1) k [((b + glen v + 1 + armsLen (y :: r) : Nat) : Int)]
        rw [show b + k + glen v + 1 = b + glen v + 1 + k by omega, ← e1, armsTo_sh]
        congr 2
        · simp
          omega
    rw [if_neg o4, if_neg o4]
    by_cases o5 : n.op = 70
    · rw [if_pos o5, if_pos o5]
      obtain ⟨x, rfl, _, _, h1⟩ := ok_arm hok o5
      simp only [genArm, underG, List.map_append, shift_slides]
      rw [gen_sh x _ h1]
    rw [if_neg o5, if_neg o5, genAll_sh ks s.1 (ok_all hok o2 o3 o4 o5)]
    simp [shift_ins0]
theorem genAll_sh : ∀ (l : List Tr) (tk : Int), (∀ x ∈ l, okT (cntF p) nxF x (tk, false)) → ∀ (h : Int) (ps : List Int) (b k : Nat), genAll l h ps (b + k) = (genAll l h ps b).map (shift k)
  | [], _, _, _, _, _, _ => rfl
  | x :: r, tk, hok, h, ps, b, k => by
    simp only [genAll, List.map_append]
    rw [gen_sh x _ (hok x (by simp)), List.length_map, ← genAll_sh r tk (fun y hy => hok y (by simp [hy])), show b + k + (gen x h ps b).length = b + (gen x h ps b).length + k by omega]
theorem genArms_sh : ∀ (l : List Tr) (tk : Int), (∀ x ∈ l, okT (cntF p) nxF x (tk, true)) → ∀ (h : Int) (ps : List Int) (b k : Nat) (e : List Int), genArms l h ps (b + k) (e.map (· + (k : Int))) = (genArms l h ps b e).map (shift k)
  | [], _, _, _, _, _, _, _ => rfl
  | x :: r, tk, hok, h, ps, b, k, e => by
    simp only [genArms, List.map_append]
    rw [gen_sh x _ (hok x (by simp)), ← genArms_sh r tk (fun y hy => hok y (by simp [hy])), show b + k + glen x + 1 = b + glen x + 1 + k by omega]
    congr 2
    split <;> simp [shift]
end

/-! ### what leads out of the arms is told at the end -/
def gotoPos : List Tr → Nat → List Nat
  | [], _ => []
  | x :: r, b => if r.isEmpty then [] else (b + glen x) :: gotoPos r (b + glen x + 1)
def addTo (out : List Ins) (i : Nat) (t : Int) : List Ins := match out[i]? with
  | some x => out.set i ⟨x.op, x.a, x.b, x.to ++ [t]⟩
  | none => out
def fillE (e : Int) : List Nat → List Ins → List Ins
  | [], out => out
  | i :: r, out => fillE e r (addTo out i e)
theorem addTo_len (out : List Ins) (i : Nat) (t : Int) : (addTo out i t).length = out.length := by
  unfold addTo
  split <;> simp
theorem addTo_mid (A B : List Ins) (x : Ins) (t : Int) : addTo (A ++ x :: B) A.length t = A ++ ⟨x.op, x.a, x.b, x.to ++ [t]⟩ :: B := by
  unfold addTo
  simp
theorem fillE_arms : ∀ (l : List Tr) (tk : Int), (∀ x ∈ l, okT (cntF p) nxF x (tk, true)) → ∀ (h : Int) (ps : List Int) (A : List Ins) (e : Int), fillE e (gotoPos l A.length) (A ++ genArms l h ps A.length []) = A ++ genArms l h ps A.length [e]
  | [], _, _, _, _, _, _ => rfl
  | [x], tk, hok, h, ps, A, e => by simp [gotoPos, fillE, genArms]
  | x :: y :: r, tk, hok, h, ps, A, e => by
    have e1 := gen_len x _ (hok x (by simp)) h ps A.length
    have g : ∀ e, genArms (x :: y :: r) h ps A.length e = gen x h ps A.length ++ (⟨13, 0, 0, e⟩ :: genArms (y :: r) h ps (A.length + glen x + 1) e) := fun e => by rw [genArms]; simp
    have g2 : gotoPos (x :: y :: r) A.length = (A.length + glen x) :: gotoPos (y :: r) (A.length + glen x + 1) := by rw [gotoPos]; simp
    rw [g, g, g2, fillE, ← List.append_assoc]
    have hA : A.length + glen x = (A ++ gen x h ps A.length).length := by simp [e1]
    rw [hA, addTo_mid, ← hA]
    have ih := fillE_arms (y :: r) tk (fun z hz => hok z (by simp at hz ⊢; right; exact hz)) h ps (A ++ gen x h ps A.length ++ [⟨13, 0, 0, [e]⟩]) e
    have hl : (A ++ gen x h ps A.length ++ [(⟨13, 0, 0, [e]⟩ : Ins)]).length = A.length + glen x + 1 := by simp [e1]; omega
    rw [hl] at ih
    simp only [List.append_assoc, List.cons_append, List.nil_append] at ih ⊢
    exact ih
end
end Cd

