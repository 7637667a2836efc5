/-
  Code: package bare, at rows that are one box.
-/
import Derived.Test.YtjogpbiilokldaaCdF
set_option linter.unusedSimpArgs false
set_option linter.unusedVariables false
namespace Go.Proofs.Ytjogpbiilokldaa
open Go.Wx Cd

/-- a box stands at (b, o) -/
structure Bx (w : World) (b o : Nat) : Prop where
  op : Cl w.heap b o (.int .i64 22)
  a : Cl w.heap b (o + 1) (.int .i64 0)
  b : Cl w.heap b (o + 2) (.int .i64 0)
theorem Bx.kp {w w' : World} {b o : Nat} {X : List Nat} (h : Bx w b o) (k : Kp X w w') (hx : b ∉ X) : Bx w' b o := ⟨h.op.kp k hx, h.a.kp k hx, h.b.kp k hx⟩
theorem Bx.cells {w : World} {b o : Nat} (h : Bx w b o) : ∀ j v, [Value.int .i64 22, .int .i64 0, .int .i64 0][j]? = some v → Cl w.heap b (o + j) v := fun j v hj => by
  match j with
  | 0 => simp at hj; subst hj; exact h.op
  | 1 => simp at hj; subst hj; exact h.a
  | 2 => simp at hj; subst hj; exact h.b
  | j + 3 => simp at hj

theorem kids_box (w : World) : CallOk Try.prog 108 ∧ Calls Try.prog 108 #[.agg #[.int .i64 22, .int .i64 0, .int .i64 0]] w (fun e w' => e = .returned (.int .i64 0) ∧ Kp [] w w') := by
  refine ⟨⟨_, Try.func108, rfl, by decide⟩, ?_⟩
  refine calls_of (args := [_]) 111 [.tmp 2] τok Try.func108 rfl rfl rfl (Nat.le_of_ble_eq_true rfl) ?_
  refine new fun b1 w1 hb1 hB1 hs1 hk1 => ?_
  have hB1 : Bk w1.heap b1 [.int .i64 22, .int .i64 0, .int .i64 0] 65 := hB1
  (repeat first | refine ldC ‹Sub _ _› (by assumption) ?_ | refine ld (Cl.cell (by first | assumption | exact Bk.cl (by assumption) rfl)) ?_ | refine ldK (by first | assumption | exact Bk.cl (by assumption) rfl | exact ‹Sub _ _› _ _ _ (by assumption)) ?_)
  exact ⟨rfl, hk1⟩

theorem end_box {w : World} {b o : Nat} (cap : Nat) (hx : Bx w b o) : CallOk Try.prog 106 ∧ Calls Try.prog 106 #[.slice (some ⟨b, o, none⟩) 1 cap, .int .i64 0] w (fun e w' => e = .returned (.int .i64 1) ∧ Kp [] w w') := by
  refine ⟨⟨_, Try.func106, rfl, by decide⟩, ?_⟩
  refine calls_of (args := [_, _]) 29 [.tmp 4] τok Try.func106 rfl rfl rfl (Nat.le_of_ble_eq_true rfl) ?_
  refine ix 0 rfl (by decide) ?_
  refine ldN [.int .i64 22, .int .i64 0, .int .i64 0] rfl (fun j v hj => by simpa using hx.cells j v hj) ?_
  refine ev_call (kids_box w) ?_
  rintro e w1 ⟨rfl, hk1⟩
  refine int64 (by decide) (by decide) ?_
  refine lp τok (fun _ : Unit => [(1, .int .i64 1), (19, .int .i64 0), (20, .int .i64 0)]) (fun _ w' => Kp [] w w') (fun _ => 0) () rfl ⟨rfl, rfl, rfl, trivial⟩ hk1 ?_
  rintro _ w2 hk2
  exact ⟨rfl, hk2⟩

theorem shape_box {w : World} {b o : Nat} (cap : Nat) (hx : Bx w b o) : CallOk Try.prog 101 ∧ Calls Try.prog 101 #[.slice (some ⟨b, o, none⟩) 1 cap] w (fun e w' => e = .returned (.int .i64 0) ∧ Kp [] w w') := by
  refine ⟨⟨_, Try.func101, rfl, by decide⟩, ?_⟩
  refine calls_of (args := [_]) 11 [.tmp 2] τok Try.func101 rfl rfl rfl (Nat.le_of_ble_eq_true rfl) ?_
  refine ev_call (end_box cap hx) ?_
  rintro e w1 ⟨rfl, hk1⟩
  exact ⟨rfl, hk1⟩

theorem below1_box (around : Int) (v : Value) (w : World) : CallOk Try.prog 103 ∧ Calls Try.prog 103 #[.agg #[.int .i64 22, .int .i64 0, .int .i64 0], .int .i64 around, v] w (fun e w' => e = .returned (.bool true) ∧ Kp [] w w') := by
  refine ⟨⟨_, Try.func103, rfl, by decide⟩, ?_⟩
  refine calls_of (args := [_, _, _]) 18 [.tmp 5] τok Try.func103 rfl rfl rfl (Nat.le_of_ble_eq_true rfl) ?_
  refine new fun b1 w1 hb1 hB1 hs1 hk1 => ?_
  have hB1 : Bk w1.heap b1 [.int .i64 22, .int .i64 0, .int .i64 0] 65 := hB1
  (repeat first | refine ldC ‹Sub _ _› (by assumption) ?_ | refine ld (Cl.cell (by first | assumption | exact Bk.cl (by assumption) rfl)) ?_ | refine ldK (by first | assumption | exact Bk.cl (by assumption) rfl | exact ‹Sub _ _› _ _ _ (by assumption)) ?_)
  exact ⟨rfl, hk1⟩

theorem walk1_box {w : World} {b o cap bt bat bone : Nat} {v : Value} (pt : Value) (hx : Bx w b o) (ht : Cl w.heap bt 0 (.slice (some ⟨b, o, none⟩) 1 cap)) (hat : Bk w.heap bat [.int .i64 0] 3) (hone : Cl w.heap bone 0 (.func (.func 103) #[] #[v])) (hne : bone ≠ bat) :
    CallOk Try.prog 107 ∧ Calls Try.prog 107 #[.int .i64 0, .pointer (some ⟨bt, 0, none⟩), .pointer (some ⟨bat, 0, none⟩), .pointer (some ⟨bone, 0, none⟩), pt] w (fun e w' => e = .returned (.bool true) ∧ Kp [bat] w w') := by
  refine ⟨⟨_, Try.func107, rfl, by decide⟩, ?_⟩
  refine calls_of (args := [_, _, _, _, _]) 34 [.tmp 6] τok Try.func107 rfl rfl rfl (Nat.le_of_ble_eq_true rfl) ?_
  (repeat first | refine ldC ‹Sub _ _› (by assumption) ?_ | refine ld (Cl.cell (by first | assumption | exact Bk.cl (by assumption) rfl)) ?_ | refine ldK (by first | assumption | exact Bk.cl (by assumption) rfl | exact ‹Sub _ _› _ _ _ (by assumption)) ?_)
  refine ix 0 rfl (by decide) ?_
  refine ldN [.int .i64 22, .int .i64 0, .int .i64 0] rfl (fun j v hj => by simpa using hx.cells j v hj) ?_
  refine new fun b1 w1 hb1 hB1 hs1 hk1 => ?_
  refine stN hB1 rfl (by simp [Value.oneCell']) fun w2 hB2 hs2 hk2 => ?_
  have hk12 : Kp [] w w2 := hk1.newSt hb1 hk2
  have hat2 := hat.kp hk12 (by simp)
  have hone2 := hone.kp hk12 (by simp)
  refine ld (hat2.cl rfl).cell ?_
  refine int64 (by decide) (by decide) ?_
  refine st hat2 (by simp) rfl fun w3 hat3 hs3 hk3 => ?_
  have hk13 : Kp [bat] w w3 := (hk12.weak (by simp)).trans hk3 (fun x hx _ => hx)
  have hatl := hat.lt
  have hone3 := hone2.kp hk3 (by simpa using hne)
  have hB3 := hB2.kp hk3 (by simp; omega)
  refine ld hone3.cell ?_
  refine ldN [.int .i64 22, .int .i64 0, .int .i64 0] rfl (fun j v hj => by rw [Nat.zero_add]; exact hB3.cl hj) ?_
  refine ev_call (below1_box 0 v w3) ?_
  rintro e w4 ⟨rfl, hk4⟩
  have hB4 := hB3.kp hk4 (by simp)
  refine ldN [.int .i64 22, .int .i64 0, .int .i64 0] rfl (fun j v hj => by rw [Nat.zero_add]; exact hB4.cl hj) ?_
  refine ev_call (kids_box w4) ?_
  rintro e w5 ⟨rfl, hk5⟩
  have hk15 : Kp [bat] w w5 := (hk13.tr hk4).tr hk5
  refine lp τok (fun _ : Unit => [(21, .int .i64 0), (22, .int .i64 0)]) (fun _ w' => Kp [bat] w w') (fun _ => 0) () rfl ⟨rfl, rfl, trivial⟩ hk15 ?_
  rintro _ w6 hk6
  exact ⟨rfl, hk6⟩

theorem walk_box {w : World} {b o : Nat} (cap : Nat) (v : Value) (hx : Bx w b o) : CallOk Try.prog 102 ∧ Calls Try.prog 102 #[.slice (some ⟨b, o, none⟩) 1 cap, .func (.func 103) #[] #[v]] w (fun e w' => e = .returned (.bool true) ∧ Kp [] w w') := by
  refine ⟨⟨_, Try.func102, rfl, by decide⟩, ?_⟩
  refine calls_of (args := [_, _]) 10 [.tmp 4] τok Try.func102 rfl rfl rfl (Nat.le_of_ble_eq_true rfl) ?_
  refine new fun bt w1 hbt hT hs1 hk1 => ?_
  refine new fun bf w2 hbf hF hs2 hk2 => ?_
  refine new fun ba w3 hba hA hs3 hk3 => ?_
  refine st hA (by simp [zc]) rfl fun w4 hA4 hs4 hk4 => ?_
  refine new fun bm w5 hbm hM hs5 hk5 => ?_
  refine st hM (by simp [zc]) rfl fun w6 hM6 hs6 hk6 => ?_
  have hA5 : Bk w5.heap ba [.int .i64 0] 3 := hA4.kp hk5 (by simp)
  have hA6 := hA5.kp hk6 (by simp; omega)
  have k12 := hk1.tr hk2
  have k14 : Kp [] w2 w4 := hk3.newSt hba hk4
  have k46 : Kp [] w4 w6 := hk5.newSt hbm hk6
  have k16 : Kp [] w1 w6 := (hk2.tr k14).tr k46
  have k26 : Kp [] w2 w6 := k14.tr k46
  have k06 := hk1.tr k16
  refine ld (hM6.cl rfl).cell ?_
  refine ev_call (walk1_box _ (hx.kp k06 (by simp)) ((hT.kp k16 (by simp)).cl rfl) hA6 ((hF.kp k26 (by simp)).cl rfl) (by omega)) ?_
  rintro e w7 ⟨rfl, hk7⟩
  refine ⟨rfl, k06.trans hk7 (fun x hx hl => ?_)⟩
  have := k12.size
  simp at hx
  omega

theorem below_box {w : World} {b o : Nat} (cap : Nat) (hx : Bx w b o) : CallOk Try.prog 89 ∧ Calls Try.prog 89 #[.slice (some ⟨b, o, none⟩) 1 cap, .int .i64 0] w (fun e w' => e = .returned (.bool true) ∧ Kp [] w w') := by
  refine ⟨⟨_, Try.func89, rfl, by decide⟩, ?_⟩
  refine calls_of (args := [_, _]) 13 [.tmp 4] τok Try.func89 rfl rfl rfl (Nat.le_of_ble_eq_true rfl) ?_
  refine new fun b1 w1 hb1 hB1 hs1 hk1 => ?_
  refine ev_call (shape_box cap (hx.kp hk1 (by simp))) ?_
  rintro e w2 ⟨rfl, hk2⟩
  have hk12 := hk1.tr hk2
  refine ev_call (walk_box cap _ (hx.kp hk12 (by simp))) ?_
  rintro e w3 ⟨rfl, hk3⟩
  exact ⟨rfl, hk12.tr hk3⟩

theorem there_box {w : World} {b o : Nat} (cap : Nat) (cs : List Value) (known : Int) (hx : Bx w b o) : CallOk Try.prog 71 ∧ Calls Try.prog 71 #[.agg cs.toArray, .int .i64 known, .slice (some ⟨b, o, none⟩) 1 cap] w (fun e w' => e = .returned (.bool true) ∧ Kp [] w w') := by
  refine ⟨⟨_, Try.func71, rfl, by decide⟩, ?_⟩
  refine calls_of (args := [_, _, _]) 70 [.tmp 6] τok Try.func71 rfl rfl rfl (Nat.le_of_ble_eq_true rfl) ?_
  refine new fun b1 w1 hb1 hB1 hs1 hk1 => ?_
  refine ev_call (below_box cap (hx.kp hk1 (by simp))) ?_
  rintro e w2 ⟨rfl, hk2⟩
  have hk12 := hk1.tr hk2
  refine lp τok (σ := Nat) (fun k => [(1, .int .i64 known), (3, .pointer (some ⟨b1, 0, none⟩)), (13, .slice (some ⟨b, o, none⟩) 1 cap), (14, .int .i64 1), (15, .int .i64 k)]) (fun k w' => Kp [] w w') (fun k => 1 - k) 0 rfl ⟨rfl, rfl, rfl, rfl, rfl, trivial⟩ hk12 ?_
  rintro k w3 hk3
  refine br_dec (fun h => ?_) (fun h => ?_)
  · have h0 : k = 0 := by omega
    subst h0
    have hx3 := hx.kp hk3 (by simp)
    refine ix 0 rfl (by decide) ?_
    refine ldN [.int .i64 22, .int .i64 0, .int .i64 0] rfl (fun j v hj => by simpa using hx3.cells j v hj) ?_
    refine new fun b4 w4 hb4 hB4 hs4 hk4 => ?_
    refine stN hB4 rfl (by simp [Value.oneCell']) fun w5 hB5 hs5 hk5 => ?_
    have hk35 : Kp [] w3 w5 := hk4.newSt hb4 hk5
    (repeat first | refine ldC ‹Sub _ _› (by assumption) ?_ | refine ld (Cl.cell (by first | assumption | exact Bk.cl (by assumption) rfl)) ?_ | refine ldK (by first | assumption | exact Bk.cl (by assumption) rfl | exact ‹Sub _ _› _ _ _ (by assumption)) ?_)
    refine drawR τok (by kernel_rfl) ?_
    intro m
    have hB6 : Bk ({ w5 with drawn := m } : World).heap b4 [.int .i64 22, .int .i64 0, .int .i64 0] 65 := hB5
    refine drawR τok (by kernel_rfl) ?_
    refine ldR (hB6.cl rfl) ?_
    intro m'
    refine int64 (by decide) (by decide) ?_
    exact ⟨1, by decide, rfl, ⟨rfl, rfl, rfl, rfl, rfl, trivial⟩, ((hk3.tr hk35).dr _).dr _⟩
  · exact ⟨rfl, hk3⟩
end Go.Proofs.Ytjogpbiilokldaa
