/-
  Code: the reference's bare terms, at rows that are one box.
-/
import Derived.Test.YtjogpbiilokldaaCdZh
set_option linter.unusedSimpArgs false
set_option linter.unusedVariables false
namespace Go.Proofs.Ytjogpbiilokldaa
open Go.Wx Cd

theorem within15_ct (n lo hi : Int) (w : World) : CallOk Try.prog 55 ∧ Calls Try.prog 55 #[.int .i64 n, .int .i64 lo, .int .i64 hi] w (fun e w' => e = .returned (.bool (inM n lo hi)) ∧ Kp [] w w') := by
  refine ⟨⟨_, Try.func55, rfl, by decide⟩, ?_⟩
  refine calls_of (args := [_, _, _]) 15 [.tmp 6] τok Try.func55 rfl rfl rfl (Nat.le_of_ble_eq_true rfl) ?_
  refine br_dec (fun h => ?_) (fun h => ?_)
  · exact ⟨by simp [one, inM, h], Kp.refl _ _⟩
  · exact ⟨by simp [one, inM, h], Kp.refl _ _⟩

theorem count_box (w : World) : CallOk Try.prog 105 ∧ Calls Try.prog 105 #[.agg #[.int .i64 22, .int .i64 0, .int .i64 0]] w (fun e w' => e = .returned (.tuple #[.int .i64 0, .bool true]) ∧ Kp [] w w') := by
  refine ⟨⟨_, Try.func105, rfl, by decide⟩, ?_⟩
  refine calls_of (args := [_]) 83 [.tmp 2, .tmp 3] τok Try.func105 rfl rfl rfl (Nat.le_of_ble_eq_true rfl) ?_
  refine new fun b1 w1 hb1 hB1 hs1 hk1 => ?_
  have hB1 : Bk w1.heap b1 [.int .i64 22, .int .i64 0, .int .i64 0] 65 := hB1
  (repeat first | refine ldC ‹Sub _ _› (by assumption) ?_ | refine ld (Cl.cell (by first | assumption | exact Bk.cl (by assumption) rfl)) ?_ | refine ldK (by first | assumption | exact Bk.cl (by assumption) rfl | exact ‹Sub _ _› _ _ _ (by assumption)) ?_)
  exact ⟨rfl, hk1⟩

theorem read_box {w : World} {b o : Nat} (cap : Nat) (hx : Bx w b o) : CallOk Try.prog 98 ∧ Calls Try.prog 98 #[.slice (some ⟨b, o, none⟩) 1 cap] w
    (fun e w' => e = .returned (.tuple #[.agg #[.int .i64 22, .int .i64 0, .int .i64 0, .slice none 0 0], .int .i64 1, .bool true]) ∧ Kp [] w w') := by
  refine ⟨⟨_, Try.func98, rfl, by decide⟩, ?_⟩
  refine calls_of (args := [_]) 58 [.cell 2 147, .tmp 3, .tmp 4] τok Try.func98 rfl rfl rfl (Nat.le_of_ble_eq_true rfl) ?_
  refine new fun b2 w1 hb2 hB2 hs1 hk1 => ?_
  have hB2 : Bk w1.heap b2 [.int .i64 0, .int .i64 0, .int .i64 0, .slice none 0 0] 147 := hB2
  have hx1 := hx.kp hk1 (by simp)
  refine ix 0 rfl (by decide) ?_
  refine ldN [.int .i64 22, .int .i64 0, .int .i64 0] rfl (fun j v hj => by simpa using hx1.cells j v hj) ?_
  refine ev_call (count_box w1) ?_
  rintro e w2 ⟨rfl, hk2⟩
  have hx2 := hx1.kp hk2 (by simp)
  have hB2 := hB2.kp hk2 (by simp)
  refine ix 0 rfl (by decide) ?_
  refine ldN [.int .i64 22, .int .i64 0, .int .i64 0] rfl (fun j v hj => by simpa using hx2.cells j v hj) ?_
  refine new fun b7 w3 hb7 hB7 hs3 hk3 => ?_
  refine stN (vs := [.int .i64 22, .int .i64 0, .int .i64 0, .slice none 0 0]) hB7 rfl (by simp [Value.oneCell']) fun w4 hB7 hs4 hk4 => ?_
  have hk24 : Kp [] w2 w4 := hk3.newSt hb7 hk4
  have hB2 := hB2.kp hk24 (by simp)
  have hk04 := (hk1.tr hk2).tr hk24
  refine lp τok (fun _ : Unit => [(2, .pointer (some ⟨b2, 0, none⟩)), (5, .int .i64 0), (7, .pointer (some ⟨b7, 0, none⟩)), (8, .int .i64 1), (9, .int .i64 0)]) (fun _ w' => w' = w4) (fun _ => 0) () rfl ⟨rfl, rfl, rfl, rfl, rfl, trivial⟩ rfl ?_
  rintro _ w5 rfl
  refine ldN [.int .i64 22, .int .i64 0, .int .i64 0, .slice none 0 0] rfl (fun j v hj => by rw [Nat.zero_add]; exact hB7.cl hj) ?_
  refine stN hB2 rfl (by simp [Value.oneCell']) fun w6 hB2 hs6 hk6 => ?_
  refine resN τok rfl [.int .i64 22, .int .i64 0, .int .i64 0, .slice none 0 0] rfl (fun j v hj => hB2.cl hj) ?_
  refine ⟨rfl, hk04.trans hk6 (fun x hx hl => ?_)⟩
  simp at hx
  omega

theorem shape15_box {w : World} {b o : Nat} (cap : Nat) (hx : Bx w b o) : CallOk Try.prog 97 ∧ Calls Try.prog 97 #[.slice (some ⟨b, o, none⟩) 1 cap] w (fun e w' => e = .returned (.int .i64 0) ∧ Kp [] w w') := by
  refine ⟨⟨_, Try.func97, rfl, by decide⟩, ?_⟩
  refine calls_of (args := [_]) 23 [.tmp 2] τok Try.func97 rfl rfl rfl (Nat.le_of_ble_eq_true rfl) ?_
  refine ev_call (read_box cap hx) ?_
  rintro e w1 ⟨rfl, hk1⟩
  refine new fun b3 w2 hb3 hB3 hs2 hk2 => ?_
  refine stN (vs := [.int .i64 22, .int .i64 0, .int .i64 0, .slice none 0 0]) hB3 rfl (by simp [Value.oneCell']) fun w3 hB3 hs3 hk3 => ?_
  exact ⟨rfl, hk1.tr (hk2.newSt hb3 hk3)⟩

theorem of_box {w : World} {b o : Nat} (cap : Nat) (hx : Bx w b o) : CallOk Try.prog 77 ∧ Calls Try.prog 77 #[.slice (some ⟨b, o, none⟩) 1 cap] w
    (fun e w' => e = .returned (.tuple #[.agg #[.int .i64 22, .int .i64 0, .int .i64 0, .slice none 0 0], .bool true]) ∧ Kp [] w w') := by
  refine ⟨⟨_, Try.func77, rfl, by decide⟩, ?_⟩
  refine calls_of (args := [_]) 18 [.cell 2 147, .tmp 3] τok Try.func77 rfl rfl rfl (Nat.le_of_ble_eq_true rfl) ?_
  refine new fun b2 w1 hb2 hB2 hs1 hk1 => ?_
  have hB2 : Bk w1.heap b2 [.int .i64 0, .int .i64 0, .int .i64 0, .slice none 0 0] 147 := hB2
  have hx1 := hx.kp hk1 (by simp)
  refine ev_call (shape15_box cap hx1) ?_
  rintro e w2 ⟨rfl, hk2⟩
  have hx2 := hx1.kp hk2 (by simp)
  have hB2 := hB2.kp hk2 (by simp)
  refine ev_call (read_box cap hx2) ?_
  rintro e w3 ⟨rfl, hk3⟩
  have hB2 := hB2.kp hk3 (by simp)
  refine new fun b4 w4 hb4 hB4 hs4 hk4 => ?_
  refine stN (vs := [.int .i64 22, .int .i64 0, .int .i64 0, .slice none 0 0]) hB4 rfl (by simp [Value.oneCell']) fun w5 hB4 hs5 hk5 => ?_
  have hk35 : Kp [] w3 w5 := hk4.newSt hb4 hk5
  have hB2 := hB2.kp hk35 (by simp)
  have hk05 := ((hk1.tr hk2).tr hk3).tr hk35
  refine ldN [.int .i64 22, .int .i64 0, .int .i64 0, .slice none 0 0] rfl (fun j v hj => by rw [Nat.zero_add]; exact hB4.cl hj) ?_
  refine stN hB2 rfl (by simp [Value.oneCell']) fun w6 hB2 hs6 hk6 => ?_
  refine resN τok rfl [.int .i64 22, .int .i64 0, .int .i64 0, .slice none 0 0] rfl (fun j v hj => hB2.cl hj) ?_
  refine ⟨rfl, hk05.trans hk6 (fun x hx hl => ?_)⟩
  simp at hx
  omega

theorem greatest_box (w : World) : CallOk Try.prog 78 ∧ Calls Try.prog 78 #[.agg #[.int .i64 22, .int .i64 0, .int .i64 0, .slice none 0 0], .int .i64 0] w (fun e w' => e = .returned (.int .i64 (-1)) ∧ Kp [] w w') := by
  refine ⟨⟨_, Try.func78, rfl, by decide⟩, ?_⟩
  refine calls_of (args := [_, _]) 39 [.tmp 4] τok Try.func78 rfl rfl rfl (Nat.le_of_ble_eq_true rfl) ?_
  refine new fun b1 w1 hb1 hB1 hs1 hk1 => ?_
  have hB1 : Bk w1.heap b1 [.int .i64 22, .int .i64 0, .int .i64 0, .slice none 0 0] 147 := hB1
  (repeat first | refine ldC ‹Sub _ _› (by assumption) ?_ | refine ld (Cl.cell (by first | assumption | exact Bk.cl (by assumption) rfl)) ?_ | refine ldK (by first | assumption | exact Bk.cl (by assumption) rfl | exact ‹Sub _ _› _ _ _ (by assumption)) ?_)
  refine lp τok (fun _ : Unit => [(2, .pointer (some ⟨b1, 0, none⟩)), (5, .int .i64 (-1)), (6, .int .i64 0)]) (fun _ w' => w' = w1) (fun _ => 0) () rfl ⟨rfl, rfl, rfl, trivial⟩ rfl ?_
  rintro _ w2 rfl
  (repeat first | refine ldC ‹Sub _ _› (by assumption) ?_ | refine ld (Cl.cell (by first | assumption | exact Bk.cl (by assumption) rfl)) ?_ | refine ldK (by first | assumption | exact Bk.cl (by assumption) rfl | exact ‹Sub _ _› _ _ _ (by assumption)) ?_)
  exact ⟨rfl, hk1⟩

theorem names_box (cs : List Value) (known : Int) (w : World) : CallOk Try.prog 79 ∧ Calls Try.prog 79 #[.agg cs.toArray, .int .i64 known, .agg #[.int .i64 22, .int .i64 0, .int .i64 0, .slice none 0 0]] w (fun e w' => e = .returned (.bool true) ∧ Kp [] w w') := by
  refine ⟨⟨_, Try.func79, rfl, by decide⟩, ?_⟩
  refine calls_of (args := [_, _, _]) 86 [.tmp 6] τok Try.func79 rfl rfl rfl (Nat.le_of_ble_eq_true rfl) ?_
  refine new fun b1 w1 hb1 hB1 hs1 hk1 => ?_
  refine new fun b2 w2 hb2 hB2 hs2 hk2 => ?_
  have hB2 : Bk w2.heap b2 [.int .i64 22, .int .i64 0, .int .i64 0, .slice none 0 0] 147 := hB2
  refine ldN [.int .i64 22, .int .i64 0, .int .i64 0] rfl (fun j v hj => by
    rw [Nat.zero_add]
    match j with
    | 0 | 1 | 2 => exact hB2.cl hj
    | j + 3 => simp at hj) ?_
  refine new fun b3 w3 hb3 hB3 hs3 hk3 => ?_
  refine stN (vs := [.int .i64 22, .int .i64 0, .int .i64 0]) hB3 rfl (by simp [Value.oneCell']) fun w4 hB3 hs4 hk4 => ?_
  have hk24 : Kp [] w2 w4 := hk3.newSt hb3 hk4
  have hB2 := hB2.kp hk24 (by simp)
  have hk04 := (hk1.tr hk2).tr hk24
  (repeat first | refine ldC ‹Sub _ _› (by assumption) ?_ | refine ld (Cl.cell (by first | assumption | exact Bk.cl (by assumption) rfl)) ?_ | refine ldK (by first | assumption | exact Bk.cl (by assumption) rfl | exact ‹Sub _ _› _ _ _ (by assumption)) ?_)
  refine drawR τok (by kernel_rfl) ?_
  refine ldR (hB3.cl rfl) ?_
  intro m
  refine lp τok (fun _ : Unit => [(5, .pointer (some ⟨b2, 0, none⟩)), (8, .int .i64 0)]) (fun _ w' => w' = { w4 with drawn := m }) (fun _ => 0) () rfl ⟨rfl, rfl, trivial⟩ rfl ?_
  rintro _ w5 rfl
  refine ld (Cl.cell (w := { w4 with drawn := m }) (hB2.cl rfl)) ?_
  exact ⟨rfl, hk04.dr _⟩

theorem there15_box {w : World} {b o : Nat} (cap : Nat) (cs : List Value) (hcs : cs.length = 5) (known : Int) (hx : Bx w b o) : CallOk Try.prog 56 ∧ Calls Try.prog 56 #[.agg cs.toArray, .int .i64 known, .slice (some ⟨b, o, none⟩) 1 cap] w (fun e w' => e = .returned (.bool true) ∧ Kp [] w w') := by
  refine ⟨⟨_, Try.func56, rfl, by decide⟩, ?_⟩
  refine calls_of (args := [_, _, _]) 26 [.tmp 6] τok Try.func56 rfl rfl rfl (Nat.le_of_ble_eq_true rfl) ?_
  refine new fun b1 w1 hb1 hB1 hs1 hk1 => ?_
  have hB1 : Bk w1.heap b1 cs 71 := hB1
  refine ev_call (of_box cap (hx.kp hk1 (by simp))) ?_
  rintro e w2 ⟨rfl, hk2⟩
  have hB1 := hB1.kp hk2 (by simp)
  refine new fun b3 w3 hb3 hB3 hs3 hk3 => ?_
  refine stN (vs := [.int .i64 22, .int .i64 0, .int .i64 0, .slice none 0 0]) hB3 rfl (by simp [Value.oneCell']) fun w4 hB3 hs4 hk4 => ?_
  have hk24 : Kp [] w2 w4 := hk3.newSt hb3 hk4
  have hB1 := hB1.kp hk24 (by simp)
  refine ldN [.int .i64 22, .int .i64 0, .int .i64 0, .slice none 0 0] rfl (fun j v hj => by rw [Nat.zero_add]; exact hB3.cl hj) ?_
  refine ev_call (greatest_box w4) ?_
  rintro e w5 ⟨rfl, hk5⟩
  have hB1 := hB1.kp hk5 (by simp)
  have hB3 := hB3.kp hk5 (by simp)
  refine ldN cs hcs (fun j v hj => by rw [Nat.zero_add]; exact hB1.cl hj) ?_
  refine ldN [.int .i64 22, .int .i64 0, .int .i64 0, .slice none 0 0] rfl (fun j v hj => by rw [Nat.zero_add]; exact hB3.cl hj) ?_
  refine ev_call (names_box cs known w5) ?_
  rintro e w6 ⟨rfl, hk6⟩
  exact ⟨rfl, (((hk1.tr hk2).tr hk24).tr hk5).tr hk6⟩
end Go.Proofs.Ytjogpbiilokldaa
