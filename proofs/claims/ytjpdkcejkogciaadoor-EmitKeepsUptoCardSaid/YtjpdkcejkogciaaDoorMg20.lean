/-
  Own texts put together: RcW, RcM, EmX, EmY.
-/
import Derived.Test.YtjpdkcejkogciaaDoorMg19
/-
  Code: the reference's within and Size; long; code and functions opened.
-/
set_option linter.unusedSimpArgs false
set_option linter.unusedVariables false
set_option maxRecDepth 100000
namespace Cd
instance : Inhabited Ins := ⟨⟨0, 0, 0, []⟩⟩
instance : Inhabited Shp := ⟨⟨0, []⟩⟩
instance : Inhabited Cd.Fn := ⟨⟨0, []⟩⟩
end Cd
namespace Go.Proofs.YtjpdkcejkogciaaDoor
open Go.Wx Cd

theorem drop_sum {l : List Nat} {k x : Nat} (h : l[k]? = some x) : (l.drop k).sum = x + (l.drop (k + 1)).sum := by
  have hk := get_lt h
  rw [List.drop_eq_getElem_cons hk]
  have : l[k] = x := by rw [List.getElem?_eq_getElem hk] at h; exact Option.some.inj h
  simp [this]

theorem size20_ct {C : Mem} {w : World} (hS : Sub C w) {cs : List Value} {c : Cod} (hc : rCod.den C cs c) (lid : Nat) (hlid : lid ≤ 1048576) :
    CallOk Tryd.prog 52 ∧ Calls Tryd.prog 52 #[.agg cs.toArray, .int .i64 (lid : Int)] w (fun e w' => ∃ n : Nat, e = .returned (.int .i64 (n : Int)) ∧ n ≤ 2199023255552 ∧ (lid < n ↔ lid < sizeM c) ∧ Kp [] w w') := by
  obtain ⟨a1, c1, a2, c2, a3, c3, a4, c4, rfl, h1, h2, h3, h4, h5⟩ := hc
  have hml := h4.1
  have hfl := h2.1
  have hbl := h3.1
  refine ⟨⟨_, Tryd.func52, rfl, by decide⟩, ?_⟩
  refine calls_of (args := [_, _]) 53 [.tmp 4] τok Tryd.func52 rfl rfl rfl (Nat.le_of_ble_eq_true rfl) ?_
  refine new fun b1 w1 hb1 hB1 hs1 hk1 => ?_
  have hB1 : Bk w1.heap b1 [.int .i64 c.nat, .slice a1 c.shapes.length c1, .slice a2 c.funs.length c2, .slice a3 c.bodies.length c3, .slice a4 c.main.length c4] 41 := hB1
  have hS1 := hS.tr hk1
  refine ld (hB1.cl rfl).cell ?_
  obtain ⟨FL, hFL⟩ : ∃ l, l = c.funs.map fun f => f.code.length := ⟨_, rfl⟩
  obtain ⟨BL, hBL⟩ : ∃ l, l = c.bodies.map List.length := ⟨_, rfl⟩
  have hFl : FL.length = c.funs.length := by rw [hFL]; simp
  have hBl : BL.length = c.bodies.length := by rw [hBL]; simp
  have hsz : sizeM c = c.main.length + FL.sum + BL.sum := by rw [hFL, hBL]; rfl
  refine lp τok (σ := Nat × Nat) (fun q => [(1, .int .i64 (lid : Int)), (2, .pointer (some ⟨b1, 0, none⟩)), (5, .int .i64 q.2), (6, .int .i64 q.1)])
    (fun q w' => q.1 ≤ FL.length ∧ Kp [] w1 w' ∧ q.2 + (FL.drop q.1).sum = c.main.length + FL.sum ∧ q.2 ≤ 2199023255552) (fun q => FL.length - q.1) (0, c.main.length) rfl
    ⟨rfl, rfl, rfl, rfl, trivial⟩ ⟨Nat.zero_le _, Kp.refl _ _, rfl, by simp only; omega⟩ ?_
  rintro ⟨k, n⟩ w2 ⟨hk, hkp, hr, hn⟩
  simp only at hk hr hn
  have hB2 := hB1.kp hkp (by simp)
  have hS2 := hS1.tr hkp
  (repeat first | refine ldC ‹Sub _ _› (by assumption) ?_ | refine ld (Cl.cell (by first | assumption | exact Bk.cl (by assumption) rfl)) ?_ | refine ldK (by first | assumption | exact Bk.cl (by assumption) rfl | exact ‹Sub _ _› _ _ _ (by assumption)) ?_)
  refine br_dec (fun g1 => ?_) (fun g1 => ?_)
  · have hlt : k < c.funs.length := by omega
    refine br_dec (fun g2 => ?_) (fun g2 => ?_)
    · have g2 : (n : Int) ≤ (lid : Int) := g2
      obtain ⟨f, hf, hd⟩ := drop_get hlt
      have hfk : FL[k]? = some f.code.length := by rw [hFL, List.getElem?_map, hf]; rfl
      rw [drop_sum hfk] at hr
      obtain ⟨b, o, rfl, a', cap, hcode, _, hcp, hcc⟩ := sl_fn h2 hf
      have hcl := hcode.1
      (repeat first | refine ldC ‹Sub _ _› (by assumption) ?_ | refine ld (Cl.cell (by first | assumption | exact Bk.cl (by assumption) rfl)) ?_ | refine ldK (by first | assumption | exact Bk.cl (by assumption) rfl | exact ‹Sub _ _› _ _ _ (by assumption)) ?_)
      refine ix k rfl hlt ?_
      (repeat first | refine ldC ‹Sub _ _› (by assumption) ?_ | refine ld (Cl.cell (by first | assumption | exact Bk.cl (by assumption) rfl)) ?_ | refine ldK (by first | assumption | exact Bk.cl (by assumption) rfl | exact ‹Sub _ _› _ _ _ (by assumption)) ?_)
      refine int64 (by simp only; omega) (by simp only; omega) ?_
      refine int64 (by simp only; omega) (by simp only; omega) ?_
      exact ⟨(k + 1, n + f.code.length), by simp only; omega, rfl, ⟨rfl, rfl, rfl, rfl, trivial⟩, by simp only; omega, hkp, by simp only; omega, by simp only; omega⟩
    · have g2 : ¬ (n : Int) ≤ (lid : Int) := g2
      have hle : n + (FL.drop k).sum = c.main.length + FL.sum := hr
      refine lp τok (σ := Nat × Nat) (fun q => [(1, .int .i64 (lid : Int)), (2, .pointer (some ⟨b1, 0, none⟩)), (5, .int .i64 q.2), (7, .int .i64 q.1)])
        (fun q w' => q.1 ≤ BL.length ∧ Kp [] w1 w' ∧ q.2 + (BL.drop q.1).sum ≤ sizeM c ∧ (q.2 + (BL.drop q.1).sum = sizeM c ∨ lid < q.2) ∧ q.2 ≤ 2199023255552) (fun q => BL.length - q.1) (0, n) rfl
        ⟨rfl, rfl, rfl, rfl, trivial⟩ ⟨Nat.zero_le _, hkp, by simp only [List.drop_zero]; omega, by simp only; omega, hn⟩ ?_
      rintro ⟨k, n⟩ w3 ⟨hk, hkp, hr1, hr2, hn⟩
      simp only at hk hr1 hr2 hn
      have hB3 := hB1.kp hkp (by simp)
      have hS3 := hS1.tr hkp
      (repeat first | refine ldC ‹Sub _ _› (by assumption) ?_ | refine ld (Cl.cell (by first | assumption | exact Bk.cl (by assumption) rfl)) ?_ | refine ldK (by first | assumption | exact Bk.cl (by assumption) rfl | exact ‹Sub _ _› _ _ _ (by assumption)) ?_)
      refine br_dec (fun g3 => ?_) (fun g3 => ?_)
      · have hltb : k < c.bodies.length := by have : (k : Int) < c.bodies.length := g3
                                              omega
        refine br_dec (fun g4 => ?_) (fun g4 => ?_)
        · have g4 : (n : Int) ≤ (lid : Int) := g4
          obtain ⟨f, hf, hd⟩ := drop_get hltb
          have hfk : BL[k]? = some f.length := by rw [hBL, List.getElem?_map, hf]; rfl
          rw [drop_sum hfk] at hr1 hr2
          obtain ⟨b, o, rfl, a', cap, hcell, hcode⟩ := h3.sl hf
          have hcl := hcode.1
          (repeat first | refine ldC ‹Sub _ _› (by assumption) ?_ | refine ld (Cl.cell (by first | assumption | exact Bk.cl (by assumption) rfl)) ?_ | refine ldK (by first | assumption | exact Bk.cl (by assumption) rfl | exact ‹Sub _ _› _ _ _ (by assumption)) ?_)
          refine ix k rfl hltb ?_
          (repeat first | refine ldC ‹Sub _ _› (by assumption) ?_ | refine ld (Cl.cell (by first | assumption | exact Bk.cl (by assumption) rfl)) ?_ | refine ldK (by first | assumption | exact Bk.cl (by assumption) rfl | exact ‹Sub _ _› _ _ _ (by assumption)) ?_)
          refine int64 (by simp only; omega) (by simp only; omega) ?_
          refine int64 (by simp only; omega) (by simp only; omega) ?_
          exact ⟨(k + 1, n + f.length), by simp only; omega, rfl, ⟨rfl, rfl, rfl, rfl, trivial⟩, by simp only; omega, hkp, by simp only; omega, by simp only; omega, by simp only; omega⟩
        · have g4 : ¬ (n : Int) ≤ (lid : Int) := g4
          exact ⟨n, rfl, hn, by omega, hk1.tr hkp⟩
      · have g3 : ¬ (k : Int) < c.bodies.length := g3
        have hke : BL.drop k = [] := List.drop_eq_nil_of_le (by omega)
        rw [hke] at hr1 hr2
        simp only [List.sum_nil, Nat.add_zero] at hr1 hr2
        exact ⟨n, rfl, hn, by omega, hk1.tr hkp⟩
  · have hke : FL.drop k = [] := List.drop_eq_nil_of_le (by omega)
    rw [hke] at hr
    have hr : n = c.main.length + FL.sum := by simpa using hr
    refine lp τok (σ := Nat × Nat) (fun q => [(1, .int .i64 (lid : Int)), (2, .pointer (some ⟨b1, 0, none⟩)), (5, .int .i64 q.2), (7, .int .i64 q.1)])
      (fun q w' => q.1 ≤ BL.length ∧ Kp [] w1 w' ∧ q.2 + (BL.drop q.1).sum ≤ sizeM c ∧ (q.2 + (BL.drop q.1).sum = sizeM c ∨ lid < q.2) ∧ q.2 ≤ 2199023255552) (fun q => BL.length - q.1) (0, n) rfl
      ⟨rfl, rfl, rfl, rfl, trivial⟩ ⟨Nat.zero_le _, hkp, by simp only [List.drop_zero]; omega, by simp only [List.drop_zero]; omega, hn⟩ ?_
    rintro ⟨k, n⟩ w3 ⟨hk, hkp, hr1, hr2, hn⟩
    simp only at hk hr1 hr2 hn
    have hB3 := hB1.kp hkp (by simp)
    have hS3 := hS1.tr hkp
    (repeat first | refine ldC ‹Sub _ _› (by assumption) ?_ | refine ld (Cl.cell (by first | assumption | exact Bk.cl (by assumption) rfl)) ?_ | refine ldK (by first | assumption | exact Bk.cl (by assumption) rfl | exact ‹Sub _ _› _ _ _ (by assumption)) ?_)
    refine br_dec (fun g3 => ?_) (fun g3 => ?_)
    · have hltb : k < c.bodies.length := by have : (k : Int) < c.bodies.length := g3
                                            omega
      refine br_dec (fun g4 => ?_) (fun g4 => ?_)
      · have g4 : (n : Int) ≤ (lid : Int) := g4
        obtain ⟨f, hf, hd⟩ := drop_get hltb
        have hfk : BL[k]? = some f.length := by rw [hBL, List.getElem?_map, hf]; rfl
        rw [drop_sum hfk] at hr1 hr2
        obtain ⟨b, o, rfl, a', cap, hcell, hcode⟩ := h3.sl hf
        have hcl := hcode.1
        (repeat first | refine ldC ‹Sub _ _› (by assumption) ?_ | refine ld (Cl.cell (by first | assumption | exact Bk.cl (by assumption) rfl)) ?_ | refine ldK (by first | assumption | exact Bk.cl (by assumption) rfl | exact ‹Sub _ _› _ _ _ (by assumption)) ?_)
        refine ix k rfl hltb ?_
        (repeat first | refine ldC ‹Sub _ _› (by assumption) ?_ | refine ld (Cl.cell (by first | assumption | exact Bk.cl (by assumption) rfl)) ?_ | refine ldK (by first | assumption | exact Bk.cl (by assumption) rfl | exact ‹Sub _ _› _ _ _ (by assumption)) ?_)
        refine int64 (by simp only; omega) (by simp only; omega) ?_
        refine int64 (by simp only; omega) (by simp only; omega) ?_
        exact ⟨(k + 1, n + f.length), by simp only; omega, rfl, ⟨rfl, rfl, rfl, rfl, trivial⟩, by simp only; omega, hkp, by simp only; omega, by simp only; omega, by simp only; omega⟩
      · have g4 : ¬ (n : Int) ≤ (lid : Int) := g4
        exact ⟨n, rfl, hn, by omega, hk1.tr hkp⟩
    · have g3 : ¬ (k : Int) < c.bodies.length := g3
      have hke : BL.drop k = [] := List.drop_eq_nil_of_le (by omega)
      rw [hke] at hr1 hr2
      simp only [List.sum_nil, Nat.add_zero] at hr1 hr2
      exact ⟨n, rfl, hn, by omega, hk1.tr hkp⟩

end Go.Proofs.YtjpdkcejkogciaaDoor

/-
  Code: the reference's Check; CodeChecks.
-/
set_option linter.unusedSimpArgs false
set_option linter.unusedVariables false
namespace Go.Proofs.YtjpdkcejkogciaaDoor
open Go.Wx Cd

theorem check20_ct {C : Mem} {w : World} (hS : Sub C w) {cs : List Value} {c : Cod} (hc : rCod.den C cs c) :
    CallOk Tryd.prog 28 ∧ Calls Tryd.prog 28 #[.agg cs.toArray] w (fun e w' => e = .returned (.int .i64 (checkM c)) ∧ Kp [] w w') := by
  have hc0 := hc
  obtain ⟨a1, c1, a2, c2, a3, c3, a4, c4, rfl, h1, h2, h3, h4, h5⟩ := hc
  obtain ⟨RES, hRES⟩ : ∃ r, checkM c = r := ⟨_, rfl⟩
  rw [hRES]
  refine ⟨⟨_, Tryd.func28, rfl, by decide⟩, ?_⟩
  refine calls_of (args := [_]) 160 [.tmp 2] τok Tryd.func28 rfl rfl rfl (Nat.le_of_ble_eq_true rfl) ?_
  refine new fun b1 w1 hb1 hB1 hs1 hk1 => ?_
  have hB1 : Bk w1.heap b1 [.int .i64 c.nat, .slice a1 c.shapes.length c1, .slice a2 c.funs.length c2, .slice a3 c.bodies.length c3, .slice a4 c.main.length c4] 41 := hB1
  have hS1 := hS.tr hk1
  have ret : ∀ n w', Kp [] w w' → RES = n → Ending.returned (one [.int .i64 n]) = .returned (.int .i64 RES) ∧ Kp [] w w' := fun n w' h e => ⟨by rw [e]; rfl, h⟩
  (repeat first | refine ldC ‹Sub _ _› (by assumption) ?_ | refine ld (Cl.cell (by first | assumption | exact Bk.cl (by assumption) rfl)) ?_ | refine ldK (by first | assumption | exact Bk.cl (by assumption) rfl | exact ‹Sub _ _› _ _ _ (by assumption)) ?_)
  refine br_dec (fun g1 => ?_) (fun g1 => ?_)
  · exact ret _ _ hk1 (by rw [← hRES]; unfold checkM; rw [if_pos (.inl (by omega))])
  (repeat first | refine ldC ‹Sub _ _› (by assumption) ?_ | refine ld (Cl.cell (by first | assumption | exact Bk.cl (by assumption) rfl)) ?_ | refine ldK (by first | assumption | exact Bk.cl (by assumption) rfl | exact ‹Sub _ _› _ _ _ (by assumption)) ?_)
  refine br_dec (fun g2 => ?_) (fun g2 => ?_)
  · exact ret _ _ hk1 (by rw [← hRES]; unfold checkM; rw [if_pos (.inr (.inl (by omega)))])
  (repeat first | refine ldC ‹Sub _ _› (by assumption) ?_ | refine ld (Cl.cell (by first | assumption | exact Bk.cl (by assumption) rfl)) ?_ | refine ldK (by first | assumption | exact Bk.cl (by assumption) rfl | exact ‹Sub _ _› _ _ _ (by assumption)) ?_)
  refine br_dec (fun g3 => ?_) (fun g3 => ?_)
  · exact ret _ _ hk1 (by rw [← hRES]; unfold checkM; rw [if_pos (.inr (.inr (.inl (by omega))))])
  refine ldN [.int .i64 c.nat, .slice a1 c.shapes.length c1, .slice a2 c.funs.length c2, .slice a3 c.bodies.length c3, .slice a4 c.main.length c4] rfl (fun j v hj => by rw [Nat.zero_add]; exact hB1.cl hj) ?_
  refine ev_call (size20_ct hS1 hc0 16384 (by omega)) ?_
  rintro e w2 ⟨n, rfl, hn, hnn, hk2⟩
  have hk12 := hk1.tr hk2
  refine br_dec (fun g4 => ?_) (fun g4 => ?_)
  · exact ret _ _ hk12 (by rw [← hRES]; unfold checkM; rw [if_pos (.inr (.inr (.inr (hnn.1 (by omega)))))])
  have hsz : sizeM c ≤ 16384 := by
    have := mt hnn.2 (by omega)
    omega
  have e1 : RES = if c.funs.any (fun f => !inM f.caps 0 255) then 5 else if rightM (boxes c) c.shapes c.nat = false then 27 else if (blocksM c).1 = false then 27 else if 4096 < (blocksM c).2 then 5 else 0 := by
    rw [← hRES]; unfold checkM; rw [if_neg (by omega)]
  have hB2 := hB1.kp hk2 (by simp)
  have hS2 := hS1.tr hk2
  refine lp τok (σ := Nat) (fun k => [(1, .pointer (some ⟨b1, 0, none⟩)), (3, .int .i64 k)])
    (fun k w' => k ≤ c.funs.length ∧ Kp [] w2 w' ∧ c.funs.any (fun f => !inM f.caps 0 255) = (c.funs.drop k).any (fun f => !inM f.caps 0 255)) (fun k => c.funs.length - k) 0 rfl ⟨rfl, rfl, trivial⟩ ⟨Nat.zero_le _, Kp.refl _ _, rfl⟩ ?_
  rintro k w3 ⟨hk, hk3, hany⟩
  have hB3 := hB2.kp hk3 (by simp)
  have hS3 := hS2.tr hk3
  have hk13 := hk12.tr hk3
  refine ld (hB3.cl rfl).cell ?_
  refine br_dec (fun g5 => ?_) (fun g5 => ?_)
  · have hlt : k < c.funs.length := by omega
    obtain ⟨f, hf, hd⟩ := drop_get hlt
    rw [hd, List.any_cons] at hany
    obtain ⟨b, o, rfl, a', cap, hcode, _, hcp, hcc⟩ := sl_fn h2 hf
    refine ld (hB3.cl rfl).cell ?_
    refine ix k rfl hlt ?_
    refine ldC hS3 hcp ?_
    refine ev_call (within20_ct _ _ _ w3) ?_
    rintro e w4 ⟨rfl, hk4⟩
    refine br (fun g6 => ?_) (fun g6 => ?_)
    · exact ret _ _ (hk13.tr hk4) (by rw [e1, if_pos (by rw [hany, g6]; rfl)])
    have g6 : (!inM f.caps 0 255) = false := g6
    rw [g6, Bool.false_or] at hany
    refine int64 (by omega) (by omega) ?_
    exact ⟨k + 1, by omega, rfl, ⟨rfl, rfl, trivial⟩, hlt, hk3.tr hk4, hany⟩
  rw [List.drop_eq_nil_of_le (by omega)] at hany
  have g5 : c.funs.any (fun f => !inM f.caps 0 255) = false := hany
  rw [if_neg (by rw [g5]; simp)] at e1
  clear hany
  (repeat first | refine ldC ‹Sub _ _› (by assumption) ?_ | refine ld (Cl.cell (by first | assumption | exact Bk.cl (by assumption) rfl)) ?_ | refine ldK (by first | assumption | exact Bk.cl (by assumption) rfl | exact ‹Sub _ _› _ _ _ (by assumption)) ?_)
  refine fill [.int .i64 22, .int .i64 0, .int .i64 0] rfl ?_
  refine new fun b12 w4 hb12 hX hs4 hk4 => ?_
  refine new fun b5 w5 hb5 hB5 hs5 hk5 => ?_
  refine stN (vs := [.slice none 0 0, .slice a1 c.shapes.length c1, .slice (some ⟨b12, 0, none⟩) 1 1, .int .i64 c.nat, .slice none 0 0]) hB5 rfl (by simp [Value.oneCell']) fun w6 hP hs6 hk6 => ?_
  have hk46 : Kp [] w4 w6 := hk5.newSt hb5 hk6
  have hk36 : Kp [] w3 w6 := hk4.tr hk46
  have hX6 := hX.kp hk46 (by simp)
  have z1 := hk13.size
  have hbl : (boxes c).length = c.bodies.length := by simp [boxes]
  refine lp τok (σ := Nat × Value) (fun q => [(1, .pointer (some ⟨b1, 0, none⟩)), (4, .pointer (some ⟨b5, 0, none⟩)), (5, .int .i64 q.1)])
    (fun q w' => q.1 ≤ c.bodies.length ∧ Kp [] w3 w' ∧ Bk w'.heap b5 [q.2, .slice a1 c.shapes.length c1, .slice (some ⟨b12, 0, none⟩) 1 1, .int .i64 c.nat, .slice none 0 0] 33 ∧ Bk w'.heap b12 [.int .i64 22, .int .i64 0, .int .i64 0] 47 ∧
      Own (rBx b12) 30 (b5 + 1) w' q.2 ((boxes c).take q.1)) (fun q => c.bodies.length - q.1) (0, .slice none 0 0) rfl
    ⟨rfl, rfl, rfl, trivial⟩ ⟨Nat.zero_le _, hk36, hP, hX6, Own.nil _ _ (by omega)⟩ ?_
  rintro ⟨k5, v⟩ w7 ⟨hk7', hk7, hP7, hX7, hO⟩
  simp only at hk7' hP7 hO
  have hB7 := hB3.kp hk7 (by simp)
  have hS7 := hS3.tr hk7
  refine ld (hB7.cl rfl).cell ?_
  refine br_dec (fun g6 => ?_) (fun g6 => ?_)
  · have hlt : k5 < c.bodies.length := by omega
    obtain ⟨x, hx, hd⟩ := drop_get hlt
    have hbx : (boxes c)[k5]? = some (if x.length = 0 then [] else [Nd.box]) := by simp [boxes, hx]
    obtain ⟨b, o, rfl, a', cap, hcell, _⟩ := h3.sl hx
    refine ld (hB7.cl rfl).cell ?_
    refine ix k5 rfl hlt ?_
    refine ldC hS7 hcell ?_
    have tail : ∀ (cv : Value), (rBx b12).den (Dn (b5 + 1) v w7) [cv] (if x.length = 0 then [] else [Nd.box]) → ∀ (K : Value → World → Prop),
        (∀ v' w', Kp [] w3 w' → Bk w'.heap b5 [v, .slice a1 c.shapes.length c1, .slice (some ⟨b12, 0, none⟩) 1 1, .int .i64 c.nat, .slice none 0 0] 33 → Bk w'.heap b12 [.int .i64 22, .int .i64 0, .int .i64 0] 47 →
          Own (rBx b12) 30 (b5 + 1) w' v' ((boxes c).take (k5 + 1)) → K v' w') → ∀ b6 w6, b6 = w7.heap.size → Bk w6.heap b6 [cv] 30 → Kp [] w7 w6 →
        EvRun Tryd.prog (Builtin.append_ #[28, 28] 28 #[v, .slice (some ⟨b6, 0, none⟩) 1 1]) w6 K := by
      intro cv hden K hK b6 w8 hb6 hB6 hk8
      have hlen : ((boxes c).take k5).length = k5 := by simp; omega
      refine (hO.kp hk8).ap1 τok rfl rfl Nat.one_pos (if x.length = 0 then [] else [Nd.box]) [cv] hden (fun j u hj => by rw [Nat.zero_add]; exact hB6.cl hj) (by rw [hlen]; omega) (by rw [hlen]; simp only [maxLen]; omega) fun v' w9 hO9 hk9 _ => ?_
      have hg : ∀ g, v.ownBlock = some g → b5 < g := fun g hg => (hO.block g hg).1
      refine hK v' w9 ?_ ?_ ?_ ?_
      · exact (hk7.tr hk8).trans hk9 fun y hy hl => by
          have hy : v.ownBlock = some y := by simpa using hy
          have := hg y hy
          have := hk4.size
          omega
      · exact (hP7.kp hk8 (by simp)).kp hk9 (by
          intro hy
          have hy : v.ownBlock = some b5 := by simpa using hy
          have := hg b5 hy
          omega)
      · exact (hX7.kp hk8 (by simp)).kp hk9 (by
          intro hy
          have hy : v.ownBlock = some b12 := by simpa using hy
          have := hg b12 hy
          omega)
      · rw [take_get hbx]
        exact hO9
    have fin : ∀ v' w7, Kp [] w3 w7 → Bk w7.heap b5 [v, .slice a1 c.shapes.length c1, .slice (some ⟨b12, 0, none⟩) 1 1, .int .i64 c.nat, .slice none 0 0] 33 → Bk w7.heap b12 [.int .i64 22, .int .i64 0, .int .i64 0] 47 →
        Own (rBx b12) 30 (b5 + 1) w7 v' ((boxes c).take (k5 + 1)) → v'.oneCell' = true := fun v' w7 _ _ _ hO7 => by
      obtain ⟨a, cap, rfl⟩ := hO7.len
      rfl
    refine br_dec (fun h7 => ?_) (fun h7 => ?_)
    · refine ld (hP7.cl rfl).cell ?_
      refine ld (hP7.cl rfl).cell ?_
      refine fill [.slice (some ⟨b12, 0, none⟩) 1 1] rfl ?_
      refine new fun b6 w8 hb6 hB6 hs8 hk8 => ?_
      refine tail (.slice (some ⟨b12, 0, none⟩) 1 1) (.inr ⟨by rw [if_neg (by omega)], rfl⟩) _ ?_ b6 w8 hb6 hB6 hk8
      intro v' w9 hk9 hP9 hX9 hO9
      refine st hP9 (by simp) (fin v' w9 hk9 hP9 hX9 hO9) fun w10 hP10 hs10 hk10 => ?_
      refine int64 (by omega) (by omega) ?_
      refine ⟨(k5 + 1, v'), by simp only; omega, rfl, ⟨rfl, rfl, rfl, trivial⟩, hlt, hk9.trans hk10 (fun y hy hl => by have := hk4.size; simp at hy; omega), hP10, hX9.kp hk10 (by simp; omega), ?_⟩
      exact hO9.flat (fun _ _ _ _ h => h) hk10 fun g hg => by have := (hO9.block g hg).1; simp; omega
    · refine ld (hP7.cl rfl).cell ?_
      refine fill [.slice none 0 0] rfl ?_
      refine new fun b6 w8 hb6 hB6 hs8 hk8 => ?_
      refine tail (.slice none 0 0) (.inl ⟨by rw [if_pos (by omega)], rfl⟩) _ ?_ b6 w8 hb6 hB6 hk8
      intro v' w9 hk9 hP9 hX9 hO9
      refine st hP9 (by simp) (fin v' w9 hk9 hP9 hX9 hO9) fun w10 hP10 hs10 hk10 => ?_
      refine int64 (by omega) (by omega) ?_
      refine ⟨(k5 + 1, v'), by simp only; omega, rfl, ⟨rfl, rfl, rfl, trivial⟩, hlt, hk9.trans hk10 (fun y hy hl => by have := hk4.size; simp at hy; omega), hP10, hX9.kp hk10 (by simp; omega), ?_⟩
      exact hO9.flat (fun _ _ _ _ h => h) hk10 fun g hg => by have := (hO9.block g hg).1; simp; omega
  have hke : (boxes c).take k5 = boxes c := List.take_of_length_le (by omega)
  rw [hke] at hO
  obtain ⟨ab, cb, rfl, hSl⟩ := hO.den (by omega)
  obtain ⟨D, hDe⟩ : ∃ D, D = addB (orM C (New (b5 + 1) w7)) b12 [.int .i64 22, .int .i64 0, .int .i64 0] := ⟨_, rfl⟩
  have hD : Sub D w7 := by rw [hDe]; exact addB_sub (orM_sub hS7 (New.sub _ _)) hX7
  have hbox1 : Sl rNd D (some ⟨b12, 0, none⟩) [Nd.box] := ⟨by simp, .inr ⟨b12, 0, rfl, fun i x hi => by
    match i with
    | 0 =>
      simp at hi
      subst hi
      exact ⟨_, ⟨rfl, by simp [I64, Nd.box]⟩, fun j v hj => by rw [hDe]; exact addB_r (by simpa [Nd.box] using hj)⟩
    | i + 1 => simp at hi⟩⟩
  have hbod : Sl (rSl rNd) D ab (boxes c) := by
    refine ⟨hSl.1, ?_⟩
    rcases hSl.2 with h0 | ⟨b, o, ha, hh⟩
    · exact .inl h0
    · refine .inr ⟨b, o, ha, fun i x hi => ?_⟩
      obtain ⟨cs', hden, hcells⟩ := hh i x hi
      refine ⟨cs', ?_, fun j v hj => by rw [hDe]; exact Or.inl (Or.inr (hcells j v hj))⟩
      rcases hden with ⟨rfl, rfl⟩ | ⟨rfl, rfl⟩
      · exact ⟨none, 0, rfl, Sl.nil _ _ _⟩
      · exact ⟨_, 1, rfl, hbox1⟩
  refine ldN [.slice ab (boxes c).length cb, .slice a1 c.shapes.length c1, .slice (some ⟨b12, 0, none⟩) 1 1, .int .i64 c.nat, .slice none 0 0] rfl (fun j v hj => by rw [Nat.zero_add]; exact hP7.cl hj) ?_
  refine ev_call (right15_ct hD (boxes c) c.shapes c.nat ab a1 (some ⟨b12, 0, none⟩) none cb c1 1 0 hbod (h1.mono fun b o v h => by rw [hDe]; exact Or.inl (Or.inl h)) hbox1 (fun b hb => ?_) (by omega) (by omega)) ?_
  · simp only [boxes, List.mem_map] at hb
    obtain ⟨y, _, rfl⟩ := hb
    split
    · exact .inl rfl
    · exact .inr rfl
  rintro e w8 ⟨nn, rfl, hnn, hk8⟩
  have hk18 := (hk13.tr hk7).tr hk8
  have hB8 := hB7.kp hk8 (by simp)
  have hS8 := hS7.tr hk8
  clear hO hSl hD hbox1 hbod hP7 hX7 hX6 hX hB5 hP
  refine br_dec (fun g7 => ?_) (fun g7 => ?_)
  · exact ret _ _ hk18 (by rw [e1, if_pos (by rw [← hnn, decide_eq_false g7])])
  have g7 : rightM (boxes c) c.shapes c.nat = true := by rw [← hnn]; simpa using g7
  rw [if_neg (by rw [g7]; simp)] at e1
  have hco := codOk_of hc0 g5 g7
  obtain ⟨hml, hfl, hbl'⟩ := size_mem hsz
  refine ldN [.int .i64 c.nat, .slice a1 c.shapes.length c1, .slice a2 c.funs.length c2, .slice a3 c.bodies.length c3, .slice a4 c.main.length c4] rfl (fun j v hj => by rw [Nat.zero_add]; exact hB8.cl hj) ?_
  refine ld (hB8.cl rfl).cell ?_
  refine ev_call (block20_ct hS8 hc0 hco c.main a4 c4 h4 (by omega) 0 (by omega)) ?_
  rintro e w9 ⟨rfl, hk9⟩
  have hk19 := hk18.tr hk9
  have hB9 := hB8.kp hk9 (by simp)
  have hS9 := hS8.tr hk9
  refine lp τok (σ := Nat × Bool × Int) (fun q => [(1, .pointer (some ⟨b1, 0, none⟩)), (6, .bool q.2.1), (7, .int .i64 q.2.2), (8, .int .i64 q.1)])
    (fun q w' => q.1 ≤ c.funs.length ∧ Kp [] w9 w' ∧ blocksM c = c.bodies.foldl (stepY c) ((c.funs.drop q.1).foldl (stepF c) q.2)) (fun q => c.funs.length - q.1) (0, (blockM c c.main 0).isSome, (blockM c c.main 0).getD 0) rfl
    ⟨rfl, rfl, rfl, rfl, trivial⟩ ⟨Nat.zero_le _, Kp.refl _ _, rfl⟩ ?_
  rintro ⟨k, ok, most⟩ w10 ⟨hk, hkp, hr⟩
  simp only at hk hr
  have hB10 := hB9.kp hkp (by simp)
  have hS10 := hS9.tr hkp
  refine ld (hB10.cl rfl).cell ?_
  refine br_dec (fun g8 => ?_) (fun g8 => ?_)
  · have hlt : k < c.funs.length := by omega
    obtain ⟨f, hf, hd⟩ := drop_get hlt
    rw [hd, List.foldl_cons] at hr
    have hfm := List.mem_of_getElem? hf
    have hcap := hco.caps f hfm
    obtain ⟨b, o, rfl, a', cap, hcode, _, hcp, hcc⟩ := sl_fn h2 hf
    refine drawQ τok (fun w' => Kp [] w10 w') (by kernel_rfl) ((Kp.refl [] w10).dr _) ?_
    refine ldNK [.int .i64 c.nat, .slice a1 c.shapes.length c1, .slice (some ⟨b, o, none⟩) c.funs.length c2, .slice a3 c.bodies.length c3, .slice a4 c.main.length c4] rfl (fun j v hj => by rw [Nat.zero_add]; exact hB10.cl hj) ?_
    refine ldK (hB10.cl rfl) ?_
    refine ix k rfl hlt ?_
    refine ldK (hS10 _ _ _ hcc) ?_
    refine ldK (hB10.cl rfl) ?_
    refine ix k rfl hlt ?_
    refine ldK (hS10 _ _ _ hcp) ?_
    refine int64 (by omega) (by omega) ?_
    refine callK (fun w' hk' => block20_ct (hS10.tr hk') hc0 hco f.code a' cap hcode (by have := hfl f hfm; omega) (f.caps + 1) (by omega)) ?_
    intro w11 hk11
    have hkp11 := hkp.tr hk11
    refine br (fun g9 => ?_) (fun g9 => ?_)
    · refine max64 ?_
      refine int64 (by omega) (by omega) ?_
      refine ⟨(k + 1, stepF c (ok, most) f), by simp only; omega, rfl, ⟨rfl, ?_, rfl, rfl, trivial⟩, hlt, hkp11, hr⟩
      have g9 : ok = true := g9
      show some _ = some _
      simp [stepF, stepB, g9]
    · refine max64 ?_
      refine int64 (by omega) (by omega) ?_
      refine ⟨(k + 1, stepF c (ok, most) f), by simp only; omega, rfl, ⟨rfl, ?_, rfl, rfl, trivial⟩, hlt, hkp11, hr⟩
      have g9 : ok = false := g9
      show some _ = some _
      simp [stepF, stepB, g9]
  rw [List.drop_eq_nil_of_le (by omega)] at hr
  have hr : blocksM c = c.bodies.foldl (stepY c) (ok, most) := hr
  refine lp τok (σ := Nat × Bool × Int) (fun q => [(1, .pointer (some ⟨b1, 0, none⟩)), (6, .bool q.2.1), (7, .int .i64 q.2.2), (11, .int .i64 q.1)])
    (fun q w' => q.1 ≤ c.bodies.length ∧ Kp [] w10 w' ∧ blocksM c = (c.bodies.drop q.1).foldl (stepY c) q.2) (fun q => c.bodies.length - q.1) (0, ok, most) rfl
    ⟨rfl, rfl, rfl, rfl, trivial⟩ ⟨Nat.zero_le _, Kp.refl _ _, hr⟩ ?_
  clear hr
  rintro ⟨k', ok', most'⟩ w11 ⟨hk', hkp', hr⟩
  simp only at hk' hr
  have hB11 := hB10.kp hkp' (by simp)
  have hS11 := hS10.tr hkp'
  refine ld (hB11.cl rfl).cell ?_
  refine br_dec (fun g9 => ?_) (fun g9 => ?_)
  · have hlt : k' < c.bodies.length := by omega
    obtain ⟨x, hx, hd⟩ := drop_get hlt
    rw [hd, List.foldl_cons] at hr
    have hxm := List.mem_of_getElem? hx
    obtain ⟨b, o, rfl, a', cap, hcell, hcode⟩ := h3.sl hx
    refine ld (hB11.cl rfl).cell ?_
    refine ix k' rfl hlt ?_
    refine ldC hS11 hcell ?_
    refine br_dec (fun g10 => ?_) (fun g10 => ?_)
    · have hst : stepY c (ok', most') x = stepB c (ok', most') x 0 := by unfold stepY; rw [if_pos (by omega)]
      rw [hst] at hr
      refine drawQ τok (fun w' => Kp [] w11 w') (by kernel_rfl) ((Kp.refl [] w11).dr _) ?_
      refine ldNK [.int .i64 c.nat, .slice a1 c.shapes.length c1, .slice a2 c.funs.length c2, .slice (some ⟨b, o, none⟩) c.bodies.length c3, .slice a4 c.main.length c4] rfl (fun j v hj => by rw [Nat.zero_add]; exact hB11.cl hj) ?_
      refine ldK (hB11.cl rfl) ?_
      refine ix k' rfl hlt ?_
      refine ldK (hS11 _ _ _ hcell) ?_
      refine callK (fun w' hk' => block20_ct (hS11.tr hk') hc0 hco x a' cap hcode (by have := hbl' x hxm; omega) 0 (by omega)) ?_
      intro w12 hk12
      have hkp12 := hkp'.tr hk12
      refine br (fun g11 => ?_) (fun g11 => ?_)
      · refine max64 ?_
        refine int64 (by omega) (by omega) ?_
        refine ⟨(k' + 1, stepB c (ok', most') x 0), by simp only; omega, rfl, ⟨rfl, ?_, rfl, rfl, trivial⟩, hlt, hkp12, hr⟩
        have g11 : ok' = true := g11
        show some _ = some _
        simp [stepB, g11]
      · refine max64 ?_
        refine int64 (by omega) (by omega) ?_
        refine ⟨(k' + 1, stepB c (ok', most') x 0), by simp only; omega, rfl, ⟨rfl, ?_, rfl, rfl, trivial⟩, hlt, hkp12, hr⟩
        have g11 : ok' = false := g11
        show some _ = some _
        simp [stepB, g11]
    · have hst : stepY c (ok', most') x = (ok', most') := by unfold stepY; rw [if_neg (by omega)]
      rw [hst] at hr
      refine int64 (by omega) (by omega) ?_
      exact ⟨(k' + 1, ok', most'), by simp only; omega, rfl, ⟨rfl, rfl, rfl, rfl, trivial⟩, hlt, hkp', hr⟩
  · rw [List.drop_eq_nil_of_le (by omega)] at hr
    have hr : blocksM c = (ok', most') := hr
    rw [hr] at e1
    simp only at e1
    have hk17 := (hk19.tr hkp).tr hkp'
    refine br (fun g9 => ?_) (fun g9 => ?_)
    · exact ret _ _ hk17 (by rw [e1, if_pos (by simpa using g9)])
    rw [if_neg (by simpa using g9)] at e1
    refine br_dec (fun g10 => ?_) (fun g10 => ?_)
    · exact ret _ _ hk17 (by rw [e1, if_pos g10])
    · exact ret _ _ hk17 (by rw [e1, if_neg g10])

end Go.Proofs.YtjpdkcejkogciaaDoor

/-
  Reference 21: Make.
-/
set_option linter.unusedSimpArgs false
set_option linter.unusedVariables false
namespace Go.Proofs.YtjpdkcejkogciaaDoor
open Go.Wx Cd

section
variable {p : Flt} {q : Brd} {C : Mem} {w : World}
set_option maxHeartbeats 4000000 in
theorem make21_ct (hS : Sub C w) {cf cg : List Value} (hp : rFlt.den C cf p) (hq : rBrd.den C cg q) (hw : weightF p < 5000) :
    CallOk Tryd.prog 10 ∧ Calls Tryd.prog 10 #[.agg cf.toArray, .agg cg.toArray] w (fun e w' => ∃ cs, e = .returned (.tuple #[.agg cs.toArray, .int .i64 (makeM p q).2]) ∧ rCod.den (New w.heap.size w') cs (makeM p q).1 ∧ Kp [] w w') := by
  refine ⟨⟨_, Tryd.func10, rfl, by decide⟩, ?_⟩
  have hp0 := hp
  have hq0 := hq
  obtain ⟨a1, c1, a2, c2, a3, c3, hcf, h1, h2, h3, h4⟩ := hp
  obtain ⟨d1, e1, d2, e2, d3, e3, d4, e4, hcg, g1', g2, g3, g4, g5, g6, g7⟩ := hq
  subst hcf hcg
  obtain ⟨RES, hRES⟩ : ∃ r, makeM p q = r := ⟨_, rfl⟩
  rw [hRES]
  unfold makeM at hRES
  have hl1 := h1.1
  have hl2 := h2.1
  have hl3 := h3.1
  have gl1 := g1'.1
  have gl2 := g2.1
  refine calls_of (args := [_, _]) 131 [.cell 4 41, .tmp 5] τok Tryd.func10 rfl rfl rfl (Nat.le_of_ble_eq_true rfl) ?_
  refine new fun b2 w1 hb2 hB2 hs1 hk1 => ?_
  refine new fun b3 w2 hb3 hB3 hs2 hk2 => ?_
  refine new fun b4 w3 hb4 hB4 hs3 hk3 => ?_
  obtain rfl : b2 = w.heap.size := hb2
  obtain rfl : b3 = w.heap.size + 1 := by omega
  obtain rfl : b4 = w.heap.size + 2 := by omega
  obtain ⟨cf, hcf⟩ : ∃ cs, [Value.slice a1 p.funs.length c1, .slice a2 p.bodies.length c2, .slice a3 p.main.length c3] = cs := ⟨_, rfl⟩
  obtain ⟨cg, hcg⟩ : ∃ cs, [Value.slice d1 q.bodies.length e1, .slice d2 q.shapes.length e2, .slice d3 q.main.length e3, .int .i64 q.nat, .slice d4 q.prims.length e4] = cs := ⟨_, rfl⟩
  have hk13 : Kp [] w w3 := (hk1.tr hk2).tr hk3
  have hM : MkB C w cf cg w3 := by
    subst hcf hcg
    exact ⟨hk13, (hB2.kp hk2 (by simp)).kp hk3 (by simp), hB3.kp hk3 (by simp), hB4, hS.tr hk13, hS.lt⟩
  clear hk1 hk2 hk3 hB2 hB3 hB4 hs1 hs2 hs3 hk13
  rw [hcf] at hp0
  rw [hcg] at hq0
  refine ldN cf (by rw [← hcf]; rfl) (fun j v hj => by rw [Nat.zero_add]; exact hM.f.cl hj) ?_
  refine ev_call (right18_ct hM.sub hp0) ?_
  rintro e w4 ⟨rfl, hk⟩
  have hM := hM.tr hk
  clear hk
  refine br_dec (fun r1 => ?_) (fun r1 => ?_)
  rotate_left
  · rw [if_pos r1] at hRES
    refine br_yes r1 ?_
    refine stN (vs := [.int .i64 0, .slice none 0 0, .slice none 0 0, .slice none 0 0, .slice none 0 0]) hM.z rfl (by simp [Value.oneCell']) fun wz hBz hsz hkz => ?_
    refine resN τok rfl [.int .i64 0, .slice none 0 0, .slice none 0 0, .slice none 0 0, .slice none 0 0] rfl (fun j v hj => hBz.cl hj) ?_
    have hkz : Kp [] w wz := hM.k.trans hkz fun x hx hl => by simp at hx; omega
    rw [← hRES]
    exact ⟨_, rfl, codZ_den _, hkz⟩
  rw [if_neg (by omega)] at hRES
  have hF := fok_of r1
  refine ldN cg (by rw [← hcg]; rfl) (fun j v hj => by rw [Nat.zero_add]; exact hM.g.cl hj) ?_
  refine ev_call (rightB15_ct hM.sub hq0) ?_
  rintro e w5 ⟨rfl, hk⟩
  have hM := hM.tr hk
  clear hk
  refine br_dec (fun r2 => ?_) (fun r2 => ?_)
  · rw [if_pos r2] at hRES
    refine stN (vs := [.int .i64 0, .slice none 0 0, .slice none 0 0, .slice none 0 0, .slice none 0 0]) hM.z rfl (by simp [Value.oneCell']) fun wz hBz hsz hkz => ?_
    refine resN τok rfl [.int .i64 0, .slice none 0 0, .slice none 0 0, .slice none 0 0, .slice none 0 0] rfl (fun j v hj => hBz.cl hj) ?_
    have hkz : Kp [] w wz := hM.k.trans hkz fun x hx hl => by simp at hx; omega
    rw [← hRES]
    exact ⟨_, rfl, codZ_den _, hkz⟩
  rw [if_neg r2] at hRES
  have hq1 := hq0
  subst hcf hcg
  refine ld (hM.f.cl rfl).cell ?_
  refine ld (hM.g.cl rfl).cell ?_
  refine br_dec (fun r3 => ?_) (fun r3 => ?_)
  · rw [if_pos (by omega)] at hRES
    refine stN (vs := [.int .i64 0, .slice none 0 0, .slice none 0 0, .slice none 0 0, .slice none 0 0]) hM.z rfl (by simp [Value.oneCell']) fun wz hBz hsz hkz => ?_
    refine resN τok rfl [.int .i64 0, .slice none 0 0, .slice none 0 0, .slice none 0 0, .slice none 0 0] rfl (fun j v hj => hBz.cl hj) ?_
    have hkz : Kp [] w wz := hM.k.trans hkz fun x hx hl => by simp at hx; omega
    rw [← hRES]
    exact ⟨_, rfl, codZ_den _, hkz⟩
  have r3 : p.bodies.length = q.bodies.length := by omega
  rw [if_neg (by omega)] at hRES
  refine lp τok (σ := Nat) (fun k => [(2, .pointer (some ⟨w.heap.size, 0, none⟩)), (3, .pointer (some ⟨w.heap.size + 1, 0, none⟩)), (4, .pointer (some ⟨w.heap.size + 2, 0, none⟩)), (7, .int .i64 k)])
    (fun k u => k ≤ p.bodies.length ∧ MkB C w [.slice a1 p.funs.length c1, .slice a2 p.bodies.length c2, .slice a3 p.main.length c3] [.slice d1 q.bodies.length e1, .slice d2 q.shapes.length e2, .slice d3 q.main.length e3, .int .i64 q.nat, .slice d4 q.prims.length e4] u ∧ difM p.bodies q.bodies = difM (p.bodies.drop k) (q.bodies.drop k)) (fun k => p.bodies.length - k) 0 rfl
    ⟨rfl, rfl, rfl, rfl, trivial⟩ ⟨Nat.zero_le _, hM, rfl⟩ ?_
  clear hM
  rintro k u ⟨hk, hM, hd⟩
  have hM0 := hM
  refine ld (hM.f.cl rfl).cell ?_
  refine br_dec (fun g1 => ?_) (fun g1 => ?_)
  · have hkl : k < p.bodies.length := by omega
    obtain ⟨x, hx, hdx⟩ := drop_get hkl
    obtain ⟨y, hy, hdy⟩ := drop_get (l := q.bodies) (k := k) (by omega)
    obtain ⟨bx, ox, hax, ax, cx, hcx, _, _⟩ := h2.sk hx
    obtain ⟨by', oy, hay, ay, cy, hcy, _, _⟩ := g1'.sk hy
    subst hax hay
    have hxy : (decide ((x.length : Int) = 0) != decide ((y.length : Int) = 0)) = (decide (0 < x.length) != decide (0 < y.length)) := by
      have e1 : decide ((x.length : Int) = 0) = !decide (0 < x.length) := by rw [← decide_not]; exact decide_eq_decide.2 (by omega)
      have e2 : decide ((y.length : Int) = 0) = !decide (0 < y.length) := by rw [← decide_not]; exact decide_eq_decide.2 (by omega)
      rw [e1, e2]
      cases decide (0 < x.length) <;> cases decide (0 < y.length) <;> rfl
    refine drawR τok (by kernel_rfl) ?_
    refine ldR (hM.f.cl rfl) ?_
    refine ix k rfl hkl ?_
    refine ldR (hM.sub _ _ _ hcx) ?_
    refine ldR (hM.g.cl rfl) ?_
    refine ix k rfl (by omega) ?_
    refine ldR (hM.sub _ _ _ hcy) ?_
    intro m
    rw [hdx, hdy] at hd
    simp only [difM] at hd
    refine br (fun r4 => ?_) (fun r4 => ?_)
    · have hdif : difM p.bodies q.bodies = true := by
        have r4 : (decide ((x.length : Int) = 0) != decide ((y.length : Int) = 0)) = true := r4
        rw [hd, ← hxy, r4]
        rfl
      rw [if_pos hdif] at hRES
      have hM := hM.tr ((Kp.refl [] u).dr m)
      refine stN (vs := [.int .i64 0, .slice none 0 0, .slice none 0 0, .slice none 0 0, .slice none 0 0]) hM.z rfl (by simp [Value.oneCell']) fun wz hBz hsz hkz => ?_
      refine resN τok rfl [.int .i64 0, .slice none 0 0, .slice none 0 0, .slice none 0 0, .slice none 0 0] rfl (fun j v hj => hBz.cl hj) ?_
      have hkz : Kp [] w wz := hM.k.trans hkz fun x hx hl => by simp at hx; omega
      rw [← hRES]
      exact ⟨_, rfl, codZ_den _, hkz⟩
    · refine int64 (by omega) (by omega) ?_
      refine ⟨k + 1, by omega, rfl, ⟨rfl, rfl, rfl, rfl, trivial⟩, hkl, hM.tr ((Kp.refl [] u).dr m), ?_⟩
      have r4 : (decide ((x.length : Int) = 0) != decide ((y.length : Int) = 0)) = false := r4
      rw [hd, ← hxy, r4]
      rfl
  rw [List.drop_eq_nil_of_le (by omega)] at hd
  have hd' : difM p.bodies q.bodies = false := by rw [hd]; rfl
  rw [if_neg (show ¬ difM p.bodies q.bodies = true by rw [hd']; decide)] at hRES
  clear hd hk
  -- the copy
  refine ldN [.slice d1 q.bodies.length e1, .slice d2 q.shapes.length e2, .slice d3 q.main.length e3, .int .i64 q.nat, .slice d4 q.prims.length e4] rfl (fun j v hj => by rw [Nat.zero_add]; exact hM.g.cl hj) ?_
  refine ev_call (copyBaredS_ct hM.sub hq1) ?_
  rintro e y0 ⟨s0, s2, s4, ash, csh, rfl, o0, o2, o4, hSs, hk0⟩
  have hM := hM.tr hk0
  refine new fun b8 y1 hb8 hB8 hs8 hk8 => ?_
  refine stN (vs := [s0, .slice ash q.shapes.length csh, s2, .int .i64 q.nat, s4]) hB8 rfl (by intro t ht; simp only [List.mem_cons, List.not_mem_nil, or_false] at ht; rcases ht with rfl | rfl | rfl | rfl | rfl; exact o0; rfl; exact o2; rfl; exact o4) fun y2 hB8 hs2 hk2 => ?_
  have hk8 : Kp [] y0 y2 := hk8.newSt hb8 hk2
  have hM := hM.tr hk8
  refine ld (hM.g.cl rfl).cell ?_
  refine ld (hB8.cl rfl).cell ?_
  refine new fun b9 v1 hb9 hB9 hs9 hk9 => ?_
  refine stN (vs := [.int .i64 q.nat, .slice ash q.shapes.length csh, .slice none 0 0, .slice none 0 0, .slice none 0 0]) hB9 rfl (by simp [Value.oneCell']) fun v2 hC hs2 hk2 => ?_
  have hk9 : Kp [] y2 v2 := hk9.newSt hb9 hk2
  have hM := hM.tr hk9
  have hb9 : w.heap.size + 3 ≤ b9 := by have := hM0.z.lt; have := hk0.size; have := hk8.size; omega
  obtain ⟨vsh, hvsh⟩ : ∃ v, Value.slice ash q.shapes.length csh = v := ⟨_, rfl⟩
  rw [hvsh] at hC
  have hC : MkC v2 b9 q.nat vsh (.slice none 0 0) (.slice none 0 0) (.slice none 0 0) := hC
  have hSs : Sl rShp (fun b o t => w.heap.size + 3 ≤ b ∧ b ≠ b9 ∧ Cu v2.heap b o t) ash q.shapes := hSs.mono fun b o t ht => by
    have h1 := ht.1
    have h2 := ht.2.lt
    have h3 := hM0.z.lt
    have h4 := hk8.size
    refine ⟨by omega, fun e => by omega, (ht.2.kp hk8 (by simp)).kp hk9 (by simp)⟩
  have hbv : b9 < v2.heap.size := hC.lt
  have hvu := hM.k.size
  clear hB9 hs9 hk2 hk9 hM0 hs2 hB8
  obtain ⟨u0, hu0⟩ : ∃ z, v2 = z := ⟨_, rfl⟩
  rw [hu0] at hM hC hSs hbv hvu
  rw [hu0]
  have fits : ∀ t, t ∈ p.main :: (p.funs.map Ffn.body ++ p.bodies) → t.length ≤ 8192 := by
    intro t ht
    unfold weightF at hw
    simp only [List.mem_cons, List.mem_append, List.mem_map] at ht
    rcases ht with rfl | ⟨f, hf, rfl⟩ | ht
    · omega
    · have := le_sum (List.mem_map.2 ⟨f, hf, rfl⟩ : 1 + f.body.length ∈ p.funs.map fun f => 1 + f.body.length)
      omega
    · have := le_sum (List.mem_map.2 ⟨t, ht, rfl⟩ : 1 + t.length ∈ p.bodies.map fun b => 1 + b.length)
      omega
  -- functions
  refine lp τok (σ := Nat) (fun k => [(2, .pointer (some ⟨w.heap.size, 0, none⟩)), (3, .pointer (some ⟨w.heap.size + 1, 0, none⟩)), (4, .pointer (some ⟨w.heap.size + 2, 0, none⟩)), (9, .pointer (some ⟨b9, 0, none⟩)), (10, .int .i64 k)])
    (fun k y => k ≤ p.funs.length ∧ MkB C w [.slice a1 p.funs.length c1, .slice a2 p.bodies.length c2, .slice a3 p.main.length c3] [.slice d1 q.bodies.length e1, .slice d2 q.shapes.length e2, .slice d3 q.main.length e3, .int .i64 q.nat, .slice d4 q.prims.length e4] y ∧ Kp [b9] u0 y ∧ ∃ v, Own rFn 53 u0.heap.size y v ((p.funs.map (fnE p)).take k) ∧ MkC y b9 q.nat vsh v (.slice none 0 0) (.slice none 0 0)) (fun k => p.funs.length - k) 0 rfl
    ⟨rfl, rfl, rfl, rfl, rfl, trivial⟩ ⟨Nat.zero_le _, hM, Kp.refl _ _, _, Own.nil _ _ (Nat.le_refl _), hC⟩ ?_
  clear hM hC
  rintro k y ⟨hk, hM, hky, v, hO, hC⟩
  refine ld (hM.f.cl rfl).cell ?_
  refine br_dec (fun g1 => ?_) (fun g1 => ?_)
  · have hkl : k < p.funs.length := by omega
    obtain ⟨x, hx, _⟩ := drop_get hkl
    obtain ⟨bx, ox, hax, ax, cx, hsx, hxc, hc0, hc1, hcap⟩ := sl_ffn h1 hx
    subst hax
    have hxm := List.mem_of_getElem? hx
    have hxb := hF.caps x hxm
    have hm : (((x.caps + 1).toNat : Nat) : Int) = x.caps + 1 := by omega
    have htl : ((p.funs.map (fnE p)).take k).length = k := by simp; omega
    have hwl := hM.k.size
    refine drawG τok (fun z => Bk z.heap w.heap.size [.slice (some ⟨bx, ox, none⟩) p.funs.length c1, .slice a2 p.bodies.length c2, .slice a3 p.main.length c3] 27 ∧ MkC z b9 q.nat vsh v (.slice none 0 0) (.slice none 0 0) ∧ Sub C z) ?_
    refine readsG τok [0, 1, 2, 3, 4, 5, 6, 7, 8, 9, 10, 11, 12, 13, 14, 15, 16, 17, 18, 19, 20] 6 #[true, true, true, true, true, true, true, true, true, true, true, true, true, true, true, true, true, true, true, true, true, false, false, false, false, false, false] rfl rfl (by kernel_rfl) (by kernel_rfl) (by kernel_rfl) ⟨hM.f, hC, (by exact fun b o v hc => hM.sub b o v hc)⟩ ?_
    refine ldQ (fun z hz => Bk.cl hz.2.1 rfl) ?_
    refine ldQ (fun z hz => hz.1.cl rfl) ?_
    refine ix k rfl hkl ?_
    refine ldQ (fun z hz => hz.2.2 _ _ _ hc0) ?_
    refine ldQ (fun z hz => hz.1.cl rfl) ?_
    refine ix k rfl hkl ?_
    refine ldQ (fun z hz => hz.2.2 _ _ _ hc1) ?_
    refine ldQ (fun z hz => hz.1.cl rfl) ?_
    refine ix k rfl hkl ?_
    refine ldQ (fun z hz => hz.2.2 _ _ _ hc0) ?_
    refine int64 (by omega) (by omega) ?_
    refine nextG τok 21 5 #[true, true, true, true, true, true, true, true, true, true, true, true, true, true, true, true, true, true, true, true, true, true, false, false, false, false, false] rfl rfl rfl (by kernel_rfl) ?_
    have call := block21_ct (w := { y with drawn := y.drawn + 1 }) hF.caps (by exact fun b o v hc => hM.sub b o v hc) x.body ax cx hsx hcap (x.caps + 1).toNat (by omega) (by rw [hm]; exact hF.fun_ x hxm) (fits _ (by simp only [List.mem_cons, List.mem_append, List.mem_map]; exact .inr (.inl ⟨x, hxm, rfl⟩)))
    rw [hm] at call
    refine ev_call call ?_
    rintro e y3 ⟨ac, cc, rfl, hSc, hkc⟩
    have hkc : Kp [] y y3 := hkc.rd
    refine ⟨.inl ⟨hM.f.kp hkc (by simp), hC.kp hkc (by simp), hM.sub.tr hkc⟩, ?_⟩
    refine nextG τok 22 4 #[true, true, true, true, true, true, true, true, true, true, true, true, true, true, true, true, true, true, true, true, true, true, true, false, false, false, false] rfl rfl rfl (by kernel_rfl) ?_
    refine ⟨.inl ⟨hM.f.kp hkc (by simp), hC.kp hkc (by simp), hM.sub.tr hkc⟩, ?_⟩
    refine nextG τok 23 3 #[true, true, true, true, true, true, true, true, true, true, true, true, true, true, true, true, true, true, true, true, true, true, true, true, false, false, false] rfl rfl rfl (by kernel_rfl) ?_
    refine fill [.int .i64 x.caps, .slice ac (codeE p x.body (x.caps + 1).toNat).length cc] rfl ?_
    refine new fun bn y4 hbn hBn hsn hkn => ?_
    have hk04 : Kp [] y y4 := hkc.tr hkn
    have hC4 : MkC y4 b9 q.nat vsh v (.slice none 0 0) (.slice none 0 0) := hC.kp hk04 (by simp)
    refine ⟨.inl ⟨hM.f.kp hk04 (by simp), hC4, hM.sub.tr hk04⟩, ?_⟩
    refine nextG τok 24 2 #[true, true, true, true, true, true, true, true, true, true, true, true, true, true, true, true, true, true, true, true, true, true, true, true, true, false, false] rfl rfl rfl (by kernel_rfl) ?_
    refine (hO.kp hk04).ap1 τok rfl rfl (by decide) (fnE p x) [.int .i64 x.caps, .slice ac (codeE p x.body (x.caps + 1).toNat).length cc] ⟨ac, cc, rfl, hSc.mono (new_dn (hO.kp ((Kp.refl [] y).dr _)) hkn), hxc⟩ (fun i t hi => by rw [Nat.zero_add]; exact hBn.cl hi) (by rw [htl]; omega) (by rw [htl]; simp only [maxLen]; omega) fun v' y5 hO5 hk5 hb5 => ?_
    have hX5 : ∀ g ∈ v.ownBlock.toList, u0.heap.size ≤ g := fun g hg => (hO.block g (by simpa using hg)).1
    have hC5 : MkC y5 b9 q.nat vsh v (.slice none 0 0) (.slice none 0 0) := hC4.kp hk5 (fun hx => by have := hX5 _ hx; omega)
    have hM5 := (hM.tr hk04).kp hk5 (fun x hx => by have := hX5 x hx; omega)
    refine ⟨.inl ⟨hM5.f, hC5, hM5.sub⟩, ?_⟩
    refine nextG τok 25 1 #[true, true, true, true, true, true, true, true, true, true, true, true, true, true, true, true, true, true, true, true, true, true, true, true, true, true, false] rfl rfl rfl (by kernel_rfl) ?_
    refine ⟨.inl ⟨hM5.f, hC5, hM5.sub⟩, ?_⟩
    refine nextG τok 26 0 #[true, true, true, true, true, true, true, true, true, true, true, true, true, true, true, true, true, true, true, true, true, true, true, true, true, true, true] rfl rfl rfl (by kernel_rfl) ?_
    obtain ⟨aw, cw, hvw⟩ := hO5.len
    refine st hC5 (by simp) (by rw [hvw]; rfl) fun y6 hC6 hs6 hk6 => ?_
    refine ⟨.inr (by kernel_rfl), ?_⟩
    refine doneG (by kernel_rfl) ?_
    refine int64 (by omega) (by omega) ?_
    refine ⟨k + 1, by omega, rfl, ⟨rfl, rfl, rfl, rfl, rfl, trivial⟩, hkl, hM5.kp hk6 (fun x hx => by simp at hx; omega), ((hky.tr hk04).ownX hk5 (hO.kp hk04)).trans hk6 (fun x hx _ => hx), v', ?_, hC6⟩
    rw [take_map_get hx]
    exact hO5.kpl hk6 (by simp; omega)
  rw [List.take_of_length_le (by simp; omega)] at hO
  obtain ⟨afn, cfn, hvf, hSf⟩ := hO.den (by simp; omega)
  clear hk g1
  rw [hvf] at hC
  -- bodies
  obtain ⟨vfn, hvfn⟩ : ∃ v, Value.slice afn (p.funs.map (fnE p)).length cfn = v := ⟨_, rfl⟩
  rw [hvfn] at hC
  have hyu := hky.size
  refine lp τok (σ := Nat) (fun k => [(2, .pointer (some ⟨w.heap.size, 0, none⟩)), (3, .pointer (some ⟨w.heap.size + 1, 0, none⟩)), (4, .pointer (some ⟨w.heap.size + 2, 0, none⟩)), (9, .pointer (some ⟨b9, 0, none⟩)), (11, .int .i64 k)])
    (fun k z => k ≤ p.bodies.length ∧ MkB C w [.slice a1 p.funs.length c1, .slice a2 p.bodies.length c2, .slice a3 p.main.length c3] [.slice d1 q.bodies.length e1, .slice d2 q.shapes.length e2, .slice d3 q.main.length e3, .int .i64 q.nat, .slice d4 q.prims.length e4] z ∧ Kp [b9] y z ∧ ∃ v, Own (rSl rIns) 39 y.heap.size z v ((p.bodies.map (bodyE p)).take k) ∧ MkC z b9 q.nat vsh vfn v (.slice none 0 0)) (fun k => p.bodies.length - k) 0 rfl
    ⟨rfl, rfl, rfl, rfl, rfl, trivial⟩ ⟨Nat.zero_le _, hM, Kp.refl _ _, _, Own.nil _ _ (Nat.le_refl _), hC⟩ ?_
  clear hM hC hO
  rintro k z ⟨hk, hM, hkz, v, hO, hC⟩
  refine ld (hM.f.cl rfl).cell ?_
  refine br_dec (fun g1 => ?_) (fun g1 => ?_)
  · have hkl : k < p.bodies.length := by omega
    obtain ⟨x, hx, _⟩ := drop_get hkl
    obtain ⟨bx, ox, hax, ax, cx, hcx, hcap, hsx⟩ := h2.sk hx
    subst hax
    have hxm := List.mem_of_getElem? hx
    have htl : ((p.bodies.map (bodyE p)).take k).length = k := by simp; omega
    have hbk : (p.bodies.map (bodyE p)).take (k + 1) = (p.bodies.map (bodyE p)).take k ++ [bodyE p x] := take_map_get hx
    obtain ⟨av, cv, hvv⟩ := hO.len
    have hX3 : ∀ g ∈ v.ownBlock.toList, y.heap.size ≤ g := fun g hg => (hO.block g (by simpa using hg)).1
    refine ld (hM.f.cl rfl).cell ?_
    refine ix k rfl hkl ?_
    refine ld (hM.sub _ _ _ hcx).cell ?_
    refine br_dec (fun g2 => ?_) (fun g2 => ?_)
    · have hx0 : 0 < x.length := by omega
      have hbe : bodyE p x = codeE p x 0 := by unfold bodyE; rw [if_pos hx0]
      refine ld (hM.f.cl rfl).cell ?_
      refine ix k rfl hkl ?_
      refine ld (hM.sub _ _ _ hcx).cell ?_
      refine ev_call (block21_ct hF.caps hM.sub x ax cx hsx hcap 0 (by omega) (hF.body x hxm hx0) (fits _ (by simp only [List.mem_cons, List.mem_append]; exact .inr (.inr hxm)))) ?_
      rintro e z1 ⟨ac, cc, rfl, hSc, hkc⟩
      rw [← hbe] at hSc
      rw [← hbe]
      refine ld (Bk.cl (hC.kp hkc (by simp) : MkC z1 b9 q.nat vsh vfn v (.slice none 0 0)) rfl).cell ?_
      refine fill [.slice ac (bodyE p x).length cc] rfl ?_
      refine new fun bn z2 hbn hBn hsn hkn => ?_
      have hk02 : Kp [] z z2 := hkc.tr hkn
      refine (hO.kp hk02).ap1 τok rfl rfl (by decide) (bodyE p x) [.slice ac (bodyE p x).length cc] ⟨ac, cc, rfl, hSc.mono (new_dn hO hkn)⟩ (fun i t hi => by rw [Nat.zero_add]; exact hBn.cl hi) (by rw [htl]; omega) (by rw [htl]; simp only [maxLen]; omega) fun v' z3 hO3 hk3 hb3 => ?_
      have hC3 : MkC z3 b9 q.nat vsh vfn v (.slice none 0 0) := (hC.kp hk02 (by simp)).kp hk3 (fun hx => by have := hX3 _ hx; omega)
      obtain ⟨aw, cw, hvw⟩ := hO3.len
      refine st hC3 (by simp) (by rw [hvw]; rfl) fun z4 hC4 hs4 hk4 => ?_
      refine int64 (by omega) (by omega) ?_
      refine ⟨k + 1, by omega, rfl, ⟨rfl, rfl, rfl, rfl, rfl, trivial⟩, hkl, ((hM.tr hk02).kp hk3 (fun x hx => by have := hX3 x hx; omega)).kp hk4 (fun x hx => by simp at hx; omega), ((hkz.tr hk02).ownX hk3 (hO.kp hk02)).trans hk4 (fun x hx _ => hx), v', ?_, hC4⟩
      rw [hbk]
      exact hO3.kpl hk4 (by simp; omega)
    · have hbe : bodyE p x = [] := by unfold bodyE; rw [if_neg (by omega)]
      have hkc := Kp.refl [] z
      refine ld (Bk.cl (hC.kp hkc (by simp) : MkC z b9 q.nat vsh vfn v (.slice none 0 0)) rfl).cell ?_
      refine fill [.slice none 0 0] rfl ?_
      refine new fun bn z2 hbn hBn hsn hkn => ?_
      have hk02 : Kp [] z z2 := hkc.tr hkn
      refine (hO.kp hk02).ap1 τok rfl rfl (by decide) (bodyE p x) [.slice none 0 0] ⟨none, 0, by rw [hbe]; rfl, by rw [hbe]; exact Sl.nil _ _ _⟩ (fun i t hi => by rw [Nat.zero_add]; exact hBn.cl hi) (by rw [htl]; omega) (by rw [htl]; simp only [maxLen]; omega) fun v' z3 hO3 hk3 hb3 => ?_
      have hC3 : MkC z3 b9 q.nat vsh vfn v (.slice none 0 0) := (hC.kp hk02 (by simp)).kp hk3 (fun hx => by have := hX3 _ hx; omega)
      obtain ⟨aw, cw, hvw⟩ := hO3.len
      refine st hC3 (by simp) (by rw [hvw]; rfl) fun z4 hC4 hs4 hk4 => ?_
      refine int64 (by omega) (by omega) ?_
      refine ⟨k + 1, by omega, rfl, ⟨rfl, rfl, rfl, rfl, rfl, trivial⟩, hkl, ((hM.tr hk02).kp hk3 (fun x hx => by have := hX3 x hx; omega)).kp hk4 (fun x hx => by simp at hx; omega), ((hkz.tr hk02).ownX hk3 (hO.kp hk02)).trans hk4 (fun x hx _ => hx), v', ?_, hC4⟩
      rw [hbk]
      exact hO3.kpl hk4 (by simp; omega)
  rw [List.take_of_length_le (by simp; omega)] at hO
  obtain ⟨abd, cbd, hvb, hSb⟩ := hO.den (by simp; omega)
  rw [hvb] at hC
  -- main
  refine ld (hM.f.cl rfl).cell ?_
  refine ev_call (block21_ct hF.caps hM.sub p.main a3 c3 h3 h4 0 (by omega) hF.main (fits _ (by simp))) ?_
  rintro e z1 ⟨amn, cmn, rfl, hSm, hkm⟩
  have hC1 : MkC z1 b9 q.nat vsh vfn _ (.slice none 0 0) := hC.kp hkm (by simp)
  refine st hC1 (by simp) rfl fun z2 hC2 hs2 hk2 => ?_
  have hM2 := (hM.tr hkm).kp hk2 (fun x hx => by simp at hx; omega)
  have hyz := hkz.size
  have hzz := hkm.size
  have hb9w : w.heap.size ≤ b9 := by omega
  have hkz2 : Kp [b9] z z2 := (hkm.weak (by simp)).trans hk2 (fun x hx _ => hx)
  have hky2 : Kp [b9] y z2 := hkz.trans hkz2 (fun x hx _ => hx)
  have hku2 : Kp [b9] u0 z2 := hky.trans hky2 (fun x hx _ => hx)
  have hden : ∀ (X : List Nat) (z' : World), Kp X z2 z' → (∀ x ∈ X, x < w.heap.size + 3) → rCod.den (New w.heap.size z') [.int .i64 q.nat, vsh, vfn, .slice abd (p.bodies.map (bodyE p)).length cbd, .slice amn (codeE p p.main 0).length cmn] (codeM p q) := by
    intro X z' hk' hX
    have nX : ∀ b, b9 < b → b ∉ X := fun b hb hx => by have := hX b hx; omega
    refine ⟨ash, csh, afn, cfn, abd, cbd, amn, cmn, by rw [← hvsh, ← hvfn]; rfl, ?_, ?_, ?_, ?_, g5⟩
    · exact hSs.mono fun b o v hv => ⟨by have := hv.1; omega, (hv.2.2.kp hku2 (by simpa using hv.2.1)).kp hk' (fun hx => by have := hX b hx; have := hv.1; omega)⟩
    · exact hSf.mono fun b o v hv => ⟨by have := hv.1; omega, (hv.2.kp hky2 (by have := hv.1; simp; omega)).kp hk' (nX b (by have := hv.1; omega))⟩
    · exact hSb.mono fun b o v hv => ⟨by have := hv.1; omega, (hv.2.kp hkz2 (by have := hv.1; simp; omega)).kp hk' (nX b (by have := hv.1; omega))⟩
    · exact hSm.mono fun b o v hv => ⟨by have := hv.1; omega, (hv.2.kp hk2 (by have := hv.1; simp; omega)).kp hk' (nX b (by have := hv.1; omega))⟩
  refine ldN [.int .i64 q.nat, vsh, vfn, .slice abd (p.bodies.map (bodyE p)).length cbd, .slice amn (codeE p p.main 0).length cmn] rfl (fun j v hj => by rw [Nat.zero_add]; exact Bk.cl hC2 hj) ?_
  refine ev_call (check20_ct (New.sub _ _) (hden [] z2 (Kp.refl _ _) (by simp))) ?_
  rintro e z3 ⟨rfl, hk3⟩
  have hM := hM2.tr hk3
  refine br_dec (fun r5 => ?_) (fun r5 => ?_)
  · rw [if_pos r5] at hRES
    refine stN (vs := [.int .i64 0, .slice none 0 0, .slice none 0 0, .slice none 0 0, .slice none 0 0]) hM.z rfl (by simp [Value.oneCell']) fun wz hBz hsz hkz => ?_
    refine resN τok rfl [.int .i64 0, .slice none 0 0, .slice none 0 0, .slice none 0 0, .slice none 0 0] rfl (fun j v hj => hBz.cl hj) ?_
    have hkz : Kp [] w wz := hM.k.trans hkz fun x hx hl => by simp at hx; omega
    rw [← hRES]
    exact ⟨_, rfl, codZ_den _, hkz⟩
  rw [if_neg r5] at hRES
  have hC3 := Bk.kp hC2 hk3 (by simp)
  refine ldN [.int .i64 q.nat, vsh, vfn, .slice abd (p.bodies.map (bodyE p)).length cbd, .slice amn (codeE p p.main 0).length cmn] rfl (fun j v hj => by rw [Nat.zero_add]; exact Bk.cl hC3 hj) ?_
  refine stN (vs := [.int .i64 q.nat, vsh, vfn, .slice abd (p.bodies.map (bodyE p)).length cbd, .slice amn (codeE p p.main 0).length cmn]) hM.z rfl (by rw [← hvsh, ← hvfn]; simp [Value.oneCell']) fun wz hBz hsz hkz4 => ?_
  refine resN τok rfl [.int .i64 q.nat, vsh, vfn, .slice abd (p.bodies.map (bodyE p)).length cbd, .slice amn (codeE p p.main 0).length cmn] rfl (fun j v hj => hBz.cl hj) ?_
  have hkw : Kp [] w wz := hM.k.trans hkz4 fun x hx hl => by simp at hx; omega
  rw [← hRES]
  exact ⟨_, rfl, hden _ wz ((hk3.weak (by simp)).trans hkz4 (fun x hx _ => hx)) (fun x hx => by simp at hx; omega), hkw⟩
end
end Go.Proofs.YtjpdkcejkogciaaDoor

/-
  Package emit: weights.
-/
set_option linter.unusedSimpArgs false
set_option linter.unusedVariables false
namespace Cd
open Go Go.Wx
theorem sumL_all (l : List Nat) : sumL l l.length = l.sum := by unfold sumL; rw [List.take_length]
end Cd
namespace Go.Proofs.YtjpdkcejkogciaaDoor
open Go.Wx Cd

section
variable {p : Flt} {q : Brd} {C : Mem} {w : World}
theorem weight18_ct (hS : Sub C w) {cf : List Value} (hp : rFlt.den C cf p) :
    CallOk Tryd.prog 18 ∧ Calls Tryd.prog 18 #[.agg cf.toArray, .int .i64 5000] w (fun e w' => ∃ n : Int, e = .returned (.int .i64 n) ∧ (n < 5000 → weightF p < 5000) ∧ Kp [] w w') := by
  refine ⟨⟨_, Tryd.func18, rfl, by decide⟩, ?_⟩
  obtain ⟨a1, c1, a2, c2, a3, c3, rfl, h1, h2, h3, h4⟩ := hp
  have hl1 := h1.1
  have hl2 := h2.1
  have hl3 := h3.1
  obtain ⟨ls, hls⟩ : ∃ l, (p.funs.map fun f => 1 + f.body.length) = l := ⟨_, rfl⟩
  obtain ⟨ms, hms⟩ : ∃ l, (p.bodies.map fun b => 1 + b.length) = l := ⟨_, rfl⟩
  have hlsl : ls.length = p.funs.length := by rw [← hls]; simp
  have hmsl : ms.length = p.bodies.length := by rw [← hms]; simp
  have hwt : weightF p = p.main.length + ls.sum + ms.sum := by unfold weightF; rw [hls, hms]
  obtain ⟨lim, hlim⟩ : ∃ x : Int, 5000 = x := ⟨_, rfl⟩
  rw [hlim]
  refine calls_of (args := [_, _]) 55 [.tmp 4] τok Tryd.func18 rfl rfl rfl (Nat.le_of_ble_eq_true rfl) ?_
  refine new fun b2 w1 hb2 hB2 hs1 hk1 => ?_
  have hB2 : Bk w1.heap b2 [.slice a1 p.funs.length c1, .slice a2 p.bodies.length c2, .slice a3 p.main.length c3] 27 := hB2
  have hS1 := hS.tr hk1
  refine ld (hB2.cl rfl).cell ?_
  refine lp τok (σ := Nat × Nat) (fun x => [(1, .int .i64 lim), (2, .pointer (some ⟨b2, 0, none⟩)), (5, .int .i64 x.2), (6, .int .i64 x.1)])
    (fun x u => u = w1 ∧ x.1 ≤ p.funs.length ∧ x.2 = p.main.length + sumL ls x.1 ∧ (x.2 : Int) ≤ 5000 + 2 * 1099511627776) (fun x => p.funs.length - x.1) (0, p.main.length) rfl
    ⟨rfl, rfl, rfl, rfl, trivial⟩ ⟨rfl, Nat.zero_le _, by simp [sumL], by simp only; omega⟩ ?_
  rintro ⟨i, n⟩ u ⟨rfl, hi, hn, hnb⟩
  simp only at hi hn hnb
  refine ld (hB2.cl rfl).cell ?_
  refine br_dec (fun g1 => ?_) (fun g1 => ?_)
  · have hil : i < p.funs.length := by omega
    refine br_dec (fun g2 => ?_) (fun g2 => ?_)
    · obtain ⟨x, hx, _⟩ := drop_get hil
      obtain ⟨bx, ox, hax, ax, cx, hsx, hxc, hc0, hc1, hcap⟩ := sl_ffn h1 hx
      have hxl := hsx.1
      refine int64 (by omega) (by omega) ?_
      refine ld (hB2.cl rfl).cell ?_
      refine ixE hax i rfl hil ?_
      refine ld (hS1 _ _ _ hc1).cell ?_
      refine int64 (by omega) (by omega) ?_
      refine int64 (by omega) (by omega) ?_
      have hst : sumL ls (i + 1) = sumL ls i + (1 + x.body.length) := sumL_step (by rw [← hls, List.getElem?_map, hx]; rfl)
      refine ⟨(i + 1, n + 1 + x.body.length), by simp only; omega, rfl, ⟨rfl, rfl, eqI (by simp only; omega), rfl, trivial⟩, rfl, hil, by simp only; rw [hst]; omega, by simp only; omega⟩
    · have hex : i = p.funs.length ∨ 5000 ≤ n := .inr (by omega)
      refine lp τok (σ := Nat × Nat) (fun x => [(1, .int .i64 lim), (2, .pointer (some ⟨b2, 0, none⟩)), (5, .int .i64 x.2), (7, .int .i64 x.1)])
        (fun x z => z = u ∧ x.1 ≤ p.bodies.length ∧ (x.2 = p.main.length + ls.sum + sumL ms x.1 ∨ 5000 ≤ x.2) ∧ (x.2 : Int) ≤ 5000 + 2 * 1099511627776) (fun x => p.bodies.length - x.1) (0, n) rfl
        ⟨rfl, rfl, rfl, rfl, trivial⟩ ⟨rfl, Nat.zero_le _, ?_, hnb⟩ ?_
      · rcases hex with e | e
        · left
          simp only
          rw [hn, e, ← hlsl, sumL_all]
          simp [sumL]
        · exact .inr e
      rintro ⟨j, m⟩ z ⟨rfl, hj, hm, hmb⟩
      simp only at hj hm hmb
      refine ld (hB2.cl rfl).cell ?_
      refine br_dec (fun g3 => ?_) (fun g3 => ?_)
      · have hjl : j < p.bodies.length := by omega
        refine br_dec (fun g4 => ?_) (fun g4 => ?_)
        · obtain ⟨x, hx, _⟩ := drop_get hjl
          obtain ⟨bx, ox, hax, ax, cx, hcx, hcap, hsx⟩ := h2.sk hx
          have hxl := hsx.1
          refine int64 (by omega) (by omega) ?_
          refine ld (hB2.cl rfl).cell ?_
          refine ixE hax j rfl hjl ?_
          refine ld (hS1 _ _ _ hcx).cell ?_
          refine int64 (by omega) (by omega) ?_
          refine int64 (by omega) (by omega) ?_
          have hst : sumL ms (j + 1) = sumL ms j + (1 + x.length) := sumL_step (by rw [← hms, List.getElem?_map, hx]; rfl)
          refine ⟨(j + 1, m + 1 + x.length), by simp only; omega, rfl, ⟨rfl, rfl, eqI (by simp only; omega), rfl, trivial⟩, rfl, hjl, ?_, by simp only; omega⟩
          left
          simp only
          rw [hst]
          omega
        · exact ⟨m, rfl, fun h => by omega, hk1⟩
      · refine ⟨m, rfl, fun h => ?_, hk1⟩
        have hjn : j = ms.length := by omega
        rw [hjn, sumL_all] at hm
        omega
  · have hex : i = p.funs.length ∨ 5000 ≤ n := .inl (by omega)
    refine lp τok (σ := Nat × Nat) (fun x => [(1, .int .i64 lim), (2, .pointer (some ⟨b2, 0, none⟩)), (5, .int .i64 x.2), (7, .int .i64 x.1)])
      (fun x z => z = u ∧ x.1 ≤ p.bodies.length ∧ (x.2 = p.main.length + ls.sum + sumL ms x.1 ∨ 5000 ≤ x.2) ∧ (x.2 : Int) ≤ 5000 + 2 * 1099511627776) (fun x => p.bodies.length - x.1) (0, n) rfl
      ⟨rfl, rfl, rfl, rfl, trivial⟩ ⟨rfl, Nat.zero_le _, ?_, hnb⟩ ?_
    · rcases hex with e | e
      · left
        simp only
        rw [hn, e, ← hlsl, sumL_all]
        simp [sumL]
      · exact .inr e
    rintro ⟨j, m⟩ z ⟨rfl, hj, hm, hmb⟩
    simp only at hj hm hmb
    refine ld (hB2.cl rfl).cell ?_
    refine br_dec (fun g3 => ?_) (fun g3 => ?_)
    · have hjl : j < p.bodies.length := by omega
      refine br_dec (fun g4 => ?_) (fun g4 => ?_)
      · obtain ⟨x, hx, _⟩ := drop_get hjl
        obtain ⟨bx, ox, hax, ax, cx, hcx, hcap, hsx⟩ := h2.sk hx
        have hxl := hsx.1
        refine int64 (by omega) (by omega) ?_
        refine ld (hB2.cl rfl).cell ?_
        refine ixE hax j rfl hjl ?_
        refine ld (hS1 _ _ _ hcx).cell ?_
        refine int64 (by omega) (by omega) ?_
        refine int64 (by omega) (by omega) ?_
        have hst : sumL ms (j + 1) = sumL ms j + (1 + x.length) := sumL_step (by rw [← hms, List.getElem?_map, hx]; rfl)
        refine ⟨(j + 1, m + 1 + x.length), by simp only; omega, rfl, ⟨rfl, rfl, eqI (by simp only; omega), rfl, trivial⟩, rfl, hjl, ?_, by simp only; omega⟩
        left
        simp only
        rw [hst]
        omega
      · exact ⟨m, rfl, fun h => by omega, hk1⟩
    · refine ⟨m, rfl, fun h => ?_, hk1⟩
      have hjn : j = ms.length := by omega
      rw [hjn, sumL_all] at hm
      omega
end
end Go.Proofs.YtjpdkcejkogciaaDoor

