/-
  Own texts put together: BaD, BaE, BaF, RcE, RcF.
-/
import Derived.Test.YtjpdkcejkogciaaDoorMg09
/-
  Package bare: there.
-/
set_option linter.unusedSimpArgs false
set_option linter.unusedVariables false
namespace Go.Proofs.YtjpdkcejkogciaaDoor
open Go.Wx Cd

theorem thereB_ct {C : Mem} {w : World} (hS : Sub C w) {cs : List Value} {p : Brd} (hp : rBrd.den C cs p) (hbs : p.bodies.length = p.shapes.length) (known : Nat) (hkn : known ≤ p.bodies.length) {t : List Nd} {ta : Option Addr} {tc : Nat} (ht : Sl rNd C ta t) :
    CallOk Tryd.prog 37 ∧ Calls Tryd.prog 37 #[.agg cs.toArray, .int .i64 known, .slice ta t.length tc] w (fun e w' => e = .returned (.bool (thereB p known t)) ∧ Kp [] w w') := by
  obtain ⟨a1, c1, a2, c2, a3, c3, a4, c4, rfl, h1, h2, h3, h4, h5, h6, h7⟩ := hp
  obtain ⟨RES, hRES⟩ : ∃ r, thereB p known t = r := ⟨_, rfl⟩
  rw [hRES]
  have hl := ht.1
  have hbl := h1.1
  refine ⟨⟨_, Tryd.func37, rfl, by decide⟩, ?_⟩
  refine calls_of (args := [_, _, _]) 70 [.tmp 6] τok Tryd.func37 rfl rfl rfl (Nat.le_of_ble_eq_true rfl) ?_
  refine new fun b1 w1 hb1 hB1 hs1 hk1 => ?_
  have hB1 : Bk w1.heap b1 [.slice a1 p.bodies.length c1, .slice a2 p.shapes.length c2, .slice a3 p.main.length c3, .int .i64 p.nat, .slice a4 p.prims.length c4] 33 := by
    have : (Value.agg #[.slice a1 p.bodies.length c1, .slice a2 p.shapes.length c2, .slice a3 p.main.length c3, .int .i64 p.nat, .slice a4 p.prims.length c4]).cells.toList = [.slice a1 p.bodies.length c1, .slice a2 p.shapes.length c2, .slice a3 p.main.length c3, .int .i64 p.nat, .slice a4 p.prims.length c4] := by rfl
    rw [← this]
    exact hB1
  have hS1 := hS.tr hk1
  rw [thereB_eq] at hRES
  refine ev_call (belowB_ct hS1 ht 0) ?_
  rintro e w2 ⟨rfl, hk2⟩
  have hk12 := hk1.tr hk2
  refine br (fun g1 => ?_) (fun g1 => ?_)
  · have g1 : belowB 0 t = false := by simpa using g1
    rw [g1, Bool.false_and] at hRES
    exact ⟨by rw [← hRES]; rfl, hk12⟩
  have g1 : belowB 0 t = true := by simpa using g1
  rw [g1, Bool.true_and] at hRES
  have hmem : ∀ n ∈ t, ∃ c, ndB n = some c := by
    unfold belowB at g1
    simp only [Bool.and_eq_true, decide_eq_true_eq] at g1
    obtain ⟨_, x, hx⟩ := shapeB_zero.1 g1.1
    obtain ⟨hrow, hok⟩ := treeB_some hx
    rw [hrow]
    exact ok_mem x hok
  refine lp τok (σ := Nat) (fun k => [(1, .int .i64 known), (3, .pointer (some ⟨b1, 0, none⟩)), (13, .slice ta t.length tc), (14, .int .i64 t.length), (15, .int .i64 k)])
    (fun k w' => k ≤ t.length ∧ Kp [] w2 w' ∧ RES = (t.drop k).all (nameB p known)) (fun k => t.length - k) 0 rfl ⟨rfl, rfl, rfl, rfl, rfl, trivial⟩ ⟨Nat.zero_le _, Kp.refl _ _, hRES.symm⟩ ?_
  rintro k w3 ⟨hk, hkp, hr⟩
  have hB3 := (hB1.kp hk2 (by simp)).kp hkp (by simp)
  have hS3 := (hS1.tr hk2).tr hkp
  refine br_dec (fun g2 => ?_) (fun g2 => ?_)
  · have hlt : k < t.length := by omega
    obtain ⟨n, hn, hd⟩ := drop_get hlt
    rw [hd, List.all_cons] at hr
    obtain ⟨c, hvc⟩ := hmem n (List.mem_of_getElem? hn)
    obtain ⟨b, o, rfl, i1, i2, i3, hcells⟩ := sl_nd ht hn
    refine ix k rfl hlt ?_
    refine ldN [.int .i64 n.op, .int .i64 n.a, .int .i64 n.b] rfl (fun j v hj => hS3 _ _ _ (hcells j v hj)) ?_
    refine new fun bn w3' hbn hN hsn hk3' => ?_
    refine stN hN rfl (by simp [Value.oneCell']) fun w4 hN4 hs4 hk4 => ?_
    have hN4 : Bk w4.heap bn [.int .i64 n.op, .int .i64 n.a, .int .i64 n.b] 47 := hN4
    have hk34 : Kp [] w3 w4 := hk3'.newSt hbn hk4
    have hk14' : Kp [] w2 w4 := hkp.tr hk34
    have hB4 := hB3.kp hk34 (by simp)
    have hS4 := hS3.tr hk34
    have no : ∀ w', Kp [] w w' → nameB p known n = false → Ending.returned (one [.bool false]) = .returned (.bool RES) ∧ Kp [] w w' := fun w' h e => by
      rw [e, Bool.false_and] at hr
      exact ⟨by rw [hr]; rfl, h⟩
    refine ld (hN4.cl rfl).cell ?_
    refine br_dec (fun o26 => ?_) (fun o26 => ?_)
    · refine drawR τok (by kernel_rfl) ?_
      have hna := ndB_a hvc (by omega)
      refine ldR (hN4.cl rfl) ?_
      refine br_dec (fun q1 => ?_) (fun q1 => ?_)
      · intro m7
        have hnm : nameB p known n = false := by unfold nameB; simp [o26, show ¬ n.a < known by omega]
        exact no _ ((hk12.tr hk14').dr _) hnm
      obtain ⟨x, hx⟩ : ∃ x, p.bodies[n.a.toNat]? = some x := ⟨p.bodies[n.a.toNat]'(by omega), by simp⟩
      obtain ⟨b', o', hb', a', cap, hcell, _, hsl'⟩ := h1.sk hx
      subst hb'
      refine ldR (hB4.cl rfl) ?_
      refine ldR (hN4.cl rfl) ?_
      refine ix n.a.toNat (by omega) (by omega) ?_
      refine ldR (hS4 _ _ _ hcell) ?_
      refine ldR (hN4.cl rfl) ?_
      intro m7
      obtain ⟨w5, hw5⟩ : ∃ w5 : World, w5 = { w4 with drawn := m7 } := ⟨_, rfl⟩
      have hk5 : Kp [] w2 w5 := by rw [hw5]; exact hk14'.dr _
      have hN5 : Bk w5.heap bn [.int .i64 n.op, .int .i64 n.a, .int .i64 n.b] 47 := by rw [hw5]; exact hN4
      have hB5 : Bk w5.heap b1 [.slice (some ⟨b', o', none⟩) p.bodies.length c1, .slice a2 p.shapes.length c2, .slice a3 p.main.length c3, .int .i64 p.nat, .slice a4 p.prims.length c4] 33 := by rw [hw5]; exact hB4
      have hS5 : Sub C w5 := by rw [hw5]; exact hS4
      rw [← hw5]
      refine br (fun q2 => ?_) (fun q2 => ?_)
      · have hnm : nameB p known n = false := by
          unfold nameB
          rw [hx]
          rw [decide_eq_true o26] at q2
          simp at q2
          simp [o26, q2]
        exact no _ (hk12.tr hk5) hnm
      · have hnm : nameB p known n = true := by
          unfold nameB
          rw [hx]
          rw [decide_eq_true o26] at q2
          have q3 : (0 : Int) < x.length := by simpa using q2
          simp [o26, show n.a < known by omega]
          omega
        refine drawR τok (by kernel_rfl) ?_
        refine ldR (hN5.cl rfl) ?_
        refine br_no (show ¬ n.op = 27 by omega) ?_
        intro m9
        refine int64 (by omega) (by omega) ?_
        refine ⟨k + 1, by omega, rfl, ⟨rfl, rfl, rfl, rfl, rfl, trivial⟩, hlt, hk5.dr _, ?_⟩
        rw [hr, hnm, Bool.true_and]
    refine ld (hN4.cl rfl).cell ?_
    refine br_dec (fun o27 => ?_) (fun o27 => ?_)
    · refine drawR τok (by kernel_rfl) ?_
      have hna := ndB_a hvc (by omega)
      refine ldR (hN4.cl rfl) ?_
      refine br_dec (fun q1 => ?_) (fun q1 => ?_)
      · intro m7
        have hnm : nameB p known n = false := by unfold nameB; simp [o27, show ¬ n.a < known by omega]
        exact no _ ((hk12.tr hk14').dr _) hnm
      obtain ⟨x, hx⟩ : ∃ x, p.bodies[n.a.toNat]? = some x := ⟨p.bodies[n.a.toNat]'(by omega), by simp⟩
      obtain ⟨b', o', hb', a', cap, hcell, _, hsl'⟩ := h1.sk hx
      subst hb'
      refine ldR (hB4.cl rfl) ?_
      refine ldR (hN4.cl rfl) ?_
      refine ix n.a.toNat (by omega) (by omega) ?_
      refine ldR (hS4 _ _ _ hcell) ?_
      refine ldR (hN4.cl rfl) ?_
      intro m7
      obtain ⟨w5, hw5⟩ : ∃ w5 : World, w5 = { w4 with drawn := m7 } := ⟨_, rfl⟩
      have hk5 : Kp [] w2 w5 := by rw [hw5]; exact hk14'.dr _
      have hN5 : Bk w5.heap bn [.int .i64 n.op, .int .i64 n.a, .int .i64 n.b] 47 := by rw [hw5]; exact hN4
      have hB5 : Bk w5.heap b1 [.slice (some ⟨b', o', none⟩) p.bodies.length c1, .slice a2 p.shapes.length c2, .slice a3 p.main.length c3, .int .i64 p.nat, .slice a4 p.prims.length c4] 33 := by rw [hw5]; exact hB4
      have hS5 : Sub C w5 := by rw [hw5]; exact hS4
      rw [← hw5]
      refine br (fun q2 => ?_) (fun q2 => ?_)
      · have hnm : nameB p known n = false := by
          unfold nameB
          rw [hx]
          rw [decide_eq_false o26] at q2
          simp at q2
          simp [o27]
          intro _ e
          rw [e] at q2
          simp at q2
        exact no _ (hk12.tr hk5) hnm
      · have hx0 : x = [] := by
          rw [decide_eq_false o26] at q2
          simpa using q2
        obtain ⟨s, hsx⟩ : ∃ x, p.shapes[n.a.toNat]? = some x := ⟨p.shapes[n.a.toNat]'(by omega), by simp⟩
        obtain ⟨b6, o6, hb6, ak, ck, hkept, _, hcp, hck⟩ := sl_shp h2 hsx
        subst hb6
        refine drawR τok (by kernel_rfl) ?_
        refine ldR (hN5.cl rfl) ?_
        refine br_yes o27 ?_
        refine ldR (hN5.cl rfl) ?_
        refine ldR (hB5.cl rfl) ?_
        refine ldR (hN5.cl rfl) ?_
        refine ix n.a.toNat (by omega) (by omega) ?_
        refine ldR (hS5 _ _ _ hck) ?_
        intro m9
        refine br_dec (fun q3 => ?_) (fun q3 => ?_)
        · have hnm : nameB p known n = false := by
            unfold nameB
            rw [hx, hsx]
            simp [o27, show ¬ n.b < (s.kept.length : Int) by omega]
          exact no _ ((hk12.tr hk5).dr _) hnm
        · have hnm : nameB p known n = true := by
            unfold nameB
            rw [hx, hsx, hx0]
            simp [o27, show n.a < known by omega, show n.b < (s.kept.length : Int) by omega]
          refine int64 (by omega) (by omega) ?_
          refine ⟨k + 1, by omega, rfl, ⟨rfl, rfl, rfl, rfl, rfl, trivial⟩, hlt, hk5.dr _, ?_⟩
          rw [hr, hnm, Bool.true_and]
    refine ld (hN4.cl rfl).cell ?_
    refine drawR τok (by kernel_rfl) ?_
    refine br_dec (fun o28 => ?_) (fun o28 => ?_)
    · skip
      have hna := ndB_a hvc (by omega)
      refine ldR (hN4.cl rfl) ?_
      refine br_dec (fun q1 => ?_) (fun q1 => ?_)
      · intro m7
        have hnm : nameB p known n = false := by unfold nameB; simp [o28, show ¬ n.a < known by omega]
        exact no _ ((hk12.tr hk14').dr _) hnm
      obtain ⟨x, hx⟩ : ∃ x, p.bodies[n.a.toNat]? = some x := ⟨p.bodies[n.a.toNat]'(by omega), by simp⟩
      obtain ⟨b', o', hb', a', cap, hcell, _, hsl'⟩ := h1.sk hx
      subst hb'
      refine ldR (hB4.cl rfl) ?_
      refine ldR (hN4.cl rfl) ?_
      refine ix n.a.toNat (by omega) (by omega) ?_
      refine ldR (hS4 _ _ _ hcell) ?_
      refine ldR (hN4.cl rfl) ?_
      intro m7
      obtain ⟨w5, hw5⟩ : ∃ w5 : World, w5 = { w4 with drawn := m7 } := ⟨_, rfl⟩
      have hk5 : Kp [] w2 w5 := by rw [hw5]; exact hk14'.dr _
      have hN5 : Bk w5.heap bn [.int .i64 n.op, .int .i64 n.a, .int .i64 n.b] 47 := by rw [hw5]; exact hN4
      have hB5 : Bk w5.heap b1 [.slice (some ⟨b', o', none⟩) p.bodies.length c1, .slice a2 p.shapes.length c2, .slice a3 p.main.length c3, .int .i64 p.nat, .slice a4 p.prims.length c4] 33 := by rw [hw5]; exact hB4
      have hS5 : Sub C w5 := by rw [hw5]; exact hS4
      rw [← hw5]
      refine br (fun q2 => ?_) (fun q2 => ?_)
      · have hnm : nameB p known n = false := by
          unfold nameB
          rw [hx]
          rw [decide_eq_false o26] at q2
          simp at q2
          simp [o28]
          intro _ e
          rw [e] at q2
          simp at q2
        exact no _ (hk12.tr hk5) hnm
      · have hx0 : x = [] := by
          rw [decide_eq_false o26] at q2
          simpa using q2
        have hnm : nameB p known n = true := by
          unfold nameB
          rw [hx, hx0]
          simp [o28, show n.a < known by omega]
        refine drawR τok (by kernel_rfl) ?_
        refine ldR (hN5.cl rfl) ?_
        refine br_no (show ¬ n.op = 27 by omega) ?_
        intro m9
        refine int64 (by omega) (by omega) ?_
        refine ⟨k + 1, by omega, rfl, ⟨rfl, rfl, rfl, rfl, rfl, trivial⟩, hlt, hk5.dr _, ?_⟩
        rw [hr, hnm, Bool.true_and]
    · have hnm : nameB p known n = true := by unfold nameB; simp [o26, o27, o28]
      intro m7
      refine drawR τok (by kernel_rfl) ?_
      refine ldR (hN4.cl rfl) ?_
      refine br_no o27 ?_
      intro m9
      refine int64 (by omega) (by omega) ?_
      refine ⟨k + 1, by omega, rfl, ⟨rfl, rfl, rfl, rfl, rfl, trivial⟩, hlt, hk14'.dr _, ?_⟩
      rw [hr, hnm, Bool.true_and]
  · rw [List.drop_eq_nil_of_le (by omega)] at hr
    exact ⟨by rw [hr]; rfl, hk12.tr hkp⟩
end Go.Proofs.YtjpdkcejkogciaaDoor

/-
  Package bare: registered.
-/
set_option linter.unusedSimpArgs false
set_option linter.unusedVariables false
namespace Go.Proofs.YtjpdkcejkogciaaDoor
open Go.Wx Cd

theorem registered1_ct (y : Int × Int) (x : Int × Int) {b : Nat} {w : World} (h1 : Cl w.heap b 0 (.int .i64 x.1)) (h2 : Cl w.heap b 1 (.int .i64 x.2)) :
    CallOk Tryd.prog 62 ∧ Calls Tryd.prog 62 #[.agg #[.int .i64 y.1, .int .i64 y.2], .pointer (some ⟨b, 0, none⟩)] w (fun e w' => e = .returned (.bool (decide (y.1 = x.1) || decide (y.2 = x.2))) ∧ Kp [] w w') := by
  refine ⟨⟨_, Tryd.func62, rfl, by decide⟩, ?_⟩
  refine calls_of (args := [_, _]) 16 [.tmp 3] τok Tryd.func62 rfl rfl rfl (Nat.le_of_ble_eq_true rfl) ?_
  refine new fun bn w1 hbn hN hsn hk1 => ?_
  have hN : Bk w1.heap bn [.int .i64 y.1, .int .i64 y.2] 77 := hN
  refine ld (hN.cl rfl).cell ?_
  refine ld (h1.kp hk1 (by simp)).cell ?_
  refine br_dec (fun o => ?_) (fun o => ?_)
  · refine ⟨?_, hk1⟩
    simp only [one]
    rw [decide_eq_true o, Bool.true_or]
  · refine ld (hN.cl rfl).cell ?_
    refine ld (h2.kp hk1 (by simp)).cell ?_
    refine ⟨?_, hk1⟩
    simp only [one]
    rw [decide_eq_false o, Bool.false_or]

theorem indexPrm_ct {C : Mem} {w : World} (hS : Sub C w) (l : List (Int × Int)) (a : Option Addr) (cap : Nat) (hl : Sl rPrm C a l) (x : Int × Int) {b : Nat} (h1 : Cl w.heap b 0 (.int .i64 x.1)) (h2 : Cl w.heap b 1 (.int .i64 x.2)) :
    CallOk Tryd.prog 85 ∧ Calls Tryd.prog 85 #[.slice a l.length cap, .func (.func 62) #[] #[.pointer (some ⟨b, 0, none⟩)]] w (fun e w' => ∃ i : Int, e = .returned (.int .i64 i) ∧ Kp [] w w' ∧ (l.any (fun y => decide (y.1 = x.1) || decide (y.2 = x.2)) = decide (0 ≤ i))) := by
  refine ⟨⟨_, Tryd.func85, rfl, by decide⟩, ?_⟩
  have hlen := hl.1
  refine calls_of (args := [_, _]) 19 [.tmp 4] τok Tryd.func85 rfl rfl rfl (Nat.le_of_ble_eq_true rfl) ?_
  refine lp τok (σ := Nat) (fun k => [(0, .slice a l.length cap), (1, .func (.func 62) #[] #[.pointer (some ⟨b, 0, none⟩)]), (7, .int .i64 l.length), (8, .int .i64 k)]) (fun k w' => k ≤ l.length ∧ Kp [] w w' ∧ l.any (fun y => decide (y.1 = x.1) || decide (y.2 = x.2)) = (l.drop k).any (fun y => decide (y.1 = x.1) || decide (y.2 = x.2))) (fun k => l.length - k) 0 rfl
    ⟨rfl, rfl, rfl, rfl, trivial⟩ ⟨Nat.zero_le _, Kp.refl _ _, rfl⟩ ?_
  rintro k w1 ⟨hk, hkp, hr⟩
  refine br_dec (fun h => ?_) (fun h => ?_)
  · have hlt : k < l.length := by omega
    obtain ⟨y, hy, hd⟩ := drop_get hlt
    rw [hd, List.any_cons] at hr
    obtain ⟨b', o, rfl, _, _, hc1, hc2⟩ := sl_prm hl hy
    have hS1 := hS.tr hkp
    refine ix k rfl hlt ?_
    refine ldN [.int .i64 y.1, .int .i64 y.2] rfl (fun j v hj => ?_) ?_
    · match j with
      | 0 => simp at hj; subst hj; exact hS1 _ _ _ hc1
      | 1 => simp at hj; subst hj; exact hS1 _ _ _ hc2
      | j + 2 => simp at hj
    refine ev_call (registered1_ct y x (h1.kp hkp (by simp)) (h2.kp hkp (by simp))) ?_
    rintro e w2 ⟨rfl, hk2⟩
    have hkp2 := hkp.tr hk2
    refine br (fun hc => ?_) (fun hc => ?_)
    · refine ⟨(k : Int), rfl, hkp2, ?_⟩
      rw [hr, hc, decide_eq_true (show (0 : Int) ≤ k by omega)]
      rfl
    · refine int64 (by omega) (by omega) ?_
      refine ⟨k + 1, by omega, rfl, ⟨rfl, rfl, rfl, rfl, trivial⟩, hlt, hkp2, ?_⟩
      rw [hr, hc, Bool.false_or]
  · refine ⟨-1, rfl, hkp, ?_⟩
    rw [hr, List.drop_eq_nil_of_le (by omega)]
    rfl

theorem containsPrm_ct {C : Mem} {w : World} (hS : Sub C w) (l : List (Int × Int)) (a : Option Addr) (cap : Nat) (hl : Sl rPrm C a l) (x : Int × Int) {b : Nat} (h1 : Cl w.heap b 0 (.int .i64 x.1)) (h2 : Cl w.heap b 1 (.int .i64 x.2)) :
    CallOk Tryd.prog 61 ∧ Calls Tryd.prog 61 #[.slice a l.length cap, .func (.func 62) #[] #[.pointer (some ⟨b, 0, none⟩)]] w (fun e w' => e = .returned (.bool (l.any (fun y => decide (y.1 = x.1) || decide (y.2 = x.2)))) ∧ Kp [] w w') := by
  refine ⟨⟨_, Tryd.func61, rfl, by decide⟩, ?_⟩
  refine calls_of (args := [_, _]) 9 [.tmp 4] τok Tryd.func61 rfl rfl rfl (Nat.le_of_ble_eq_true rfl) ?_
  refine ev_call (indexPrm_ct hS l a cap hl x h1 h2) ?_
  rintro e w1 ⟨i, rfl, hk1, hi⟩
  refine ⟨?_, hk1⟩
  rw [hi]
  rfl

theorem regB_ct {C : Mem} {w : World} (hS : Sub C w) {cs : List Value} {p : Brd} (hp : rBrd.den C cs p) (hl : p.bodies.length = p.shapes.length) :
    CallOk Tryd.prog 38 ∧ Calls Tryd.prog 38 #[.agg cs.toArray] w (fun e w' => e = .returned (.bool (regB p)) ∧ Kp [] w w') := by
  obtain ⟨a1, c1, a2, c2, a3, c3, a4, c4, rfl, h1, h2, h3, h4, h5, h6, h7⟩ := hp
  obtain ⟨RES, hRES⟩ : ∃ r, regB p = r := ⟨_, rfl⟩
  rw [hRES]
  refine ⟨⟨_, Tryd.func38, rfl, by decide⟩, ?_⟩
  refine calls_of (args := [_]) 112 [.tmp 2] τok Tryd.func38 rfl rfl rfl (Nat.le_of_ble_eq_true rfl) ?_
  refine new fun b1 w1 hb1 hB1 hs1 hk1 => ?_
  have hB1 : Bk w1.heap b1 [.slice a1 p.bodies.length c1, .slice a2 p.shapes.length c2, .slice a3 p.main.length c3, .int .i64 p.nat, .slice a4 p.prims.length c4] 33 := by
    have : (Value.agg #[.slice a1 p.bodies.length c1, .slice a2 p.shapes.length c2, .slice a3 p.main.length c3, .int .i64 p.nat, .slice a4 p.prims.length c4]).cells.toList = [.slice a1 p.bodies.length c1, .slice a2 p.shapes.length c2, .slice a3 p.main.length c3, .int .i64 p.nat, .slice a4 p.prims.length c4] := by rfl
    rw [← this]
    exact hB1
  have hS1 := hS.tr hk1
  (repeat first | refine ldC ‹Sub _ _› (by assumption) ?_ | refine ld (Cl.cell (by first | assumption | exact Bk.cl (by assumption) rfl)) ?_ | refine ldK (by first | assumption | exact Bk.cl (by assumption) rfl | exact ‹Sub _ _› _ _ _ (by assumption)) ?_)
  refine br_dec (fun g1 => ?_) (fun g1 => ?_)
  · (repeat first | refine ldC ‹Sub _ _› (by assumption) ?_ | refine ld (Cl.cell (by first | assumption | exact Bk.cl (by assumption) rfl)) ?_ | refine ldK (by first | assumption | exact Bk.cl (by assumption) rfl | exact ‹Sub _ _› _ _ _ (by assumption)) ?_)
    refine ⟨?_, hk1⟩
    rw [← hRES]
    unfold regB
    rw [if_pos g1]
    simp only [one]
    congr 2
    exact decide_eq_decide.2 (by omega)
  have hR0 : RES = (natOk p.bodies p.shapes p.nat && primsB p 0 p.prims) := by rw [← hRES]; unfold regB; rw [if_neg g1]
  clear hRES
  obtain ⟨NT, hRES⟩ : ∃ r, natOk p.bodies p.shapes p.nat = r := ⟨_, rfl⟩
  rw [hRES] at hR0
  (repeat first | refine ldC ‹Sub _ _› (by assumption) ?_ | refine ld (Cl.cell (by first | assumption | exact Bk.cl (by assumption) rfl)) ?_ | refine ldK (by first | assumption | exact Bk.cl (by assumption) rfl | exact ‹Sub _ _› _ _ _ (by assumption)) ?_)
  have no : ∀ w', Kp [] w w' → NT = false → Ending.returned (one [.bool false]) = .returned (.bool RES) ∧ Kp [] w w' := fun w' h e => ⟨by rw [hR0, e]; rfl, h⟩
  refine br_dec (fun g2 => ?_) (fun g2 => ?_)
  · exact no _ hk1 (by rw [← hRES]; simp [natOk, g1, show ¬ 0 ≤ p.nat by omega])
  (repeat first | refine ldC ‹Sub _ _› (by assumption) ?_ | refine ld (Cl.cell (by first | assumption | exact Bk.cl (by assumption) rfl)) ?_ | refine ldK (by first | assumption | exact Bk.cl (by assumption) rfl | exact ‹Sub _ _› _ _ _ (by assumption)) ?_)
  refine br_dec (fun g3 => ?_) (fun g3 => ?_)
  · exact no _ hk1 (by rw [← hRES]; simp [natOk, g1, show ¬ p.nat < p.bodies.length by omega])
  obtain ⟨x, hx⟩ : ∃ x, p.bodies[p.nat.toNat]? = some x := ⟨p.bodies[p.nat.toNat]'(by omega), by simp⟩
  obtain ⟨s, hsx⟩ : ∃ x, p.shapes[p.nat.toNat]? = some x := ⟨p.shapes[p.nat.toNat]'(by omega), by simp⟩
  have hRES : NT = (decide (x.length = 0) && (decide (s.params = 0) && decide (s.kept = [[], [true]]))) := by
    rw [← hRES]
    unfold natOk
    rw [hx, hsx, decide_eq_false g1, decide_eq_true (show 0 ≤ p.nat by omega), decide_eq_true (show p.nat < p.bodies.length by omega)]
    simp
  obtain ⟨b, o, rfl, a', cap, hcx, _, _⟩ := h1.sk hx
  obtain ⟨b', o', rfl, ak, ck, hkept, _, hcp, hck⟩ := sl_shp h2 hsx
  (repeat first | refine ldC ‹Sub _ _› (by assumption) ?_ | refine ld (Cl.cell (by first | assumption | exact Bk.cl (by assumption) rfl)) ?_ | refine ldK (by first | assumption | exact Bk.cl (by assumption) rfl | exact ‹Sub _ _› _ _ _ (by assumption)) ?_)
  refine ix p.nat.toNat (by omega) (by omega) ?_
  (repeat first | refine ldC ‹Sub _ _› (by assumption) ?_ | refine ld (Cl.cell (by first | assumption | exact Bk.cl (by assumption) rfl)) ?_ | refine ldK (by first | assumption | exact Bk.cl (by assumption) rfl | exact ‹Sub _ _› _ _ _ (by assumption)) ?_)
  refine br_dec (fun g4 => ?_) (fun g4 => ?_)
  · exact no _ hk1 (by rw [hRES, decide_eq_false (by omega)]; rfl)
  rw [decide_eq_true (show x.length = 0 by omega), Bool.true_and] at hRES
  (repeat first | refine ldC ‹Sub _ _› (by assumption) ?_ | refine ld (Cl.cell (by first | assumption | exact Bk.cl (by assumption) rfl)) ?_ | refine ldK (by first | assumption | exact Bk.cl (by assumption) rfl | exact ‹Sub _ _› _ _ _ (by assumption)) ?_)
  refine ix p.nat.toNat (by omega) (by omega) ?_
  refine ldN [.int .i64 s.params, .slice ak s.kept.length ck] rfl (fun j v hj => ?_) ?_
  · match j with
    | 0 => simp at hj; subst hj; exact hS1 _ _ _ hcp
    | 1 => simp at hj; subst hj; exact hS1 _ _ _ hck
    | j + 2 => simp at hj
  refine new fun b2 w2 hb2 hB2 hs2 hk2 => ?_
  refine stN hB2 rfl (by simp [Value.oneCell']) fun w3 hB3 hs3 hk3 => ?_
  have hk23 : Kp [] w1 w3 := hk2.newSt hb2 hk3
  have hk13 := hk1.tr hk23
  have hS3 := hS1.tr hk23
  (repeat first | refine ldC ‹Sub _ _› (by assumption) ?_ | refine ld (Cl.cell (by first | assumption | exact Bk.cl (by assumption) rfl)) ?_ | refine ldK (by first | assumption | exact Bk.cl (by assumption) rfl | exact ‹Sub _ _› _ _ _ (by assumption)) ?_)
  refine br_dec (fun g5 => ?_) (fun g5 => ?_)
  · exact no _ hk13 (by rw [hRES, decide_eq_false g5]; rfl)
  rw [decide_eq_true (show s.params = 0 by simpa using g5), Bool.true_and] at hRES
  (repeat first | refine ldC ‹Sub _ _› (by assumption) ?_ | refine ld (Cl.cell (by first | assumption | exact Bk.cl (by assumption) rfl)) ?_ | refine ldK (by first | assumption | exact Bk.cl (by assumption) rfl | exact ‹Sub _ _› _ _ _ (by assumption)) ?_)
  refine br_dec (fun g6 => ?_) (fun g6 => ?_)
  · exact no _ hk13 (by rw [hRES, decide_eq_false (fun e => g6 (by rw [e]; rfl))])
  have g6 : s.kept.length = 2 := by
    have : (s.kept.length : Int) = 2 := by simpa using g6
    omega
  obtain ⟨y0, y1, hy⟩ : ∃ y0 y1, s.kept = [y0, y1] := by
    match h : s.kept, g6 with
    | [y0, y1], _ => exact ⟨y0, y1, rfl⟩
  obtain ⟨b5, o5, rfl, a0, c0, hc0, hsl0⟩ := hkept.sl (i := 0) (x := y0) (by rw [hy]; rfl)
  obtain ⟨b6, o6, e6, a1, c1, hc1, hsl1⟩ := hkept.sl (i := 1) (x := y1) (by rw [hy]; rfl)
  have e6 := Option.some.inj e6
  injection e6 with e7 e8
  subst e7 e8
  (repeat first | refine ldC ‹Sub _ _› (by assumption) ?_ | refine ld (Cl.cell (by first | assumption | exact Bk.cl (by assumption) rfl)) ?_ | refine ldK (by first | assumption | exact Bk.cl (by assumption) rfl | exact ‹Sub _ _› _ _ _ (by assumption)) ?_)
  refine ix 0 rfl (by omega) ?_
  (repeat first | refine ldC ‹Sub _ _› (by assumption) ?_ | refine ld (Cl.cell (by first | assumption | exact Bk.cl (by assumption) rfl)) ?_ | refine ldK (by first | assumption | exact Bk.cl (by assumption) rfl | exact ‹Sub _ _› _ _ _ (by assumption)) ?_)
  refine br_dec (fun g7 => ?_) (fun g7 => ?_)
  · refine no _ hk13 ?_
    rw [hRES, decide_eq_false (fun e => g7 ?_)]
    rw [hy] at e
    simp at e
    rw [e.1]
    rfl
  have g7 : y0 = [] := List.length_eq_zero_iff.1 (by
    have : (y0.length : Int) = 0 := by simpa using g7
    omega)
  (repeat first | refine ldC ‹Sub _ _› (by assumption) ?_ | refine ld (Cl.cell (by first | assumption | exact Bk.cl (by assumption) rfl)) ?_ | refine ldK (by first | assumption | exact Bk.cl (by assumption) rfl | exact ‹Sub _ _› _ _ _ (by assumption)) ?_)
  refine ix 1 rfl (by omega) ?_
  (repeat first | refine ldC ‹Sub _ _› (by assumption) ?_ | refine ld (Cl.cell (by first | assumption | exact Bk.cl (by assumption) rfl)) ?_ | refine ldK (by first | assumption | exact Bk.cl (by assumption) rfl | exact ‹Sub _ _› _ _ _ (by assumption)) ?_)
  refine fill [.bool true] rfl ?_
  refine new fun b8 w8 hb8 hB8 hs8 hk8 => ?_
  have hk18 := hk13.tr hk8
  have hD : Sl rBool (New b8 w8) (some ⟨b8, 0, none⟩) [true] := ⟨by simp, .inr ⟨b8, 0, rfl, fun i x hi => by
    match i with
    | 0 =>
      simp at hi
      subst hi
      exact ⟨[.bool true], rfl, fun j v hj => ⟨Nat.le_refl _, hB8.cu (by simpa using hj)⟩⟩
    | i + 1 => simp at hi⟩⟩
  refine ev_call (equalB_ct (hS3.tr hk8) (New.sub b8 w8) y1 [true] a1 (some ⟨b8, 0, none⟩) c1 1 hsl1 hD) ?_
  rintro e w9 ⟨rfl, hk9⟩
  have hk19 := hk18.tr hk9
  have hB19 := hB1.kp ((hk23.tr hk8).tr hk9) (by simp)
  have hRES : NT = decide (y1 = [true]) := by
    rw [hRES, hy, g7]
    simp
  refine br (fun g8 => ?_) (fun g8 => ?_)
  · exact no _ hk19 (by rw [hRES]; simpa using g8)
  have hRES : NT = true := by rw [hRES]; simpa using g8
  rw [hRES, Bool.true_and] at hR0
  clear no hRES
  have no : ∀ w', Kp [] w w' → RES = false → Ending.returned (one [.bool false]) = .returned (.bool RES) ∧ Kp [] w w' := fun w' h e => ⟨by rw [e]; rfl, h⟩
  refine ld (hB19.cl rfl).cell ?_
  refine lp τok (σ := Nat) (fun k => [(1, .pointer (some ⟨b1, 0, none⟩)), (67, .slice a4 p.prims.length c4), (68, .int .i64 p.prims.length), (69, .int .i64 k)])
    (fun k w' => k ≤ p.prims.length ∧ Kp [] w9 w' ∧ RES = primsB p k (p.prims.drop k)) (fun k => p.prims.length - k) 0 rfl ⟨rfl, rfl, rfl, rfl, trivial⟩ ⟨Nat.zero_le _, Kp.refl _ _, hR0⟩ ?_
  rintro k w10 ⟨hk, hkp, hr⟩
  have hpl := h4.1
  have hk110 := hk19.tr hkp
  have hB10 := hB19.kp hkp (by simp)
  refine br_dec (fun q1 => ?_) (fun q1 => ?_)
  · have hlt : k < p.prims.length := by omega
    obtain ⟨y, hy', hd⟩ := drop_get hlt
    rw [hd] at hr
    simp only [primsB] at hr
    obtain ⟨b9, o9, rfl, i1, i2, hc1', hc2'⟩ := sl_prm h4 hy'
    have hS10 := ((((hS1.tr hk23).tr hk8).tr hk9).tr hkp)
    refine ix k rfl hlt ?_
    refine ldN [.int .i64 y.1, .int .i64 y.2] rfl (fun j v hj => ?_) ?_
    · match j with
      | 0 => simp at hj; subst hj; exact hS10 _ _ _ hc1'
      | 1 => simp at hj; subst hj; exact hS10 _ _ _ hc2'
      | j + 2 => simp at hj
    refine new fun b11 w11 hb11 hB11 hs11 hk11 => ?_
    refine stN hB11 rfl (by simp [Value.oneCell']) fun w12 hB12 hs12 hk12 => ?_
    have hB12 : Bk w12.heap b11 [.int .i64 y.1, .int .i64 y.2] 77 := hB12
    have hk1012 : Kp [] w10 w12 := hk11.newSt hb11 hk12
    have hkp12 := hkp.tr hk1012
    have hk112 := hk19.tr hkp12
    have hS12 := hS10.tr hk1012
    have hB112 := hB10.kp hk1012 (by simp)
    have nop : ∀ w', Kp [] w w' → primB p y = false → Ending.returned (one [.bool false]) = .returned (.bool RES) ∧ Kp [] w w' := fun w' h e => no w' h (by rw [hr, e, Bool.false_and])
    refine ld (hB12.cl rfl).cell ?_
    refine br_dec (fun q2 => ?_) (fun q2 => ?_)
    · exact nop _ hk112 (by unfold primB; rw [decide_eq_false (show ¬ 0 ≤ y.1 by omega)]; simp)
    refine ld (hB12.cl rfl).cell ?_
    refine ld (hB112.cl rfl).cell ?_
    refine br_dec (fun q3 => ?_) (fun q3 => ?_)
    · exact nop _ hk112 (by unfold primB; rw [decide_eq_false (show ¬ y.1 < p.bodies.length by omega)]; simp)
    obtain ⟨z, hz⟩ : ∃ x, p.bodies[y.1.toNat]? = some x := ⟨p.bodies[y.1.toNat]'(by omega), by simp⟩
    obtain ⟨bz, oz, hbz, az, capz, hcz, _, _⟩ := h1.sk hz
    have hbz := Option.some.inj hbz
    injection hbz with ez1 ez2
    subst ez1 ez2
    refine ld (hB112.cl rfl).cell ?_
    refine ld (hB12.cl rfl).cell ?_
    refine ix y.1.toNat (by omega) (by omega) ?_
    refine ldC hS12 hcz ?_
    refine br_dec (fun q4 => ?_) (fun q4 => ?_)
    · exact nop _ hk112 (by unfold primB; rw [hz, Option.getD_some, decide_eq_false (show ¬ 0 < z.length by omega)]; simp)
    refine ld (hB12.cl rfl).cell ?_
    refine br_dec (fun q5 => ?_) (fun q5 => ?_)
    · exact nop _ hk112 (by unfold primB; rw [show inM y.2 1 3 = false by simp [inM]; omega]; simp)
    refine ld (hB12.cl rfl).cell ?_
    refine br_dec (fun q6 => ?_) (fun q6 => ?_)
    · exact nop _ hk112 (by unfold primB; rw [show inM y.2 1 3 = false by simp [inM]; omega]; simp)
    have hpt : primB p y = true := by
      unfold primB
      rw [hz, Option.getD_some, decide_eq_true (show 0 ≤ y.1 by omega), decide_eq_true (show y.1 < p.bodies.length by omega), decide_eq_true (show 0 < z.length by omega), show inM y.2 1 3 = true by simp [inM]; omega]
      rfl
    rw [hpt, Bool.true_and] at hr
    refine ld (hB112.cl rfl).cell ?_
    refine slcH' τok rfl k _ rfl (by omega) sliced_hi ?_
    have htk : (p.prims.take k).length = k := by simp; omega
    have hsl : Sl rPrm C (some ⟨b9, o9, none⟩) (p.prims.take k) := h4.take k
    refine ev_call (by have := containsPrm_ct hS12 (p.prims.take k) (some ⟨b9, o9, none⟩) c4 hsl y (hB12.cl rfl) (hB12.cl rfl); rw [htk] at this; exact this) ?_
    rintro e w13 ⟨rfl, hk13'⟩
    refine br (fun q7 => ?_) (fun q7 => ?_)
    · exact no _ (hk112.tr hk13') (by rw [hr, q7]; rfl)
    · rw [q7] at hr
      refine int64 (by omega) (by omega) ?_
      exact ⟨k + 1, by omega, rfl, ⟨rfl, rfl, rfl, rfl, trivial⟩, hlt, hkp12.tr hk13', by rw [hr]; rfl⟩
  · rw [List.drop_eq_nil_of_le (by omega)] at hr
    have hr : RES = true := hr
    exact ⟨by rw [hr]; rfl, hk110⟩
end Go.Proofs.YtjpdkcejkogciaaDoor

/-
  Package bare: Right.
-/
set_option linter.unusedSimpArgs false
set_option linter.unusedVariables false
namespace Cd
theorem entsB_drop {p : Brd} {k i : Nat} {x : List Nd} {s : Shp} (hx : p.bodies.drop k = x :: p.bodies.drop (k + 1)) (hs : p.shapes.drop k = s :: p.shapes.drop (k + 1)) : entsB p i (p.bodies.drop k) (p.shapes.drop k) = (entB p i x s && entsB p (i + 1) (p.bodies.drop (k + 1)) (p.shapes.drop (k + 1))) := by
  rw [hx, hs]
  rfl
end Cd
namespace Go.Proofs.YtjpdkcejkogciaaDoor
open Go.Wx Cd

theorem rightB_ct {C : Mem} {w : World} (hS : Sub C w) {cs : List Value} {p : Brd} (hp : rBrd.den C cs p) :
    CallOk Tryd.prog 21 ∧ Calls Tryd.prog 21 #[.agg cs.toArray] w (fun e w' => e = .returned (.int .i64 (rightB p)) ∧ Kp [] w w') := by
  have hp0 := hp
  obtain ⟨a1, c1, a2, c2, a3, c3, a4, c4, rfl, h1, h2, h3, h4, h5, h6, h7⟩ := hp
  obtain ⟨RES, hRES⟩ : ∃ r, rightB p = r := ⟨_, rfl⟩
  rw [hRES]
  have hl1 := h1.1
  have hl2 := h2.1
  refine ⟨⟨_, Tryd.func21, rfl, by decide⟩, ?_⟩
  refine calls_of (args := [_]) 74 [.tmp 2] τok Tryd.func21 rfl rfl rfl (Nat.le_of_ble_eq_true rfl) ?_
  refine new fun b1 w1 hb1 hB1 hs1 hk1 => ?_
  have hB1 : Bk w1.heap b1 [.slice a1 p.bodies.length c1, .slice a2 p.shapes.length c2, .slice a3 p.main.length c3, .int .i64 p.nat, .slice a4 p.prims.length c4] 33 := hB1
  have hS1 := hS.tr hk1
  have ret : ∀ n w', Kp [] w w' → RES = n → Ending.returned (one [.int .i64 n]) = .returned (.int .i64 RES) ∧ Kp [] w w' := fun n w' h e => ⟨by rw [e]; rfl, h⟩
  unfold rightB at hRES
  (repeat first | refine ldC ‹Sub _ _› (by assumption) ?_ | refine ld (Cl.cell (by first | assumption | exact Bk.cl (by assumption) rfl)) ?_ | refine ldK (by first | assumption | exact Bk.cl (by assumption) rfl | exact ‹Sub _ _› _ _ _ (by assumption)) ?_)
  refine br_dec (fun g1 => ?_) (fun g1 => ?_)
  · exact ret _ _ hk1 (by rw [← hRES, if_pos (.inl (by omega))])
  (repeat first | refine ldC ‹Sub _ _› (by assumption) ?_ | refine ld (Cl.cell (by first | assumption | exact Bk.cl (by assumption) rfl)) ?_ | refine ldK (by first | assumption | exact Bk.cl (by assumption) rfl | exact ‹Sub _ _› _ _ _ (by assumption)) ?_)
  refine br_dec (fun g2 => ?_) (fun g2 => ?_)
  · exact ret _ _ hk1 (by rw [← hRES, if_pos (.inr (by omega))])
  rw [if_neg (by omega)] at hRES
  (repeat first | refine ldC ‹Sub _ _› (by assumption) ?_ | refine ld (Cl.cell (by first | assumption | exact Bk.cl (by assumption) rfl)) ?_ | refine ldK (by first | assumption | exact Bk.cl (by assumption) rfl | exact ‹Sub _ _› _ _ _ (by assumption)) ?_)
  refine br_dec (fun g3 => ?_) (fun g3 => ?_)
  · exact ret _ _ hk1 (by rw [← hRES, if_pos (fun e => g3 (by rw [e]))])
  have hl : p.bodies.length = p.shapes.length := by
    have : (p.bodies.length : Int) = p.shapes.length := by simpa using g3
    omega
  rw [if_neg (by omega)] at hRES
  (repeat first | refine ldC ‹Sub _ _› (by assumption) ?_ | refine ld (Cl.cell (by first | assumption | exact Bk.cl (by assumption) rfl)) ?_ | refine ldK (by first | assumption | exact Bk.cl (by assumption) rfl | exact ‹Sub _ _› _ _ _ (by assumption)) ?_)
  refine lp τok (σ := Nat) (fun k => [(1, .pointer (some ⟨b1, 0, none⟩)), (24, .slice a1 p.bodies.length c1), (25, .int .i64 p.bodies.length), (26, .int .i64 k)])
    (fun k w' => k ≤ p.bodies.length ∧ Kp [] w1 w' ∧ entsB p 0 p.bodies p.shapes = entsB p k (p.bodies.drop k) (p.shapes.drop k)) (fun k => p.bodies.length - k) 0 rfl ⟨rfl, rfl, rfl, rfl, trivial⟩ ⟨Nat.zero_le _, Kp.refl _ _, rfl⟩ ?_
  rintro k w2 ⟨hk, hkp, hr⟩
  have hB2 := hB1.kp hkp (by simp)
  have hS2 := hS1.tr hkp
  refine br_dec (fun g4 => ?_) (fun g4 => ?_)
  · have hlt : k < p.bodies.length := by omega
    obtain ⟨x, hx, hdx⟩ := drop_get hlt
    obtain ⟨s, hsx, hds⟩ := drop_get (l := p.shapes) (k := k) (by omega)
    rw [entsB_drop hdx hds] at hr
    obtain ⟨b, o, rfl, ax, cx, hcx, _, hslx⟩ := h1.sk hx
    obtain ⟨b', o', rfl, ak, ck, hkept, _, hcp, hck⟩ := sl_shp h2 hsx
    refine ix k rfl hlt ?_
    (repeat first | refine ldC ‹Sub _ _› (by assumption) ?_ | refine ld (Cl.cell (by first | assumption | exact Bk.cl (by assumption) rfl)) ?_ | refine ldK (by first | assumption | exact Bk.cl (by assumption) rfl | exact ‹Sub _ _› _ _ _ (by assumption)) ?_)
    refine ix k rfl (by omega) ?_
    refine ldN [.int .i64 s.params, .slice ak s.kept.length ck] rfl (fun j v hj => ?_) ?_
    · match j with
      | 0 => simp at hj; subst hj; exact hS2 _ _ _ hcp
      | 1 => simp at hj; subst hj; exact hS2 _ _ _ hck
      | j + 2 => simp at hj
    refine new fun b3 w3 hb3 hB3 hs3 hk3 => ?_
    refine stN hB3 rfl (by simp [Value.oneCell']) fun w4 hB4 hs4 hk4 => ?_
    have hB4 : Bk w4.heap b3 [.int .i64 s.params, .slice ak s.kept.length ck] 60 := hB4
    have hk24 : Kp [] w2 w4 := hk3.newSt hb3 hk4
    have hkp4 := hkp.tr hk24
    have hS4 := hS2.tr hk24
    refine ldN [.int .i64 s.params, .slice ak s.kept.length ck] rfl (fun j v hj => by rw [Nat.zero_add]; exact hB4.cl hj) ?_
    refine ev_call (shapedS_ct hS4 s ak ck hkept) ?_
    rintro e w5 ⟨rfl, hk5⟩
    have hkp5 := hkp4.tr hk5
    have hB5 := hB4.kp hk5 (by simp)
    have no : ∀ w', Kp [] w1 w' → entB p k x s = false → Ending.returned (one [.int .i64 8]) = .returned (.int .i64 RES) ∧ Kp [] w w' := fun w' h e => by
      rw [e, Bool.false_and] at hr
      exact ret _ _ (hk1.tr h) (by rw [← hRES, if_pos hr])
    have go : ∀ w', Kp [] w1 w' → entB p k x s = true → entsB p 0 p.bodies p.shapes = entsB p (k + 1) (p.bodies.drop (k + 1)) (p.shapes.drop (k + 1)) := fun w' h e => by rw [hr, e, Bool.true_and]
    refine br (fun g5 => ?_) (fun g5 => ?_)
    · have g5 : shpOk s = false := by simpa using g5
      exact no _ hkp5 (by unfold entB; rw [g5]; rfl)
    have g5 : shpOk s = true := by simpa using g5
    refine br_dec (fun g6 => ?_) (fun g6 => ?_)
    · have hx0 : ¬ x.length = 0 := by omega
      (repeat first | refine ldC ‹Sub _ _› (by assumption) ?_ | refine ld (Cl.cell (by first | assumption | exact Bk.cl (by assumption) rfl)) ?_ | refine ldK (by first | assumption | exact Bk.cl (by assumption) rfl | exact ‹Sub _ _› _ _ _ (by assumption)) ?_)
      refine br_dec (fun g7 => ?_) (fun g7 => ?_)
      · exact no _ hkp5 (by unfold entB; rw [g5, decide_eq_false hx0, decide_eq_false g7]; rfl)
      have g7 : s.params = 0 := by simpa using g7
      (repeat first | refine ldC ‹Sub _ _› (by assumption) ?_ | refine ld (Cl.cell (by first | assumption | exact Bk.cl (by assumption) rfl)) ?_ | refine ldK (by first | assumption | exact Bk.cl (by assumption) rfl | exact ‹Sub _ _› _ _ _ (by assumption)) ?_)
      refine br_dec (fun g8 => ?_) (fun g8 => ?_)
      · exact no _ hkp5 (by unfold entB; rw [g5, decide_eq_false hx0, decide_eq_false (show ¬ s.kept.length = 0 by omega)]; simp)
      have hB15 := hB1.kp hkp5 (by simp)
      refine ldN [.slice (some ⟨b, o, none⟩) p.bodies.length c1, .slice (some ⟨b', o', none⟩) p.shapes.length c2, .slice a3 p.main.length c3, .int .i64 p.nat, .slice a4 p.prims.length c4] rfl (fun j v hj => by rw [Nat.zero_add]; exact hB15.cl hj) ?_
      refine ev_call (thereB_ct (hS1.tr hkp5) hp0 hl k (by omega) hslx) ?_
      rintro e w6 ⟨rfl, hk6⟩
      have hkp6 := hkp5.tr hk6
      have he : entB p k x s = thereB p k x := by
        unfold entB
        rw [g5, decide_eq_false hx0, decide_eq_true g7, decide_eq_true (show s.kept.length = 0 by omega)]
        rfl
      refine br (fun g9 => ?_) (fun g9 => ?_)
      · exact no _ hkp6 (by rw [he]; simpa using g9)
      · refine int64 (by omega) (by omega) ?_
        exact ⟨k + 1, by omega, rfl, ⟨rfl, rfl, rfl, rfl, trivial⟩, hlt, hkp6, go _ hkp6 (by rw [he]; simpa using g9)⟩
    · refine int64 (by omega) (by omega) ?_
      exact ⟨k + 1, by omega, rfl, ⟨rfl, rfl, rfl, rfl, trivial⟩, hlt, hkp5, go _ hkp5 (by unfold entB; rw [g5, decide_eq_true (show x.length = 0 by omega)]; rfl)⟩
  · rw [List.drop_eq_nil_of_le (by omega)] at hr
    have hr : entsB p 0 p.bodies p.shapes = true := hr
    rw [if_neg (by rw [hr]; simp)] at hRES
    refine ldN [.slice a1 p.bodies.length c1, .slice a2 p.shapes.length c2, .slice a3 p.main.length c3, .int .i64 p.nat, .slice a4 p.prims.length c4] rfl (fun j v hj => by rw [Nat.zero_add]; exact hB2.cl hj) ?_
    (repeat first | refine ldC ‹Sub _ _› (by assumption) ?_ | refine ld (Cl.cell (by first | assumption | exact Bk.cl (by assumption) rfl)) ?_ | refine ldK (by first | assumption | exact Bk.cl (by assumption) rfl | exact ‹Sub _ _› _ _ _ (by assumption)) ?_)
    refine ev_call (thereB_ct hS2 hp0 hl p.bodies.length (Nat.le_refl _) h3) ?_
    rintro e w3 ⟨rfl, hk3⟩
    have hk13 := (hk1.tr hkp).tr hk3
    refine br (fun g5 => ?_) (fun g5 => ?_)
    · exact ret _ _ hk13 (by rw [← hRES, if_pos (by simpa using g5)])
    have g5 : thereB p p.bodies.length p.main = true := by simpa using g5
    rw [if_neg (by rw [g5]; simp)] at hRES
    have hB3 := hB2.kp hk3 (by simp)
    refine ldN [.slice a1 p.bodies.length c1, .slice a2 p.shapes.length c2, .slice a3 p.main.length c3, .int .i64 p.nat, .slice a4 p.prims.length c4] rfl (fun j v hj => by rw [Nat.zero_add]; exact hB3.cl hj) ?_
    refine ev_call (regB_ct (hS2.tr hk3) hp0 hl) ?_
    rintro e w4 ⟨rfl, hk4⟩
    have hk14 := hk13.tr hk4
    refine br (fun g6 => ?_) (fun g6 => ?_)
    · exact ret _ _ hk14 (by rw [← hRES, if_pos (by simpa using g6)])
    · exact ret _ _ hk14 (by rw [← hRES, if_neg (by simpa using g6)])
end Go.Proofs.YtjpdkcejkogciaaDoor

/-
  Code: rows of pairs of ints ([][2]int).
-/
set_option linter.unusedSimpArgs false
set_option linter.unusedVariables false
namespace Go.Wx
/-- two ints side by side -/
def rPair : Rd (Int × Int) where
  sz := 2
  den _ cs x := cs = [.int .i64 x.1, .int .i64 x.2] ∧ I64 x.1 ∧ I64 x.2
  len := by rintro _ cs x ⟨rfl, _⟩; rfl
  mono := by rintro _ _ cs x _ h; exact h
  one := by rintro _ cs x ⟨rfl, _⟩ u hu; simp at hu; rcases hu with rfl | rfl <;> rfl
theorem flatP : Flat rPair := fun _ _ _ _ h => h
theorem sl_pair {C : Mem} {a : Option Addr} {l : List (Int × Int)} (h : Sl rPair C a l) {i : Nat} {x : Int × Int} (hi : l[i]? = some x) : ∃ b o, a = some ⟨b, o, none⟩ ∧ C b (o + i * 2) (.int .i64 x.1) ∧ C b (o + i * 2 + 1) (.int .i64 x.2) ∧ I64 x.1 ∧ I64 x.2 := by
  obtain ⟨b, o, ha, hc⟩ := h.at (get_lt hi)
  obtain ⟨cs, ⟨rfl, h1, h2⟩, h5⟩ := hc i x hi
  exact ⟨b, o, ha, h5 0 _ rfl, h5 1 _ rfl, h1, h2⟩
end Go.Wx
namespace Go.Proofs.YtjpdkcejkogciaaDoor
open Go.Wx Cd

theorem pair_under : Tryd.prog.underlying 139 = some (.array 2 3) := by kernel_rfl
theorem pairs_under : Tryd.prog.underlying 136 = some (.slice 139) := by kernel_rfl
theorem pair_info : ∃ i v, Tryd.prog.info? 139 = some i ∧ i.zero = some v ∧ v.cells = #[.int .i64 0, .int .i64 0] ∧ i.size = 2 ∧ i.bytes = 16 := by
  have h : (Tryd.prog.info? 139).map (fun i => (i.size, i.bytes, i.zero)) = some (2, 16, some (.agg #[.int .i64 0, .int .i64 0])) := by kernel_rfl
  cases hi : Tryd.prog.info? 139 with
  | none => rw [hi] at h; cases h
  | some i =>
    rw [hi] at h
    simp only [Option.map_some, Option.some.injEq, Prod.mk.injEq] at h
    exact ⟨i, _, rfl, h.2.2, rfl, h.1, h.2.1⟩
theorem int_size (w : World) : (sizeOf 3).run Tryd.prog w = .ok 1 w := by
  have h : (Tryd.prog.info? 3).map (fun i => i.size) = some 1 := by kernel_rfl
  cases hi : Tryd.prog.info? 3 with
  | none => rw [hi] at h; cases h
  | some i =>
    rw [hi] at h
    simp only [Option.map_some, Option.some.injEq] at h
    simp [sizeOf, typeInfo, hi, h]

section
variable {w : World} {k : Value → World → Prop}
theorem pair_build (x y : Int) (h : k (.agg #[.int .i64 x, .int .i64 y]) w) : EvRun Tryd.prog (Instr.build 139 #[(0, .int .i64 x), (1, .int .i64 y)]) w k := by
  obtain ⟨i, v, h1, h2, h3, h4, h5⟩ := pair_info
  refine run ?_ h
  have hz : (zeroValue 139).run Tryd.prog w = .ok v w := by simp [zeroValue, typeInfo, h1, h2]
  simp only [Instr.build, Sem.run_bind, hz, Result.andThen_ok, run_underlying pair_under, int_size, h3]
  rfl

theorem pair_at {b o : Nat} (j : Nat) (hj : j < 2) {i : Int} (hi : i = j) (h : k (.pointer (some ⟨b, o + j, none⟩)) w) : EvRun Tryd.prog (Instr.indexAt 139 (.pointer (some ⟨b, o, none⟩)) (.int .i64 i)) w k := by
  subst hi
  refine run ?_ h
  simp only [Instr.indexAt, asIntOf, Sem.run_bind, Sem.run_pure, Result.andThen_ok, run_underlying pair_under, Instr.sureAddr]
  rw [if_pos (by omega)]
  simp only [Sem.run_bind, int_size, Result.andThen_ok, Sem.run_pure, Int.toNat_natCast, Nat.mul_one, add_off]

theorem pair_lit (l : List (Int × Int)) (hl : l.length = 1 ∨ l.length = 2) (hk : ∀ (b : Nat) (w' : World), b = w.heap.size → Bk w'.heap b (l.flatMap fun x => [.int .i64 x.1, .int .i64 x.2]) 139 → w'.heap.size = b + 1 → Kp [] w w' → k (.slice (some ⟨b, 0, none⟩) l.length l.length) w') :
    EvRun Tryd.prog (Instr.buildSlice 136 l.length ((l.zipIdx.map fun x => (x.2, Value.agg #[.int .i64 x.1.1, .int .i64 x.1.2])).toArray)) w k := by
  obtain ⟨i, v, h1, h2, h3, h4, h5⟩ := pair_info
  have hz : (zeroValue 139).run Tryd.prog w = .ok v w := by simp [zeroValue, typeInfo, h1, h2]
  have hs : (sizeOf 139).run Tryd.prog w = .ok 2 w := by simp [sizeOf, typeInfo, h1, h4]
  refine run (w' := w.alloc (.cells (l.flatMap fun x => [.int .i64 x.1, .int .i64 x.2]).toArray 139)) (v := .slice (some ⟨w.heap.size, 0, none⟩) l.length l.length) ?_ (hk _ _ rfl ?_ ?_ (Kp.alloc _ _))
  · rcases hl with hl | hl
    · match l, hl with
      | [x], _ =>
        have hc : fillL (fun i => some (i * 2, 2)) (rep [.int .i64 0, .int .i64 0] 1) [(0, .agg #[.int .i64 x.1, .int .i64 x.2])] = some [.int .i64 x.1, .int .i64 x.2] := rfl
        have hf := fillL_fill _ _ _ hc
        have hr := rep_range [.int .i64 0, .int .i64 0] 1 (by simp)
        simp only [Instr.buildSlice, Sem.run_bind, run_underlying pairs_under, Result.andThen_ok, hs]
        rw [if_neg (by simp)]
        rw [Sem.run_ite, if_neg (by simp)]
        simp only [Sem.run_bind, hz, Result.andThen_ok, Sem.run_pure, h3]
        have hr' : (Array.range ([x].length * 2)).map (fun y => (#[Value.int .i64 0, .int .i64 0] : Array Value)[y % (#[Value.int .i64 0, .int .i64 0] : Array Value).size]!) = (rep [.int .i64 0, .int .i64 0] 1).toArray := hr
        rw [hr']
        have hf' : Instr.fill (fun i => some (i * 2, 2)) (rep [.int .i64 0, .int .i64 0] 1).toArray ((List.map (fun x : (Int × Int) × Nat => (x.2, Value.agg #[.int .i64 x.1.1, .int .i64 x.1.2])) [x].zipIdx).toArray.toList) = some #[.int .i64 x.1, .int .i64 x.2] := hf
        rw [hf']
        simp [newRow]
    · match l, hl with
      | [x, y], _ =>
        have hc : fillL (fun i => some (i * 2, 2)) (rep [.int .i64 0, .int .i64 0] 2) [(0, .agg #[.int .i64 x.1, .int .i64 x.2]), (1, .agg #[.int .i64 y.1, .int .i64 y.2])] = some [.int .i64 x.1, .int .i64 x.2, .int .i64 y.1, .int .i64 y.2] := rfl
        have hf := fillL_fill _ _ _ hc
        have hr := rep_range [.int .i64 0, .int .i64 0] 2 (by simp)
        simp only [Instr.buildSlice, Sem.run_bind, run_underlying pairs_under, Result.andThen_ok, hs]
        rw [if_neg (by simp)]
        rw [Sem.run_ite, if_neg (by simp)]
        simp only [Sem.run_bind, hz, Result.andThen_ok, Sem.run_pure, h3]
        have hr' : (Array.range ([x, y].length * 2)).map (fun y => (#[Value.int .i64 0, .int .i64 0] : Array Value)[y % (#[Value.int .i64 0, .int .i64 0] : Array Value).size]!) = (rep [.int .i64 0, .int .i64 0] 2).toArray := hr
        rw [hr']
        have hf' : Instr.fill (fun i => some (i * 2, 2)) (rep [.int .i64 0, .int .i64 0] 2).toArray ((List.map (fun x : (Int × Int) × Nat => (x.2, Value.agg #[.int .i64 x.1.1, .int .i64 x.1.2])) [x, y].zipIdx).toArray.toList) = some #[.int .i64 x.1, .int .i64 x.2, .int .i64 y.1, .int .i64 y.2] := hf
        rw [hf']
        simp [newRow]
  · unfold Bk
    show (w.heap.push _)[_]? = _
    simp
  · show (w.heap.push _).size = _
    simp

/-- one pair more -/
theorem pair_ap {lo b c ty : Nat} {v : Value} {l : List (Int × Int)} (h : Own rPair 139 lo w v l) (x : Int × Int) (hx : I64 x.1 ∧ I64 x.2) (hB : Bk w.heap b [.int .i64 x.1, .int .i64 x.2] 139) (hl : l.length ≤ 1099511627776)
    (hk : ∀ v' w', Own rPair 139 lo w' v' (l ++ [x]) → Kp v.ownBlock.toList w w' → k v' w') : EvRun Tryd.prog (Builtin.append_ #[136, 136] ty #[v, .slice (some ⟨b, 0, none⟩) 1 c]) w k := by
  obtain ⟨i, z, g1, g2, g3, g4, g5⟩ := pair_info
  obtain ⟨⟨css0, h1, h2⟩, hbase⟩ := h
  obtain ⟨v', w', hr, ho, hg, _, hblk⟩ := run_append_own_at (P := Tryd.prog) w lo 136 ty 139 i z 2 16 pairs_under g1 g2 g4 g5 (by rw [g3]; rfl) (by omega) v l.length css0.flatten h1 ⟨b, 0, none⟩ 1 c [.int .i64 x.1, .int .i64 x.2] rfl
    (fun j u hj => by rw [add_off, Nat.zero_add]; exact (hB.cl hj).cell) (by simp [Value.oneCell']) (by simp only [maxLen]; omega) (by omega) hbase
  have hkp := grown_kp hg
  refine run hr (hk v' w' ⟨⟨css0 ++ [[.int .i64 x.1, .int .i64 x.2]], ?_, ?_⟩, Nat.le_trans hbase hkp.size⟩ hkp)
  · rw [List.flatten_append, List.length_append]
    exact ho
  · exact (h2.mono fun cs y hy => hy).append ⟨⟨rfl, hx.1, hx.2⟩, trivial⟩
end
end Go.Proofs.YtjpdkcejkogciaaDoor

/-
  Code: the reference's Next: plain parts, and the walk.
-/
set_option linter.unusedSimpArgs false
set_option linter.unusedVariables false
namespace Cd
theorem nxt {c : Cod} {i : Int} {n : Ins} {h fl p : Int} {q : Bool} (o6 : ¬ n.op = 6) (o9 : ¬ n.op = 9) (o11 : ¬ n.op = 11) (o13 : ¬ n.op = 13) (hp : plainM c n h = if q then some p else none) :
    nextM c i n h fl = if (decide (n.to.length = 0) && q) then (if p ≤ h - fl then some [(i + 1, h - p + 1)] else none) else none := by
  unfold nextM
  rw [if_neg o6, if_neg o13, if_neg o11, if_neg o9, hp]
  cases q <;> by_cases hl : n.to.length = 0 <;> simp [hl]
section
variable {c : Cod} {n : Ins} {h : Int}
theorem pl1 (o : n.op = 1) : plainM c n h = if n.zero then some 0 else none := by unfold plainM; rw [if_pos o]
theorem pl2 (o : n.op = 2) : plainM c n h = if inM n.a 0 1048576 && decide (n.b = 0) then some 0 else none := by unfold plainM; rw [if_neg (by omega), if_pos o]
theorem pl3 (o : n.op = 3) : plainM c n h = if inM n.a 0 (h - 1) && decide (n.b = 0) then some 0 else none := by unfold plainM; rw [if_neg (by omega), if_neg (by omega), if_pos o]
theorem pl4 (o : n.op = 4) : plainM c n h = if inM n.a 0 (c.funs.length - 1) && decide (some n.b = (c.funs[n.a.toNat]?).map Fn.caps) then some n.b else none := by unfold plainM; rw [if_neg (by omega), if_neg (by omega), if_neg (by omega), if_pos o]
theorem pl5 (o : n.op = 5) : plainM c n h = if n.zero then some 2 else none := by unfold plainM; rw [if_neg (by omega), if_neg (by omega), if_neg (by omega), if_neg (by omega), if_pos o]
theorem pl7 (o : n.op = 7) : plainM c n h = if inM n.a 0 (c.bodies.length - 1) && decide (0 < ((c.bodies[n.a.toNat]?).getD []).length) && decide (n.b = 0) then some 0 else none := by
  unfold plainM; rw [if_neg (by omega), if_neg (by omega), if_neg (by omega), if_neg (by omega), if_neg (by omega), if_pos o]
theorem pl8 (o : n.op = 8) : plainM c n h = if ctorM c n.a n.b then some n.b else none := by
  unfold plainM; rw [if_neg (by omega), if_neg (by omega), if_neg (by omega), if_neg (by omega), if_neg (by omega), if_neg (by omega), if_pos o]
theorem pl10 (o : n.op = 10) : plainM c n h = if n.zero then some 1 else none := by
  unfold plainM; rw [if_neg (by omega), if_neg (by omega), if_neg (by omega), if_neg (by omega), if_neg (by omega), if_neg (by omega), if_neg (by omega), if_pos o]
theorem pl12 (o : n.op = 12) : plainM c n h = if inM n.a 1 3 && decide (n.b = 0) then some 2 else none := by
  unfold plainM; rw [if_neg (by omega), if_neg (by omega), if_neg (by omega), if_neg (by omega), if_neg (by omega), if_neg (by omega), if_neg (by omega), if_neg (by omega), if_pos o]
theorem pl14 (o : n.op = 14) : plainM c n h = if decide (1 ≤ n.a) && decide (n.b = 0) then some (min n.a h + 1) else none := by
  unfold plainM; rw [if_neg (by omega), if_neg (by omega), if_neg (by omega), if_neg (by omega), if_neg (by omega), if_neg (by omega), if_neg (by omega), if_neg (by omega), if_neg (by omega), if_pos o]
theorem nx14 {i fl : Int} (o : n.op = 14) (hh : 0 ≤ h) (hf : 0 ≤ fl) : nextM c i n h fl = if (decide (n.to.length = 0) && (inM n.a 1 h && decide (n.b = 0))) then (if n.a + 1 ≤ h - fl then some [(i + 1, h - (n.a + 1) + 1)] else none) else none := by
  rw [nxt (by omega) (by omega) (by omega) (by omega) (pl14 o)]
  by_cases ha : n.a ≤ h
  · have : min n.a h = n.a := by omega
    rw [this]
    by_cases h1 : 1 ≤ n.a <;> simp [inM, ha, h1]
  · have : min n.a h = h := by omega
    rw [this]
    have h2 : ¬ h + 1 ≤ h - fl := by omega
    simp [inM, ha, h2]
theorem pl0 (h1 : ¬ n.op = 1) (h2 : ¬ n.op = 2) (h3 : ¬ n.op = 3) (h4 : ¬ n.op = 4) (h5 : ¬ n.op = 5) (h7 : ¬ n.op = 7) (h8 : ¬ n.op = 8) (h10 : ¬ n.op = 10) (h12 : ¬ n.op = 12) (h14 : ¬ n.op = 14) : plainM c n h = if false then some 0 else none := by
  unfold plainM; rw [if_neg h1, if_neg h2, if_neg h3, if_neg h4, if_neg h5, if_neg h7, if_neg h8, if_neg h10, if_neg h12, if_neg h14]; rfl
end
end Cd

namespace Go.Proofs.YtjpdkcejkogciaaDoor
open Go.Wx Cd

def NextPost (c : Cod) (i : Int) (n : Ins) (h fl : Int) (w : World) (e : Ending) (w' : World) : Prop :=
  ∃ v ok, e = .returned (.tuple #[v, .bool ok]) ∧ Kp [] w w' ∧ match nextM c i n h fl with
    | some l => ok = true ∧ ∃ a cap, v = .slice a l.length cap ∧ Sl rPair (New w.heap.size w') a l
    | none => ok = false

theorem next_no {c : Cod} {i : Int} {n : Ins} {h fl : Int} {w w' : World} (v : Value) (hk : Kp [] w w') (e : nextM c i n h fl = none) : NextPost c i n h fl w (.returned (.tuple #[v, .bool false])) w' := ⟨v, false, rfl, hk, by rw [e]⟩
theorem next_yes {c : Cod} {i : Int} {n : Ins} {h fl : Int} {w w' : World} {l : List (Int × Int)} {a : Option Addr} {cap : Nat} (hk : Kp [] w w') (e : nextM c i n h fl = some l) (hs : Sl rPair (New w.heap.size w') a l) : NextPost c i n h fl w (.returned (.tuple #[.slice a l.length cap, .bool true])) w' := ⟨_, true, rfl, hk, by rw [e]; exact ⟨rfl, a, cap, rfl, hs⟩⟩

theorem pairs_row {w : World} {b n : Nat} {l : List (Int × Int)} (hn : n ≤ b) (h : Bk w.heap b (l.flatMap fun x => [.int .i64 x.1, .int .i64 x.2]) 139) (h64 : ∀ x ∈ l, I64 x.1 ∧ I64 x.2) (hl : l.length ≤ 2) : Sl rPair (New n w) (some ⟨b, 0, none⟩) l := by
  refine ⟨by omega, .inr ⟨b, 0, rfl, fun i x hi => ⟨[.int .i64 x.1, .int .i64 x.2], ⟨rfl, h64 x (List.mem_of_getElem? hi)⟩, fun j v hj => ⟨hn, h.cu ?_⟩⟩⟩⟩
  match l, hl, i with
  | [y], _, 0 =>
    simp at hi
    subst hi
    simpa using hj
  | [y, z], _, 0 =>
    simp at hi
    subst hi
    match j with
    | 0 => simpa using hj
    | 1 => simpa using hj
    | j + 2 => simp at hj
  | [y, z], _, 1 =>
    simp at hi
    subst hi
    match j with
    | 0 => exact hj
    | 1 => exact hj
    | j + 2 => simp at hj
  | [y], _, i + 1 => simp at hi
  | [y, z], _, i + 2 => simp at hi
  | [], _, i => simp at hi
theorem within20_ct (n lo hi : Int) (w : World) : CallOk Tryd.prog 53 ∧ Calls Tryd.prog 53 #[.int .i64 n, .int .i64 lo, .int .i64 hi] w (fun e w' => e = .returned (.bool (inM n lo hi)) ∧ Kp [] w w') := by
  refine ⟨⟨_, Tryd.func53, rfl, by decide⟩, ?_⟩
  refine calls_of (args := [_, _, _]) 15 [.tmp 6] τok Tryd.func53 rfl rfl rfl (Nat.le_of_ble_eq_true rfl) ?_
  refine br_dec (fun h => ?_) (fun h => ?_)
  · exact ⟨by simp [one, inM, h], Kp.refl _ _⟩
  · exact ⟨by simp [one, inM, h], Kp.refl _ _⟩
end Go.Proofs.YtjpdkcejkogciaaDoor

