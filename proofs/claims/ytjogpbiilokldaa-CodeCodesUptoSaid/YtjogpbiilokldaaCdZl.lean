/-
  Code: the reference's Right, where all rows are boxes or none.
-/
import Derived.Test.YtjogpbiilokldaaCdZk
set_option linter.unusedSimpArgs false
set_option linter.unusedVariables false
namespace Go.Proofs.Ytjogpbiilokldaa
open Go.Wx Cd

theorem right15_ct {C : Mem} {w : World} (hS : Sub C w) (bodies : List (List Nd)) (shapes : List Shp) (nat : Int) (ab ash am ap : Option Addr) (cb cs cm cp : Nat) (hb : Sl (rSl rNd) C ab bodies) (hs : Sl rShp C ash shapes) (hm : Sl rNd C am [Nd.box])
    (hbox : ∀ b ∈ bodies, b = [] ∨ b = [Nd.box]) (hb64 : bodies.length ≤ 64) (hs64 : shapes.length ≤ 64) :
    CallOk Try.prog 29 ∧ Calls Try.prog 29 #[.agg #[.slice ab bodies.length cb, .slice ash shapes.length cs, .slice am 1 cm, .int .i64 nat, .slice ap 0 cp]] w (fun e w' => ∃ n : Int, e = .returned (.int .i64 n) ∧ decide (n = 0) = rightM bodies shapes nat ∧ Kp [] w w') := by
  obtain ⟨RES, hRES⟩ : ∃ r, rightM bodies shapes nat = r := ⟨_, rfl⟩
  rw [hRES]
  refine ⟨⟨_, Try.func29, rfl, by decide⟩, ?_⟩
  refine calls_of (args := [_]) 233 [.tmp 2] τok Try.func29 rfl rfl rfl (Nat.le_of_ble_eq_true rfl) ?_
  refine new fun b1 w1 hb1 hB1 hs1 hk1 => ?_
  have hB1 : Bk w1.heap b1 [.slice ab bodies.length cb, .slice ash shapes.length cs, .slice am 1 cm, .int .i64 nat, .slice ap 0 cp] 71 := hB1
  have hS1 := hS.tr hk1
  (repeat first | refine ldC ‹Sub _ _› (by assumption) ?_ | refine ld (Cl.cell (by first | assumption | exact Bk.cl (by assumption) rfl)) ?_ | refine ldK (by first | assumption | exact Bk.cl (by assumption) rfl | exact ‹Sub _ _› _ _ _ (by assumption)) ?_)
  refine br_dec (fun h1 => ?_) (fun h1 => ?_)
  · exact absurd h1 (by omega)
  (repeat first | refine ldC ‹Sub _ _› (by assumption) ?_ | refine ld (Cl.cell (by first | assumption | exact Bk.cl (by assumption) rfl)) ?_ | refine ldK (by first | assumption | exact Bk.cl (by assumption) rfl | exact ‹Sub _ _› _ _ _ (by assumption)) ?_)
  refine br_dec (fun h2 => ?_) (fun h2 => ?_)
  · exact absurd h2 (by omega)
  (repeat first | refine ldC ‹Sub _ _› (by assumption) ?_ | refine ld (Cl.cell (by first | assumption | exact Bk.cl (by assumption) rfl)) ?_ | refine ldK (by first | assumption | exact Bk.cl (by assumption) rfl | exact ‹Sub _ _› _ _ _ (by assumption)) ?_)
  refine br_dec (fun h3 => ?_) (fun h3 => ?_)
  · exact ⟨8, rfl, by rw [← hRES]; unfold rightM; rw [decide_eq_false (p := bodies.length = shapes.length) (fun e => h3 (by rw [e]))]; rfl, hk1⟩
  have hl : bodies.length = shapes.length := by
    have : (bodies.length : Int) = shapes.length := by simpa using h3
    omega
  unfold rightM at hRES
  rw [decide_eq_true hl, Bool.true_and] at hRES
  refine lp τok (σ := Nat) (fun k => [(1, .pointer (some ⟨b1, 0, none⟩)), (3, .int .i64 k)])
    (fun k w' => k ≤ bodies.length ∧ Kp [] w1 w' ∧ RES = (entsOk (bodies.drop k) (shapes.drop k) && natOk bodies shapes nat)) (fun k => bodies.length - k) 0 rfl ⟨rfl, rfl, trivial⟩ ⟨Nat.zero_le _, Kp.refl _ _, hRES.symm⟩ ?_
  rintro k w2 ⟨hk, hkp, hr⟩
  have hB2 := hB1.kp hkp (by simp)
  have hS2 := hS1.tr hkp
  refine ld (hB2.cl rfl).cell ?_
  refine br_dec (fun h4 => ?_) (fun h4 => ?_)
  · have hlt : k < bodies.length := by omega
    obtain ⟨x, hx, hdx⟩ := drop_get hlt
    obtain ⟨s, hsx, hds⟩ := drop_get (l := shapes) (k := k) (by omega)
    rw [entsOk_drop hdx hds, Bool.and_assoc] at hr
    have hxb := hbox x (List.mem_of_getElem? hx)
    obtain ⟨b, o, rfl, ax, cx, hcx, hslx⟩ := hb.sl hx
    obtain ⟨b', o', rfl, ak, ck, hkept, _, hcp, hck⟩ := sl_shp hs hsx
    have hkl := hkept.1
    refine ld (hB2.cl rfl).cell ?_
    refine ix k rfl (by omega) ?_
    refine ldN [.int .i64 s.params, .slice ak s.kept.length ck] rfl (fun j v hj => ?_) ?_
    · match j with
      | 0 => simp at hj; subst hj; exact hS2 _ _ _ hcp
      | 1 => simp at hj; subst hj; exact hS2 _ _ _ hck
      | j + 2 => simp at hj
    refine new fun b3 w3 hb3 hB3 hs3 hk3 => ?_
    refine stN hB3 rfl (by simp [Value.oneCell']) fun w4 hB4 hs4 hk4 => ?_
    have hk24 : Kp [] w2 w4 := hk3.newSt hb3 hk4
    have hkp4 := hkp.tr hk24
    refine ld (hB4.cl rfl).cell ?_
    refine ev_call (within15_ct _ _ _ w4) ?_
    rintro e w5 ⟨rfl, hk5⟩
    have hkp5 := hkp4.tr hk5
    have hB5 := hB4.kp hk5 (by simp)
    have no : ∀ w', Kp [] w1 w' → entOk x s = false → ∃ n : Int, Ending.returned (one [.int .i64 8]) = .returned (.int .i64 n) ∧ decide (n = 0) = RES ∧ Kp [] w w' := fun w' h e => ⟨8, rfl, by rw [hr, e]; rfl, hk1.tr h⟩
    refine br (fun h5 => ?_) (fun h5 => ?_)
    · refine no _ hkp5 ?_
      have h5 : inM s.params 0 16 = false := by simpa using h5
      unfold inM at h5
      unfold entOk shpOk
      rw [h5]
      simp
    have h5 : inM s.params 0 16 = true := by simpa using h5
    refine ld (hB5.cl rfl).cell ?_
    refine br_dec (fun h6 => ?_) (fun h6 => ?_)
    · refine no _ hkp5 ?_
      unfold entOk shpOk
      rw [decide_eq_false (show ¬ s.kept.length ≤ 16 by omega)]
      simp
    have h6 : s.kept.length ≤ 16 := by omega
    have hsh : shpOk s = !s.kept.any fun k => decide (16 < k.length) := by
      unfold inM at h5
      unfold shpOk
      rw [h5, decide_eq_true h6]
      simp
    refine lp τok (σ := Nat) (fun q => [(1, .pointer (some ⟨b1, 0, none⟩)), (3, .int .i64 k), (4, .pointer (some ⟨b3, 0, none⟩)), (5, .int .i64 q)])
      (fun q w' => q ≤ s.kept.length ∧ w' = w5 ∧ (s.kept.any fun k => decide (16 < k.length)) = (s.kept.drop q).any fun k => decide (16 < k.length)) (fun q => s.kept.length - q) 0 rfl ⟨rfl, rfl, rfl, rfl, trivial⟩ ⟨Nat.zero_le _, rfl, rfl⟩ ?_
    rintro q w6 ⟨hq, rfl, hany⟩
    refine ld (hB5.cl rfl).cell ?_
    refine br_dec (fun h7 => ?_) (fun h7 => ?_)
    · have hlq : q < s.kept.length := by omega
      obtain ⟨y, hy, hdy⟩ := drop_get hlq
      rw [hdy, List.any_cons] at hany
      obtain ⟨b4, o4, rfl, ay, cy, hcy, _⟩ := hkept.sl hy
      refine ld (hB5.cl rfl).cell ?_
      refine ix q rfl hlq ?_
      refine ldC (hS1.tr hkp5) hcy ?_
      refine br_dec (fun h8 => ?_) (fun h8 => ?_)
      · refine no _ hkp5 ?_
        unfold entOk
        rw [hsh, hany, decide_eq_true (show 16 < y.length by omega)]
        rfl
      rw [decide_eq_false (show ¬ 16 < y.length by omega), Bool.false_or] at hany
      refine int64 (by omega) (by omega) ?_
      exact ⟨q + 1, by omega, rfl, ⟨rfl, rfl, rfl, rfl, trivial⟩, hlq, rfl, hany⟩
    rw [List.drop_eq_nil_of_le (by omega)] at hany
    have h5 : shpOk s = true := by rw [hsh, hany]; rfl
    have hB15 := hB1.kp hkp5 (by simp)
    have hS5 := hS1.tr hkp5
    have go : entOk x s = true → RES = (entsOk (bodies.drop (k + 1)) (shapes.drop (k + 1)) && natOk bodies shapes nat) := fun e => by rw [hr, e, Bool.true_and]
    refine drawQ τok (fun w' => Kp [] w6 w') (by kernel_rfl) ((Kp.refl [] w6).dr _) ?_
    refine ldK (hB15.cl rfl) ?_
    refine ix k rfl hlt ?_
    refine ldK (hS5 _ _ _ hcx) ?_
    refine br_dec (fun h8 => ?_) (fun h8 => ?_)
    · have hx1 : x = [Nd.box] := by
        rcases hxb with e | e
        · rw [e] at h8; simp at h8
        · exact e
      refine ldK (hB5.cl rfl) ?_
      refine br_dec (fun h9 => ?_) (fun h9 => ?_)
      · intro w7 hk7
        exact no _ (hkp5.tr hk7) (by unfold entOk; rw [h5, hx1, decide_eq_false h9]; rfl)
      refine ldK (hB5.cl rfl) ?_
      refine br_dec (fun h10 => ?_) (fun h10 => ?_)
      · intro w7 hk7
        exact no _ (hkp5.tr hk7) (by unfold entOk; rw [h5, hx1, decide_eq_false (show ¬ s.kept.length = 0 by intro e; exact h10 (by rw [e]; rfl))]; simp)
      refine ldNK [.slice (some ⟨b, o, none⟩) bodies.length cb, .slice (some ⟨b', o', none⟩) shapes.length cs, .slice am 1 cm, .int .i64 nat, .slice ap 0 cp] rfl (fun j v hj => by rw [Nat.zero_add]; exact hB15.cl hj) ?_
      refine ldK (hB15.cl rfl) ?_
      refine ix k rfl hlt ?_
      refine ldK (hS5 _ _ _ hcx) ?_
      subst hx1
      obtain ⟨bb, oo, rfl, hbx⟩ := bx_of hslx
      refine callK (fun w' hk' => there15_box cx _ rfl k (hbx w' (hS5.tr hk'))) ?_
      have h10' : s.kept.length = 0 := by
        have h10 : (s.kept.length : Int) = 0 := by simpa using h10
        omega
      intro w7 hk7
      refine int64 (by omega) (by omega) ?_
      exact ⟨k + 1, by omega, rfl, ⟨rfl, rfl, trivial⟩, hlt, hkp5.tr hk7, go (by unfold entOk; rw [h5, decide_eq_true (show s.params = 0 by simpa using h9), decide_eq_true h10']; simp)⟩
    · intro w7 hk7
      refine int64 (by omega) (by omega) ?_
      exact ⟨k + 1, by omega, rfl, ⟨rfl, rfl, trivial⟩, hlt, hkp5.tr hk7, go (by unfold entOk; rw [h5, decide_eq_true (show x.length = 0 by omega)]; rfl)⟩
  · rw [List.drop_eq_nil_of_le (by omega)] at hr
    have hr : RES = natOk bodies shapes nat := hr
    refine ldN [.slice ab bodies.length cb, .slice ash shapes.length cs, .slice am 1 cm, .int .i64 nat, .slice ap 0 cp] rfl (fun j v hj => by rw [Nat.zero_add]; exact hB2.cl hj) ?_
    (repeat first | refine ldC ‹Sub _ _› (by assumption) ?_ | refine ld (Cl.cell (by first | assumption | exact Bk.cl (by assumption) rfl)) ?_ | refine ldK (by first | assumption | exact Bk.cl (by assumption) rfl | exact ‹Sub _ _› _ _ _ (by assumption)) ?_)
    obtain ⟨bb, oo, rfl, hbx⟩ := bx_of hm
    refine ev_call (there15_box cm _ rfl _ (hbx w2 hS2)) ?_
    rintro e w3 ⟨rfl, hk3⟩
    have hB3 := hB2.kp hk3 (by simp)
    have hS3 := hS2.tr hk3
    have hk13 := (hk1.tr hkp).tr hk3
    refine ld (hB3.cl rfl).cell ?_
    have no : ∀ w', Kp [] w w' → RES = false → ∃ n : Int, Ending.returned (one [.int .i64 22]) = .returned (.int .i64 n) ∧ decide (n = 0) = RES ∧ Kp [] w w' := fun w' h e => ⟨22, rfl, by rw [e]; rfl, h⟩
    refine br_dec (fun g1 => ?_) (fun g1 => ?_)
    · refine ld (hB3.cl rfl).cell ?_
      refine br_dec (fun g2 => ?_) (fun g2 => ?_)
      · exact no _ hk13 (by rw [hr]; simp [natOk, g1, show ¬ 0 ≤ nat by omega])
      refine ld (hB3.cl rfl).cell ?_
      refine ld (hB3.cl rfl).cell ?_
      refine br_dec (fun g3 => ?_) (fun g3 => ?_)
      · exact no _ hk13 (by rw [hr]; simp [natOk, g1, show ¬ nat < bodies.length by omega])
      obtain ⟨x, hx⟩ : ∃ x, bodies[nat.toNat]? = some x := ⟨bodies[nat.toNat]'(by omega), by simp⟩
      obtain ⟨s, hsx⟩ : ∃ x, shapes[nat.toNat]? = some x := ⟨shapes[nat.toNat]'(by omega), by simp⟩
      have hr : RES = (decide (x.length = 0) && (decide (s.params = 0) && decide (s.kept = [[], [true]]))) := by
        rw [hr]
        unfold natOk
        rw [hx, hsx, decide_eq_false g1, decide_eq_true (show 0 ≤ nat by omega), decide_eq_true (show nat < bodies.length by omega)]
        simp
      obtain ⟨b, o, rfl, a', cap, hcx, _⟩ := hb.sl hx
      obtain ⟨b', o', rfl, ak, ck, hkept, _, hcp, hck⟩ := sl_shp hs hsx
      refine ld (hB3.cl rfl).cell ?_
      refine ld (hB3.cl rfl).cell ?_
      refine ix nat.toNat (by omega) (by omega) ?_
      refine ldC hS3 hcx ?_
      refine br_dec (fun g4 => ?_) (fun g4 => ?_)
      · exact no _ hk13 (by rw [hr, decide_eq_false (fun e => g4 (by rw [e]; rfl))]; rfl)
      have g4 : x.length = 0 := by
        have : (x.length : Int) = 0 := by simpa using g4
        omega
      rw [decide_eq_true g4, Bool.true_and] at hr
      refine ld (hB3.cl rfl).cell ?_
      refine ld (hB3.cl rfl).cell ?_
      refine ix nat.toNat (by omega) (by omega) ?_
      refine ldN [.int .i64 s.params, .slice ak s.kept.length ck] rfl (fun j v hj => ?_) ?_
      · match j with
        | 0 => simp at hj; subst hj; exact hS3 _ _ _ hcp
        | 1 => simp at hj; subst hj; exact hS3 _ _ _ hck
        | j + 2 => simp at hj
      refine new fun b4 w4 hb4 hB4 hs4 hk4 => ?_
      refine stN hB4 rfl (by simp [Value.oneCell']) fun w5 hB5 hs5 hk5 => ?_
      have hk35 : Kp [] w3 w5 := hk4.newSt hb4 hk5
      have hk15 := hk13.tr hk35
      have hS5 := hS3.tr hk35
      have hB3 := hB3.kp hk35 (by simp)
      refine ld (hB5.cl rfl).cell ?_
      refine br_dec (fun g5 => ?_) (fun g5 => ?_)
      · exact no _ hk15 (by rw [hr, decide_eq_false g5]; rfl)
      rw [decide_eq_true (show s.params = 0 by simpa using g5), Bool.true_and] at hr
      refine ld (hB5.cl rfl).cell ?_
      refine br_dec (fun g6 => ?_) (fun g6 => ?_)
      · exact no _ hk15 (by rw [hr, decide_eq_false (fun e => g6 (by rw [e]; rfl))])
      have g6 : s.kept.length = 2 := by
        have : (s.kept.length : Int) = 2 := by simpa using g6
        omega
      obtain ⟨y0, y1, hy⟩ : ∃ y0 y1, s.kept = [y0, y1] := by
        match h : s.kept, g6 with
        | [y0, y1], _ => exact ⟨y0, y1, rfl⟩
      obtain ⟨b5, o5, rfl, a0, c0, hc0, hsl0⟩ := hkept.sl (i := 0) (x := y0) (by rw [hy]; rfl)
      obtain ⟨b6, o6, e6, a1, c1, hc1, hsl1⟩ := hkept.sl (i := 1) (x := y1) (by rw [hy]; rfl)
      have e6 := Option.some.inj e6
      injection e6 with e7 e8
      subst e7 e8
      have hr : RES = decide (y0 = [] ∧ y1 = [true]) := by rw [hr, hy]; simp
      refine ld (hB5.cl rfl).cell ?_
      refine ix 0 rfl (by omega) ?_
      refine ldC hS5 hc0 ?_
      refine br_dec (fun g7 => ?_) (fun g7 => ?_)
      · exact no _ hk15 (by rw [hr, decide_eq_false (fun e => g7 (by rw [e.1]; rfl))])
      have g7 : y0 = [] := List.length_eq_zero_iff.1 (by
        have : (y0.length : Int) = 0 := by simpa using g7
        omega)
      refine ld (hB5.cl rfl).cell ?_
      refine ix 1 rfl (by omega) ?_
      refine ldC hS5 hc1 ?_
      refine br_dec (fun g8 => ?_) (fun g8 => ?_)
      · exact no _ hk15 (by rw [hr, decide_eq_false (fun e => g8 (by rw [e.2]; rfl))])
      obtain ⟨z, hz⟩ : ∃ z, y1 = [z] := by
        have : y1.length = 1 := by
          have : (y1.length : Int) = 1 := by simpa using g8
          omega
        match h : y1, this with
        | [z], _ => exact ⟨z, rfl⟩
      subst hz
      obtain ⟨b7, o7, rfl, hcz⟩ := hsl1.bool (i := 0) (x := z) rfl
      refine ld (hB5.cl rfl).cell ?_
      refine ix 1 rfl (by omega) ?_
      refine ldC hS5 hc1 ?_
      refine ix 0 rfl (by simp) ?_
      refine ldC hS5 hcz ?_
      refine br (fun g9 => ?_) (fun g9 => ?_)
      · exact no _ hk15 (by rw [hr, show z = false by simpa using g9]; simp)
      have hr : RES = true := by rw [hr, g7, show z = true by simpa using g9]; simp
      refine lp τok (fun _ : Unit => [(1, .pointer (some ⟨b1, 0, none⟩)), (7, .int .i64 0)]) (fun _ w' => w' = w5) (fun _ => 0) () rfl ⟨rfl, rfl, trivial⟩ rfl ?_
      rintro _ w6 rfl
      refine ld (hB3.cl rfl).cell ?_
      exact ⟨0, rfl, by rw [hr]; rfl, hk15⟩
    · have g1 : nat = -1 := by simpa using g1
      have hr : RES = true := by rw [hr]; simp [natOk, g1]
      refine lp τok (fun _ : Unit => [(1, .pointer (some ⟨b1, 0, none⟩)), (7, .int .i64 0)]) (fun _ w' => w' = w3) (fun _ => 0) () rfl ⟨rfl, rfl, trivial⟩ rfl ?_
      rintro _ w6 rfl
      refine ld (hB3.cl rfl).cell ?_
      exact ⟨0, rfl, by rw [hr]; rfl, hk13⟩
end Go.Proofs.Ytjogpbiilokldaa
