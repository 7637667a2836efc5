/-
  Code: package bare: registered and Right, where all rows are boxes or none.
-/
import Derived.Test.YtjogpbiilokldaaCdH
set_option linter.unusedSimpArgs false
set_option linter.unusedVariables false
namespace Go.Proofs.Ytjogpbiilokldaa
open Go.Wx Cd

theorem registered_ct {C : Mem} {w : World} (hS : Sub C w) (bodies : List (List Nd)) (shapes : List Shp) (nat : Int) (ab ash ap : Option Addr) (cb cs cp : Nat) (vm : Value) (hb : Sl (rSl rNd) C ab bodies) (hs : Sl rShp C ash shapes) (hl : bodies.length = shapes.length) :
    CallOk Try.prog 72 ∧ Calls Try.prog 72 #[.agg #[.slice ab bodies.length cb, .slice ash shapes.length cs, vm, .int .i64 nat, .slice ap 0 cp]] w (fun e w' => e = .returned (.bool (natOk bodies shapes nat)) ∧ Kp [] w w') := by
  obtain ⟨RES, hRES⟩ : ∃ r, natOk bodies shapes nat = r := ⟨_, rfl⟩
  rw [hRES]
  refine ⟨⟨_, Try.func72, rfl, by decide⟩, ?_⟩
  refine calls_of (args := [_]) 112 [.tmp 2] τok Try.func72 rfl rfl rfl (Nat.le_of_ble_eq_true rfl) ?_
  refine new fun b1 w1 hb1 hB1 hs1 hk1 => ?_
  have hB1 : Bk w1.heap b1 [.slice ab bodies.length cb, .slice ash shapes.length cs, vm, .int .i64 nat, .slice ap 0 cp] 71 := by
    have : (Value.agg #[.slice ab bodies.length cb, .slice ash shapes.length cs, vm, .int .i64 nat, .slice ap 0 cp]).cells.toList = [.slice ab bodies.length cb, .slice ash shapes.length cs, vm, .int .i64 nat, .slice ap 0 cp] := by rfl
    rw [← this]
    exact hB1
  have hS1 := hS.tr hk1
  (repeat first | refine ldC ‹Sub _ _› (by assumption) ?_ | refine ld (Cl.cell (by first | assumption | exact Bk.cl (by assumption) rfl)) ?_ | refine ldK (by first | assumption | exact Bk.cl (by assumption) rfl | exact ‹Sub _ _› _ _ _ (by assumption)) ?_)
  refine br_dec (fun h1 => ?_) (fun h1 => ?_)
  · (repeat first | refine ldC ‹Sub _ _› (by assumption) ?_ | refine ld (Cl.cell (by first | assumption | exact Bk.cl (by assumption) rfl)) ?_ | refine ldK (by first | assumption | exact Bk.cl (by assumption) rfl | exact ‹Sub _ _› _ _ _ (by assumption)) ?_)
    refine ⟨?_, hk1⟩
    rw [← hRES]
    simp [one, natOk, h1]
  (repeat first | refine ldC ‹Sub _ _› (by assumption) ?_ | refine ld (Cl.cell (by first | assumption | exact Bk.cl (by assumption) rfl)) ?_ | refine ldK (by first | assumption | exact Bk.cl (by assumption) rfl | exact ‹Sub _ _› _ _ _ (by assumption)) ?_)
  have no : ∀ w', Kp [] w w' → RES = false → Ending.returned (one [.bool false]) = .returned (.bool RES) ∧ Kp [] w w' := fun w' h e => ⟨by rw [e]; rfl, h⟩
  refine br_dec (fun h2 => ?_) (fun h2 => ?_)
  · exact no _ hk1 (by rw [← hRES]; simp [natOk, h1, show ¬ 0 ≤ nat by omega])
  (repeat first | refine ldC ‹Sub _ _› (by assumption) ?_ | refine ld (Cl.cell (by first | assumption | exact Bk.cl (by assumption) rfl)) ?_ | refine ldK (by first | assumption | exact Bk.cl (by assumption) rfl | exact ‹Sub _ _› _ _ _ (by assumption)) ?_)
  refine br_dec (fun h3 => ?_) (fun h3 => ?_)
  · exact no _ hk1 (by rw [← hRES]; simp [natOk, h1, show ¬ nat < bodies.length by omega])
  obtain ⟨x, hx⟩ : ∃ x, bodies[nat.toNat]? = some x := ⟨bodies[nat.toNat]'(by omega), by simp⟩
  obtain ⟨s, hsx⟩ : ∃ x, shapes[nat.toNat]? = some x := ⟨shapes[nat.toNat]'(by omega), by simp⟩
  have hRES : RES = (decide (x.length = 0) && (decide (s.params = 0) && decide (s.kept = [[], [true]]))) := by
    rw [← hRES]
    unfold natOk
    rw [hx, hsx, decide_eq_false h1, decide_eq_true (show 0 ≤ nat by omega), decide_eq_true (show nat < bodies.length by omega)]
    simp
  obtain ⟨b, o, rfl, a', cap, hcx, _⟩ := hb.sl hx
  obtain ⟨b', o', rfl, ak, ck, hkept, _, hcp, hck⟩ := sl_shp hs hsx
  (repeat first | refine ldC ‹Sub _ _› (by assumption) ?_ | refine ld (Cl.cell (by first | assumption | exact Bk.cl (by assumption) rfl)) ?_ | refine ldK (by first | assumption | exact Bk.cl (by assumption) rfl | exact ‹Sub _ _› _ _ _ (by assumption)) ?_)
  refine ix nat.toNat (by omega) (by omega) ?_
  (repeat first | refine ldC ‹Sub _ _› (by assumption) ?_ | refine ld (Cl.cell (by first | assumption | exact Bk.cl (by assumption) rfl)) ?_ | refine ldK (by first | assumption | exact Bk.cl (by assumption) rfl | exact ‹Sub _ _› _ _ _ (by assumption)) ?_)
  refine br_dec (fun h4 => ?_) (fun h4 => ?_)
  · exact no _ hk1 (by rw [hRES, decide_eq_false (by omega)]; rfl)
  rw [decide_eq_true (show x.length = 0 by omega), Bool.true_and] at hRES
  (repeat first | refine ldC ‹Sub _ _› (by assumption) ?_ | refine ld (Cl.cell (by first | assumption | exact Bk.cl (by assumption) rfl)) ?_ | refine ldK (by first | assumption | exact Bk.cl (by assumption) rfl | exact ‹Sub _ _› _ _ _ (by assumption)) ?_)
  refine ix nat.toNat (by omega) (by omega) ?_
  refine ldN [.int .i64 s.params, .slice ak s.kept.length ck] rfl (fun j v hj => ?_) ?_
  · match j with
    | 0 => simp at hj; subst hj; exact hS1 _ _ _ hcp
    | 1 => simp at hj; subst hj; exact hS1 _ _ _ hck
    | j + 2 => simp at hj
  refine new fun b2 w2 hb2 hB2 hs2 hk2 => ?_
  refine stN hB2 rfl (by simp [Value.oneCell']) fun w3 hB3 hs3 hk3 => ?_
  have hk23 : Kp [] w1 w3 := hk2.newSt hb2 hk3
  have hk13 := hk1.tr hk23
  have hS3 := hS1.tr hk23
  (repeat first | refine ldC ‹Sub _ _› (by assumption) ?_ | refine ld (Cl.cell (by first | assumption | exact Bk.cl (by assumption) rfl)) ?_ | refine ldK (by first | assumption | exact Bk.cl (by assumption) rfl | exact ‹Sub _ _› _ _ _ (by assumption)) ?_)
  refine br_dec (fun h5 => ?_) (fun h5 => ?_)
  · exact no _ hk13 (by rw [hRES, decide_eq_false h5]; rfl)
  rw [decide_eq_true (show s.params = 0 by simpa using h5), Bool.true_and] at hRES
  (repeat first | refine ldC ‹Sub _ _› (by assumption) ?_ | refine ld (Cl.cell (by first | assumption | exact Bk.cl (by assumption) rfl)) ?_ | refine ldK (by first | assumption | exact Bk.cl (by assumption) rfl | exact ‹Sub _ _› _ _ _ (by assumption)) ?_)
  refine br_dec (fun h6 => ?_) (fun h6 => ?_)
  · exact no _ hk13 (by rw [hRES, decide_eq_false (fun e => h6 (by rw [e]; rfl))])
  have h6 : s.kept.length = 2 := by
    have : (s.kept.length : Int) = 2 := by simpa using h6
    omega
  obtain ⟨y0, y1, hy⟩ : ∃ y0 y1, s.kept = [y0, y1] := by
    match h : s.kept, h6 with
    | [y0, y1], _ => exact ⟨y0, y1, rfl⟩
  obtain ⟨b5, o5, rfl, a0, c0, hc0, hsl0⟩ := hkept.sl (i := 0) (x := y0) (by rw [hy]; rfl)
  obtain ⟨b6, o6, e6, a1, c1, hc1, hsl1⟩ := hkept.sl (i := 1) (x := y1) (by rw [hy]; rfl)
  have e6 := Option.some.inj e6
  injection e6 with e7 e8
  subst e7 e8
  (repeat first | refine ldC ‹Sub _ _› (by assumption) ?_ | refine ld (Cl.cell (by first | assumption | exact Bk.cl (by assumption) rfl)) ?_ | refine ldK (by first | assumption | exact Bk.cl (by assumption) rfl | exact ‹Sub _ _› _ _ _ (by assumption)) ?_)
  refine ix 0 rfl (by omega) ?_
  (repeat first | refine ldC ‹Sub _ _› (by assumption) ?_ | refine ld (Cl.cell (by first | assumption | exact Bk.cl (by assumption) rfl)) ?_ | refine ldK (by first | assumption | exact Bk.cl (by assumption) rfl | exact ‹Sub _ _› _ _ _ (by assumption)) ?_)
  refine br_dec (fun h7 => ?_) (fun h7 => ?_)
  · refine no _ hk13 ?_
    rw [hRES, decide_eq_false (fun e => h7 ?_)]
    rw [hy] at e
    simp at e
    rw [e.1]
    rfl
  have h7 : y0 = [] := List.length_eq_zero_iff.1 (by
    have : (y0.length : Int) = 0 := by simpa using h7
    omega)
  (repeat first | refine ldC ‹Sub _ _› (by assumption) ?_ | refine ld (Cl.cell (by first | assumption | exact Bk.cl (by assumption) rfl)) ?_ | refine ldK (by first | assumption | exact Bk.cl (by assumption) rfl | exact ‹Sub _ _› _ _ _ (by assumption)) ?_)
  refine ix 1 rfl (by omega) ?_
  (repeat first | refine ldC ‹Sub _ _› (by assumption) ?_ | refine ld (Cl.cell (by first | assumption | exact Bk.cl (by assumption) rfl)) ?_ | refine ldK (by first | assumption | exact Bk.cl (by assumption) rfl | exact ‹Sub _ _› _ _ _ (by assumption)) ?_)
  refine fill [.bool true] rfl ?_
  refine new fun b8 w8 hb8 hB8 hs8 hk8 => ?_
  have hk18 := hk13.tr hk8
  have hD : Sl rBool (New b8 w8) (some ⟨b8, 0, none⟩) [true] := ⟨by simp, .inr ⟨b8, 0, rfl, fun i x hi => by
    match i with
    | 0 =>
      simp at hi
      subst hi
      exact ⟨[.bool true], rfl, fun j v hj => ⟨Nat.le_refl _, hB8.cu (by simpa using hj)⟩⟩
    | i + 1 => simp at hi⟩⟩
  refine ev_call (equalB_ct (hS3.tr hk8) (New.sub b8 w8) y1 [true] a1 (some ⟨b8, 0, none⟩) c1 1 hsl1 hD) ?_
  rintro e w9 ⟨rfl, hk9⟩
  have hk19 := hk18.tr hk9
  have hB19 := hB1.kp ((hk23.tr hk8).tr hk9) (by simp)
  have hRES : RES = decide (y1 = [true]) := by
    rw [hRES, hy, h7]
    simp
  refine br (fun h8 => ?_) (fun h8 => ?_)
  · exact no _ hk19 (by rw [hRES]; simpa using h8)
  have hRES : RES = true := by rw [hRES]; simpa using h8
  refine ld (hB19.cl rfl).cell ?_
  refine lp τok (fun _ : Unit => [(67, .slice ap 0 cp), (68, .int .i64 0), (69, .int .i64 0)]) (fun _ w' => Kp [] w w') (fun _ => 0) () rfl ⟨rfl, rfl, rfl, trivial⟩ hk19 ?_
  rintro _ w10 hk10
  exact ⟨by rw [hRES]; rfl, hk10⟩

theorem bx_of {C : Mem} {a : Option Addr} (h : Sl rNd C a [Nd.box]) : ∃ b o, a = some ⟨b, o, none⟩ ∧ ∀ w, Sub C w → Bx w b o := by
  obtain ⟨b, o, ha, hc⟩ := h.at (i := 0) (by simp)
  obtain ⟨cs, ⟨rfl, _⟩, h2⟩ := hc 0 Nd.box rfl
  simp only [Nat.zero_mul, Nat.add_zero] at h2
  exact ⟨b, o, ha, fun w hw => ⟨hw _ _ _ (h2 0 _ rfl), hw _ _ _ (h2 1 _ rfl), hw _ _ _ (h2 2 _ rfl)⟩⟩

theorem entsOk_drop {bodies : List (List Nd)} {shapes : List Shp} {k : Nat} {x : List Nd} {s : Shp} (hx : bodies.drop k = x :: bodies.drop (k + 1)) (hs : shapes.drop k = s :: shapes.drop (k + 1)) : entsOk (bodies.drop k) (shapes.drop k) = (entOk x s && entsOk (bodies.drop (k + 1)) (shapes.drop (k + 1))) := by
  rw [hx, hs]
  rfl

theorem right_ct {C : Mem} {w : World} (hS : Sub C w) (bodies : List (List Nd)) (shapes : List Shp) (nat : Int) (ab ash am ap : Option Addr) (cb cs cm cp : Nat) (hb : Sl (rSl rNd) C ab bodies) (hs : Sl rShp C ash shapes) (hm : Sl rNd C am [Nd.box])
    (hbox : ∀ b ∈ bodies, b = [] ∨ b = [Nd.box]) (hb64 : bodies.length ≤ 64) (hs64 : shapes.length ≤ 64) :
    CallOk Try.prog 52 ∧ Calls Try.prog 52 #[.agg #[.slice ab bodies.length cb, .slice ash shapes.length cs, .slice am 1 cm, .int .i64 nat, .slice ap 0 cp]] w (fun e w' => ∃ n : Int, e = .returned (.int .i64 n) ∧ decide (n = 0) = rightM bodies shapes nat ∧ Kp [] w w') := by
  obtain ⟨RES, hRES⟩ : ∃ r, rightM bodies shapes nat = r := ⟨_, rfl⟩
  rw [hRES]
  refine ⟨⟨_, Try.func52, rfl, by decide⟩, ?_⟩
  refine calls_of (args := [_]) 74 [.tmp 2] τok Try.func52 rfl rfl rfl (Nat.le_of_ble_eq_true rfl) ?_
  refine new fun b1 w1 hb1 hB1 hs1 hk1 => ?_
  have hB1 : Bk w1.heap b1 [.slice ab bodies.length cb, .slice ash shapes.length cs, .slice am 1 cm, .int .i64 nat, .slice ap 0 cp] 71 := hB1
  have hS1 := hS.tr hk1
  (repeat first | refine ldC ‹Sub _ _› (by assumption) ?_ | refine ld (Cl.cell (by first | assumption | exact Bk.cl (by assumption) rfl)) ?_ | refine ldK (by first | assumption | exact Bk.cl (by assumption) rfl | exact ‹Sub _ _› _ _ _ (by assumption)) ?_)
  refine br_dec (fun h1 => ?_) (fun h1 => ?_)
  · exact absurd h1 (by omega)
  (repeat first | refine ldC ‹Sub _ _› (by assumption) ?_ | refine ld (Cl.cell (by first | assumption | exact Bk.cl (by assumption) rfl)) ?_ | refine ldK (by first | assumption | exact Bk.cl (by assumption) rfl | exact ‹Sub _ _› _ _ _ (by assumption)) ?_)
  refine br_dec (fun h2 => ?_) (fun h2 => ?_)
  · exact absurd h2 (by omega)
  (repeat first | refine ldC ‹Sub _ _› (by assumption) ?_ | refine ld (Cl.cell (by first | assumption | exact Bk.cl (by assumption) rfl)) ?_ | refine ldK (by first | assumption | exact Bk.cl (by assumption) rfl | exact ‹Sub _ _› _ _ _ (by assumption)) ?_)
  refine br_dec (fun h3 => ?_) (fun h3 => ?_)
  · exact ⟨8, rfl, by rw [← hRES]; unfold rightM; rw [decide_eq_false (p := bodies.length = shapes.length) (fun e => h3 (by rw [e]))]; rfl, hk1⟩
  have hl : bodies.length = shapes.length := by
    have : (bodies.length : Int) = shapes.length := by simpa using h3
    omega
  unfold rightM at hRES
  rw [decide_eq_true hl, Bool.true_and] at hRES
  (repeat first | refine ldC ‹Sub _ _› (by assumption) ?_ | refine ld (Cl.cell (by first | assumption | exact Bk.cl (by assumption) rfl)) ?_ | refine ldK (by first | assumption | exact Bk.cl (by assumption) rfl | exact ‹Sub _ _› _ _ _ (by assumption)) ?_)
  refine lp τok (σ := Nat) (fun k => [(1, .pointer (some ⟨b1, 0, none⟩)), (24, .slice ab bodies.length cb), (25, .int .i64 bodies.length), (26, .int .i64 k)])
    (fun k w' => k ≤ bodies.length ∧ Kp [] w1 w' ∧ RES = (entsOk (bodies.drop k) (shapes.drop k) && natOk bodies shapes nat)) (fun k => bodies.length - k) 0 rfl ⟨rfl, rfl, rfl, rfl, trivial⟩ ⟨Nat.zero_le _, Kp.refl _ _, hRES.symm⟩ ?_
  rintro k w2 ⟨hk, hkp, hr⟩
  have hB2 := hB1.kp hkp (by simp)
  have hS2 := hS1.tr hkp
  refine br_dec (fun h4 => ?_) (fun h4 => ?_)
  · have hlt : k < bodies.length := by omega
    obtain ⟨x, hx, hdx⟩ := drop_get hlt
    obtain ⟨s, hsx, hds⟩ := drop_get (l := shapes) (k := k) (by omega)
    rw [entsOk_drop hdx hds, Bool.and_assoc] at hr
    have hxb := hbox x (List.mem_of_getElem? hx)
    obtain ⟨b, o, rfl, ax, cx, hcx, hslx⟩ := hb.sl hx
    obtain ⟨b', o', rfl, ak, ck, hkept, _, hcp, hck⟩ := sl_shp hs hsx
    refine ix k rfl hlt ?_
    (repeat first | refine ldC ‹Sub _ _› (by assumption) ?_ | refine ld (Cl.cell (by first | assumption | exact Bk.cl (by assumption) rfl)) ?_ | refine ldK (by first | assumption | exact Bk.cl (by assumption) rfl | exact ‹Sub _ _› _ _ _ (by assumption)) ?_)
    refine ix k rfl (by omega) ?_
    refine ldN [.int .i64 s.params, .slice ak s.kept.length ck] rfl (fun j v hj => ?_) ?_
    · match j with
      | 0 => simp at hj; subst hj; exact hS2 _ _ _ hcp
      | 1 => simp at hj; subst hj; exact hS2 _ _ _ hck
      | j + 2 => simp at hj
    refine new fun b3 w3 hb3 hB3 hs3 hk3 => ?_
    refine stN hB3 rfl (by simp [Value.oneCell']) fun w4 hB4 hs4 hk4 => ?_
    have hk24 : Kp [] w2 w4 := hk3.newSt hb3 hk4
    have hkp4 := hkp.tr hk24
    refine ldN [.int .i64 s.params, .slice ak s.kept.length ck] rfl (fun j v hj => by rw [Nat.zero_add]; exact hB4.cl hj) ?_
    refine ev_call (shapedS_ct (hS1.tr hkp4) s ak ck hkept) ?_
    rintro e w5 ⟨rfl, hk5⟩
    have hkp5 := hkp4.tr hk5
    have hB5 := hB4.kp hk5 (by simp)
    have no : ∀ w', Kp [] w1 w' → entOk x s = false → ∃ n : Int, Ending.returned (one [.int .i64 8]) = .returned (.int .i64 n) ∧ decide (n = 0) = RES ∧ Kp [] w w' := fun w' h e => ⟨8, rfl, by rw [hr, e]; rfl, hk1.tr h⟩
    refine br (fun h5 => ?_) (fun h5 => ?_)
    · exact no _ hkp5 (by unfold entOk; rw [show shpOk s = false by simpa using h5]; rfl)
    have h5 : shpOk s = true := by simpa using h5
    have go : ∀ w', Kp [] w1 w' → entOk x s = true → RES = (entsOk (bodies.drop (k + 1)) (shapes.drop (k + 1)) && natOk bodies shapes nat) := fun w' h e => by rw [hr, e, Bool.true_and]
    refine br_dec (fun h6 => ?_) (fun h6 => ?_)
    · have hx1 : x = [Nd.box] := by
        rcases hxb with e | e
        · rw [e] at h6; simp at h6
        · exact e
      (repeat first | refine ldC ‹Sub _ _› (by assumption) ?_ | refine ld (Cl.cell (by first | assumption | exact Bk.cl (by assumption) rfl)) ?_ | refine ldK (by first | assumption | exact Bk.cl (by assumption) rfl | exact ‹Sub _ _› _ _ _ (by assumption)) ?_)
      refine br_dec (fun h7 => ?_) (fun h7 => ?_)
      · exact no _ hkp5 (by unfold entOk; rw [h5, hx1, decide_eq_false h7]; rfl)
      (repeat first | refine ldC ‹Sub _ _› (by assumption) ?_ | refine ld (Cl.cell (by first | assumption | exact Bk.cl (by assumption) rfl)) ?_ | refine ldK (by first | assumption | exact Bk.cl (by assumption) rfl | exact ‹Sub _ _› _ _ _ (by assumption)) ?_)
      refine br_dec (fun h8 => ?_) (fun h8 => ?_)
      · exact no _ hkp5 (by unfold entOk; rw [h5, hx1, decide_eq_false (show ¬ s.kept.length = 0 by omega)]; simp)
      have hB15 := hB1.kp hkp5 (by simp)
      refine ldN [.slice (some ⟨b, o, none⟩) bodies.length cb, .slice (some ⟨b', o', none⟩) shapes.length cs, .slice am 1 cm, .int .i64 nat, .slice ap 0 cp] rfl (fun j v hj => by rw [Nat.zero_add]; exact hB15.cl hj) ?_
      subst hx1
      obtain ⟨bb, oo, rfl, hbx⟩ := bx_of hslx
      refine ev_call (there_box cx _ k (hbx w5 (hS1.tr hkp5))) ?_
      rintro e w6 ⟨rfl, hk6⟩
      have hkp6 := hkp5.tr hk6
      refine int64 (by omega) (by omega) ?_
      exact ⟨k + 1, by omega, rfl, ⟨rfl, rfl, rfl, rfl, trivial⟩, hlt, hkp6, go _ hkp6 (by unfold entOk; rw [h5, decide_eq_true (show s.params = 0 by simpa using h7), decide_eq_true (show s.kept.length = 0 by omega)]; simp)⟩
    · refine int64 (by omega) (by omega) ?_
      exact ⟨k + 1, by omega, rfl, ⟨rfl, rfl, rfl, rfl, trivial⟩, hlt, hkp5, go _ hkp5 (by unfold entOk; rw [h5, decide_eq_true (show x.length = 0 by omega)]; rfl)⟩
  · rw [List.drop_eq_nil_of_le (by omega)] at hr
    have hr : RES = natOk bodies shapes nat := hr
    refine ldN [.slice ab bodies.length cb, .slice ash shapes.length cs, .slice am 1 cm, .int .i64 nat, .slice ap 0 cp] rfl (fun j v hj => by rw [Nat.zero_add]; exact hB2.cl hj) ?_
    (repeat first | refine ldC ‹Sub _ _› (by assumption) ?_ | refine ld (Cl.cell (by first | assumption | exact Bk.cl (by assumption) rfl)) ?_ | refine ldK (by first | assumption | exact Bk.cl (by assumption) rfl | exact ‹Sub _ _› _ _ _ (by assumption)) ?_)
    obtain ⟨bb, oo, rfl, hbx⟩ := bx_of hm
    refine ev_call (there_box cm _ _ (hbx w2 hS2)) ?_
    rintro e w3 ⟨rfl, hk3⟩
    have hB3 := hB2.kp hk3 (by simp)
    refine ldN [.slice ab bodies.length cb, .slice ash shapes.length cs, .slice (some ⟨bb, oo, none⟩) 1 cm, .int .i64 nat, .slice ap 0 cp] rfl (fun j v hj => by rw [Nat.zero_add]; exact hB3.cl hj) ?_
    refine ev_call (registered_ct (hS2.tr hk3) bodies shapes nat ab ash ap cb cs cp _ hb hs hl) ?_
    rintro e w4 ⟨rfl, hk4⟩
    have hk14 := ((hk1.tr hkp).tr hk3).tr hk4
    refine br (fun h5 => ?_) (fun h5 => ?_)
    · exact ⟨22, rfl, by rw [hr, show natOk bodies shapes nat = false by simpa using h5]; rfl, hk14⟩
    · exact ⟨0, rfl, by rw [hr, show natOk bodies shapes nat = true by simpa using h5]; rfl, hk14⟩
end Go.Proofs.Ytjogpbiilokldaa
