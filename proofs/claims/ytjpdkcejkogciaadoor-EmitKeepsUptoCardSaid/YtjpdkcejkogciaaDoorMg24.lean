/-
  Own texts put together: EmKd.
-/
import Derived.Test.YtjpdkcejkogciaaDoorMg23
/-
  Reference 14: SameBared at equal programs.
-/
set_option linter.unusedSimpArgs false
set_option linter.unusedVariables false
namespace Go.Proofs.YtjpdkcejkogciaaDoor
open Go.Wx Cd
section
variable {C D : Mem} {w : World}
set_option maxHeartbeats 1000000 in
theorem sameBrd_ct (hC : Sub C w) (hD : Sub D w) {cs cs' : List Value} (p : Brd) (h : rBrd.den C cs p) (h' : rBrd.den D cs' p) :
    CallOk Tryd.prog 16 ∧ Calls Tryd.prog 16 #[.agg cs.toArray, .agg cs'.toArray] w (fun e w' => e = .returned (.bool true) ∧ Kp [] w w') := by
  refine ⟨⟨_, Tryd.func16, rfl, by decide⟩, ?_⟩
  obtain ⟨a1, c1, a2, c2, a3, c3, a4, c4, rfl, h1, h2, h3, h4, h5, _⟩ := h
  obtain ⟨a1', c1', a2', c2', a3', c3', a4', c4', rfl, h1', h2', h3', h4', _⟩ := h'
  have hl1 := h1.1
  have hl2 := h2.1
  have hl4 := h4.1
  refine calls_of (args := [_, _]) 154 [.tmp 4] τok Tryd.func16 rfl rfl rfl (Nat.le_of_ble_eq_true rfl) ?_
  refine new fun b2 w1 hb2 hB2 hs1 hk1 => ?_
  refine new fun b3 w2 hb3 hB3 hs2 hk2 => ?_
  have hB2 : Bk w2.heap b2 [.slice a1 p.bodies.length c1, .slice a2 p.shapes.length c2, .slice a3 p.main.length c3, .int .i64 p.nat, .slice a4 p.prims.length c4] 33 := Bk.kp hB2 hk2 (by simp)
  have hB3 : Bk w2.heap b3 [.slice a1' p.bodies.length c1', .slice a2' p.shapes.length c2', .slice a3' p.main.length c3', .int .i64 p.nat, .slice a4' p.prims.length c4'] 33 := hB3
  have hk02 := hk1.tr hk2
  refine ld (hB2.cl rfl).cell ?_
  refine ld (hB3.cl rfl).cell ?_
  refine br_no (by simp) ?_
  refine ld (hB2.cl rfl).cell ?_
  refine ld (hB3.cl rfl).cell ?_
  refine br_no (by simp) ?_
  refine ld (hB2.cl rfl).cell ?_
  refine ld (hB3.cl rfl).cell ?_
  refine br_no (by simp) ?_
  refine ld (hB2.cl rfl).cell ?_
  refine ld (hB3.cl rfl).cell ?_
  refine br_no (by simp) ?_
  refine ld (hB2.cl rfl).cell ?_
  refine ld (hB3.cl rfl).cell ?_
  refine ev_call (same14_ct (hC.tr hk02) (hD.tr hk02) p.main a3 a3' c3 c3' h3 h3') ?_
  rintro e w3 ⟨rfl, hk3⟩
  refine lp τok (σ := Nat) (fun k => [(2, .pointer (some ⟨b2, 0, none⟩)), (3, .pointer (some ⟨b3, 0, none⟩)), (5, .int .i64 k)]) (fun k w' => Kp [] w2 w') (fun k => p.bodies.length - k) 0 rfl ⟨rfl, rfl, rfl, trivial⟩ hk3 ?_
  rintro k w6 hk6
  have hB6 := hB2.kp hk6 (by simp)
  have hB6' := hB3.kp hk6 (by simp)
  refine ld (hB6.cl rfl).cell ?_
  refine br_dec (fun h => ?_) (fun h => ?_)
  · have hlt : k < p.bodies.length := by omega
    obtain ⟨x, hx, _⟩ := drop_get hlt
    obtain ⟨b, o, rfl, ax, cx, hcell, _, hcode⟩ := h1.sk hx
    obtain ⟨b', o', rfl, ax', cx', hcell', _, hcode'⟩ := h1'.sk hx
    refine drawQ τok (fun w' => Kp [] w6 w') (by kernel_rfl) ((Kp.refl [] w6).dr _) ?_
    refine ldK (hB6.cl rfl) ?_
    refine ix k rfl hlt ?_
    refine ldK ((hC.tr (hk02.tr hk6)) _ _ _ hcell) ?_
    refine ldK (hB6'.cl rfl) ?_
    refine ix k rfl hlt ?_
    refine ldK ((hD.tr (hk02.tr hk6)) _ _ _ hcell') ?_
    refine callK (v := .bool true) (fun w' hk' => same14_ct (hC.tr ((hk02.tr hk6).tr hk')) (hD.tr ((hk02.tr hk6).tr hk')) x ax ax' cx cx' hcode hcode') ?_
    intro w7 hk7
    refine int64 (by omega) (by omega) ?_
    exact ⟨k + 1, by omega, rfl, ⟨rfl, rfl, rfl, trivial⟩, hk6.tr hk7⟩
  refine lp τok (σ := Nat) (fun k => [(2, .pointer (some ⟨b2, 0, none⟩)), (3, .pointer (some ⟨b3, 0, none⟩)), (6, .int .i64 k)]) (fun k w' => Kp [] w2 w') (fun k => p.shapes.length - k) 0 rfl ⟨rfl, rfl, rfl, trivial⟩ hk6 ?_
  rintro k w5 hk5
  have hB5 := hB2.kp hk5 (by simp)
  have hB5' := hB3.kp hk5 (by simp)
  refine ld (hB5.cl rfl).cell ?_
  refine br_dec (fun h => ?_) (fun h => ?_)
  · have hlt : k < p.shapes.length := by omega
    obtain ⟨s, hs, _⟩ := drop_get hlt
    obtain ⟨b, o, rfl, ak, ck, hkept, _, hcp, hck⟩ := sl_shp h2 hs
    obtain ⟨b', o', rfl, ak', ck', hkept', _, hcp', hck'⟩ := sl_shp h2' hs
    have hkl := hkept.1
    have q0 : ∀ {u}, Kp [] w2 u → Cl u.heap b (o + k * 2) (.int .i64 s.params) := fun k => (hC.tr (hk02.tr k)) _ _ _ hcp
    have q1 : ∀ {u}, Kp [] w2 u → Cl u.heap b (o + k * 2 + 1) (.slice ak s.kept.length ck) := fun k => (hC.tr (hk02.tr k)) _ _ _ hck
    have r0 : ∀ {u}, Kp [] w2 u → Cl u.heap b' (o' + k * 2) (.int .i64 s.params) := fun k => (hD.tr (hk02.tr k)) _ _ _ hcp'
    have r1 : ∀ {u}, Kp [] w2 u → Cl u.heap b' (o' + k * 2 + 1) (.slice ak' s.kept.length ck') := fun k => (hD.tr (hk02.tr k)) _ _ _ hck'
    refine drawR τok (by kernel_rfl) ?_
    refine ldR (hB5.cl rfl) ?_
    refine ix k rfl hlt ?_
    refine ldR (q0 hk5) ?_
    refine ldR (hB5'.cl rfl) ?_
    refine ix k rfl hlt ?_
    refine ldR (r0 hk5) ?_
    refine br_dec (fun hc => ?_) (fun _ => ?_)
    · exact absurd rfl hc
    refine ldR (hB5.cl rfl) ?_
    refine ix k rfl hlt ?_
    refine ldR (q1 hk5) ?_
    refine ldR (hB5'.cl rfl) ?_
    refine ix k rfl hlt ?_
    refine ldR (r1 hk5) ?_
    intro m'
    conv => whnf
    refine br_dec (fun hc => ?_) (fun _ => ?_)
    · exact absurd rfl hc
    refine lp τok (σ := Nat) (fun j => [(2, .pointer (some ⟨b2, 0, none⟩)), (3, .pointer (some ⟨b3, 0, none⟩)), (6, .int .i64 k), (7, .int .i64 j)]) (fun j w' => Kp [] w2 w') (fun j => s.kept.length - j) 0 rfl ⟨rfl, rfl, rfl, rfl, trivial⟩ (hk5.dr _) ?_
    rintro j w6 hk6
    have hB6 := hB2.kp hk6 (by simp)
    have hB6' := hB3.kp hk6 (by simp)
    refine ld (hB6.cl rfl).cell ?_
    refine ix k rfl hlt ?_
    refine ld (q1 hk6).cell ?_
    refine br_dec (fun h2 => ?_) (fun h2 => ?_)
    · have hltj : j < s.kept.length := by omega
      obtain ⟨x, hx, _⟩ := drop_get hltj
      obtain ⟨bt, ot, rfl, ax, cx, hcell, hsx⟩ := hkept.sl hx
      obtain ⟨bt', ot', rfl, ax', cx', hcell', hsx'⟩ := hkept'.sl hx
      refine drawQ τok (fun w' => Kp [] w6 w') (by kernel_rfl) ((Kp.refl [] w6).dr _) ?_
      refine ldK (hB6.cl rfl) ?_
      refine ix k rfl hlt ?_
      refine ldK (q1 hk6) ?_
      refine ix j rfl hltj ?_
      refine ldK ((hC.tr (hk02.tr hk6)) _ _ _ hcell) ?_
      refine ldK (hB6'.cl rfl) ?_
      refine ix k rfl hlt ?_
      refine ldK (r1 hk6) ?_
      refine ix j rfl hltj ?_
      refine ldK ((hD.tr (hk02.tr hk6)) _ _ _ hcell') ?_
      refine callK (v := .bool true) (fun w' hk' => sameBools_ct (hC.tr ((hk02.tr hk6).tr hk')) (hD.tr ((hk02.tr hk6).tr hk')) x ax ax' cx cx' hsx hsx') ?_
      intro w7 hk7
      refine int64 (by omega) (by omega) ?_
      exact ⟨j + 1, by omega, rfl, ⟨rfl, rfl, rfl, rfl, trivial⟩, hk6.tr hk7⟩
    · refine int64 (by omega) (by omega) ?_
      exact ⟨k + 1, by omega, rfl, ⟨rfl, rfl, rfl, trivial⟩, hk6⟩
  · refine lp τok (σ := Nat) (fun k => [(2, .pointer (some ⟨b2, 0, none⟩)), (3, .pointer (some ⟨b3, 0, none⟩)), (8, .int .i64 k)]) (fun k w' => Kp [] w2 w') (fun k => p.prims.length - k) 0 rfl ⟨rfl, rfl, rfl, trivial⟩ hk5 ?_
    rintro k w7 hk7
    have hB7 := hB2.kp hk7 (by simp)
    have hB7' := hB3.kp hk7 (by simp)
    refine ld (hB7.cl rfl).cell ?_
    refine br_dec (fun h => ?_) (fun h => ?_)
    · have hlt : k < p.prims.length := by omega
      obtain ⟨x, hx, _⟩ := drop_get hlt
      obtain ⟨b, o, rfl, _, _, hc0, hc1⟩ := sl_prm h4 hx
      obtain ⟨b', o', rfl, _, _, hc0', hc1'⟩ := sl_prm h4' hx
      refine drawQ τok (fun w' => Kp [] w7 w') (by kernel_rfl) ((Kp.refl [] w7).dr _) ?_
      refine ldK (hB7.cl rfl) ?_
      refine ix k rfl hlt ?_
      refine ldNK [.int .i64 x.1, .int .i64 x.2] rfl (fun j v hj => (hC.tr (hk02.tr hk7)) _ _ _ (by match j, hj with | 0, hj => obtain rfl := Option.some.inj hj; exact hc0 | 1, hj => obtain rfl := Option.some.inj hj; exact hc1)) ?_
      refine ldK (hB7'.cl rfl) ?_
      refine ix k rfl hlt ?_
      refine ldNK [.int .i64 x.1, .int .i64 x.2] rfl (fun j v hj => (hD.tr (hk02.tr hk7)) _ _ _ (by match j, hj with | 0, hj => obtain rfl := Option.some.inj hj; exact hc0' | 1, hj => obtain rfl := Option.some.inj hj; exact hc1')) ?_
      refine runQ (v := .bool false) (fun w _ => neqPrm_run _ _ x w) ?_
      intro w8 hk8
      refine int64 (by omega) (by omega) ?_
      exact ⟨k + 1, by omega, rfl, ⟨rfl, rfl, rfl, trivial⟩, hk7.tr hk8⟩
    · exact ⟨rfl, hk02.tr hk7⟩
end
end Go.Proofs.YtjpdkcejkogciaaDoor

