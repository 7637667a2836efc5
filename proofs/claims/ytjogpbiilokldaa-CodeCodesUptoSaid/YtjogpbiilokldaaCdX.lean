/-
  Code: what is the same is told the same: SameBools, SameBared, SameBlock, Same.
-/
import Derived.Test.YtjogpbiilokldaaCdW
set_option linter.unusedSimpArgs false
set_option linter.unusedVariables false
namespace Go.Proofs.Ytjogpbiilokldaa
open Go.Wx Cd

section
variable {C D : Mem} {w : World} (hC : Sub C w) (hD : Sub D w)
include hC hD

theorem sameBools_ct (l : List Bool) (a a' : Option Addr) (c c' : Nat) (hl : Sl rBool C a l) (hm : Sl rBool D a' l) :
    CallOk Try.prog 69 ∧ Calls Try.prog 69 #[.slice a l.length c, .slice a' l.length c'] w (fun e w' => e = .returned (.bool true) ∧ Kp [] w w') := by
  refine ⟨⟨_, Try.func69, rfl, by decide⟩, ?_⟩
  have hlen := hl.1
  refine calls_of (args := [_, _]) 26 [.tmp 4] τok Try.func69 rfl rfl rfl (Nat.le_of_ble_eq_true rfl) ?_
  refine br_dec (fun h1 => ?_) (fun h1 => ?_)
  · exact absurd rfl h1
  refine lp τok (σ := Nat) (fun k => [(0, .slice a l.length c), (1, .slice a' l.length c'), (5, .int .i64 k)]) (fun k w' => Kp [] w w') (fun k => l.length - k) 0 rfl ⟨rfl, rfl, rfl, trivial⟩ (Kp.refl _ _) ?_
  rintro k w1 hkp
  refine br_dec (fun h => ?_) (fun h => ?_)
  · have hlt : k < l.length := by omega
    obtain ⟨x, hx, hd⟩ := drop_get hlt
    obtain ⟨b, o, rfl, hcell⟩ := hl.bool hx
    obtain ⟨b', o', rfl, hcell'⟩ := hm.bool hx
    refine drawR τok (by kernel_rfl) ?_
    refine ix k rfl hlt ?_
    refine ldR ((hC.tr hkp) _ _ _ hcell) ?_
    refine ix k rfl hlt ?_
    refine ldR ((hD.tr hkp) _ _ _ hcell') ?_
    intro m'
    refine br (fun hc => ?_) (fun hc => ?_)
    · simp at hc
    · refine int64 (by omega) (by omega) ?_
      exact ⟨k + 1, by omega, rfl, ⟨rfl, rfl, rfl, trivial⟩, hkp.dr _⟩
  · exact ⟨rfl, hkp⟩

omit hC hD in
theorem sameNone_ct (a a' : Option Addr) (c c' : Nat) : CallOk Try.prog 68 ∧ Calls Try.prog 68 #[.slice a 0 c, .slice a' 0 c'] w (fun e w' => e = .returned (.bool true) ∧ Kp [] w w') := by
  refine ⟨⟨_, Try.func68, rfl, by decide⟩, ?_⟩
  refine calls_of (args := [_, _]) 26 [.tmp 4] τok Try.func68 rfl rfl rfl (Nat.le_of_ble_eq_true rfl) ?_
  refine lp τok (fun _ : Unit => [(0, .slice a 0 c), (5, .int .i64 0)]) (fun _ w' => Kp [] w w') (fun _ => 0) () rfl ⟨rfl, rfl, trivial⟩ (Kp.refl _ _) ?_
  rintro _ w1 hkp
  exact ⟨rfl, hkp⟩

theorem sameBlock_ct (l : List Ins) (a a' : Option Addr) (c c' : Nat) (hl : Sl rIns C a l) (hm : Sl rIns D a' l) :
    CallOk Try.prog 46 ∧ Calls Try.prog 46 #[.slice a l.length c, .slice a' l.length c'] w (fun e w' => e = .returned (.bool true) ∧ Kp [] w w') := by
  refine ⟨⟨_, Try.func46, rfl, by decide⟩, ?_⟩
  have hlen := hl.1
  refine calls_of (args := [_, _]) 97 [.tmp 4] τok Try.func46 rfl rfl rfl (Nat.le_of_ble_eq_true rfl) ?_
  refine br_dec (fun h1 => ?_) (fun h1 => ?_)
  · exact absurd rfl h1
  refine lp τok (σ := Nat) (fun k => [(0, .slice a l.length c), (1, .slice a' l.length c'), (5, .int .i64 k)]) (fun k w' => Kp [] w w') (fun k => l.length - k) 0 rfl ⟨rfl, rfl, rfl, trivial⟩ (Kp.refl _ _) ?_
  rintro k w1 hkp
  refine br_dec (fun h => ?_) (fun h => ?_)
  · have hlt : k < l.length := by omega
    obtain ⟨n, hn, hd⟩ := drop_get hlt
    obtain ⟨b, o, rfl, an, tc, hto, _, _, _, hcells⟩ := sl_ins hl hn
    obtain ⟨b', o', rfl, an', tc', hto', _, _, _, hcells'⟩ := sl_ins hm hn
    have htl := hto.1
    have q0 : ∀ {u}, Kp [] w u → Cl u.heap b (o + k * 4 + 0) (.int .i64 n.op) := fun k => (hC.tr k) _ _ _ (hcells 0 _ rfl)
    have q1 : ∀ {u}, Kp [] w u → Cl u.heap b (o + k * 4 + 1) (.int .i64 n.a) := fun k => (hC.tr k) _ _ _ (hcells 1 _ rfl)
    have q2 : ∀ {u}, Kp [] w u → Cl u.heap b (o + k * 4 + 2) (.int .i64 n.b) := fun k => (hC.tr k) _ _ _ (hcells 2 _ rfl)
    have q3 : ∀ {u}, Kp [] w u → Cl u.heap b (o + k * 4 + 3) (.slice an n.to.length tc) := fun k => (hC.tr k) _ _ _ (hcells 3 _ rfl)
    have r0 : ∀ {u}, Kp [] w u → Cl u.heap b' (o' + k * 4 + 0) (.int .i64 n.op) := fun k => (hD.tr k) _ _ _ (hcells' 0 _ rfl)
    have r1 : ∀ {u}, Kp [] w u → Cl u.heap b' (o' + k * 4 + 1) (.int .i64 n.a) := fun k => (hD.tr k) _ _ _ (hcells' 1 _ rfl)
    have r2 : ∀ {u}, Kp [] w u → Cl u.heap b' (o' + k * 4 + 2) (.int .i64 n.b) := fun k => (hD.tr k) _ _ _ (hcells' 2 _ rfl)
    have r3 : ∀ {u}, Kp [] w u → Cl u.heap b' (o' + k * 4 + 3) (.slice an' n.to.length tc') := fun k => (hD.tr k) _ _ _ (hcells' 3 _ rfl)
    refine drawR τok (by kernel_rfl) ?_
    refine ix k rfl hlt ?_
    refine ldR (q0 hkp) ?_
    refine ix k rfl hlt ?_
    refine ldR (r0 hkp) ?_
    refine br_dec (fun hc => ?_) (fun _ => ?_)
    · exact absurd rfl hc
    refine ix k rfl hlt ?_
    refine ldR (q1 hkp) ?_
    refine ix k rfl hlt ?_
    refine ldR (r1 hkp) ?_
    conv => whnf
    refine br_dec (fun hc => ?_) (fun _ => ?_)
    · exact absurd rfl hc
    refine ix k rfl hlt ?_
    refine ldR (q2 hkp) ?_
    refine ix k rfl hlt ?_
    refine ldR (r2 hkp) ?_
    conv => whnf
    refine br_dec (fun hc => ?_) (fun _ => ?_)
    · exact absurd rfl hc
    refine ix k rfl hlt ?_
    refine ldR (q3 hkp) ?_
    refine ix k rfl hlt ?_
    refine ldR (r3 hkp) ?_
    intro m'
    conv => whnf
    refine br_dec (fun hc => ?_) (fun _ => ?_)
    · exact absurd rfl hc
    refine lp τok (σ := Nat) (fun j => [(0, .slice (some ⟨b, o, none⟩) l.length c), (1, .slice (some ⟨b', o', none⟩) l.length c'), (5, .int .i64 k), (6, .int .i64 j)]) (fun j w' => Kp [] w w') (fun j => n.to.length - j) 0 rfl ⟨rfl, rfl, rfl, rfl, trivial⟩ (hkp.dr _) ?_
    rintro j w2 hkp2
    refine ix k rfl hlt ?_
    refine ld (q3 hkp2).cell ?_
    refine br_dec (fun h2 => ?_) (fun h2 => ?_)
    · have hltj : j < n.to.length := by omega
      obtain ⟨x, hx, _⟩ := drop_get hltj
      obtain ⟨bt, ot, rfl, hcell, _⟩ := hto.int hx
      obtain ⟨bt', ot', rfl, hcell', _⟩ := hto'.int hx
      refine drawR τok (by kernel_rfl) ?_
      refine ix k rfl hlt ?_
      refine ldR (q3 hkp2) ?_
      refine ix j rfl hltj ?_
      refine ldR ((hC.tr hkp2) _ _ _ hcell) ?_
      refine ix k rfl hlt ?_
      refine ldR (r3 hkp2) ?_
      refine ix j rfl hltj ?_
      refine ldR ((hD.tr hkp2) _ _ _ hcell') ?_
      intro m''
      refine br_dec (fun hc => ?_) (fun _ => ?_)
      · exact absurd rfl hc
      refine int64 (by omega) (by omega) ?_
      exact ⟨j + 1, by omega, rfl, ⟨rfl, rfl, rfl, rfl, trivial⟩, hkp2.dr _⟩
    · refine int64 (by omega) (by omega) ?_
      exact ⟨k + 1, by omega, rfl, ⟨rfl, rfl, rfl, trivial⟩, hkp2⟩
  · exact ⟨rfl, hkp⟩

theorem sameBared_ct (l : List Shp) (nat : Int) (a a' : Option Addr) (c c' : Nat) (hl : Sl rShp C a l) (hm : Sl rShp D a' l) :
    CallOk Try.prog 47 ∧ Calls Try.prog 47 #[.agg #[.slice none 0 0, .slice a l.length c, .slice none 0 0, .int .i64 nat, .slice none 0 0], .agg #[.slice none 0 0, .slice a' l.length c', .slice none 0 0, .int .i64 nat, .slice none 0 0]] w (fun e w' => e = .returned (.bool true) ∧ Kp [] w w') := by
  refine ⟨⟨_, Try.func47, rfl, by decide⟩, ?_⟩
  have hlen := hl.1
  refine calls_of (args := [_, _]) 154 [.tmp 4] τok Try.func47 rfl rfl rfl (Nat.le_of_ble_eq_true rfl) ?_
  refine new fun b2 w1 hb2 hB2 hs1 hk1 => ?_
  refine new fun b3 w2 hb3 hB3 hs2 hk2 => ?_
  have hB2 : Bk w2.heap b2 [.slice none 0 0, .slice a l.length c, .slice none 0 0, .int .i64 nat, .slice none 0 0] 71 := Bk.kp hB2 hk2 (by simp)
  have hB3 : Bk w2.heap b3 [.slice none 0 0, .slice a' l.length c', .slice none 0 0, .int .i64 nat, .slice none 0 0] 71 := hB3
  have hk02 := hk1.tr hk2
  (repeat first | refine ldC ‹Sub _ _› (by assumption) ?_ | refine ld (Cl.cell (by first | assumption | exact Bk.cl (by assumption) rfl)) ?_ | refine ldK (by first | assumption | exact Bk.cl (by assumption) rfl | exact ‹Sub _ _› _ _ _ (by assumption)) ?_)
  refine br_dec (fun h1 => ?_) (fun h1 => ?_)
  · exact absurd rfl h1
  (repeat first | refine ldC ‹Sub _ _› (by assumption) ?_ | refine ld (Cl.cell (by first | assumption | exact Bk.cl (by assumption) rfl)) ?_ | refine ldK (by first | assumption | exact Bk.cl (by assumption) rfl | exact ‹Sub _ _› _ _ _ (by assumption)) ?_)
  refine br_dec (fun h1 => ?_) (fun h1 => ?_)
  · exact absurd rfl h1
  (repeat first | refine ldC ‹Sub _ _› (by assumption) ?_ | refine ld (Cl.cell (by first | assumption | exact Bk.cl (by assumption) rfl)) ?_ | refine ldK (by first | assumption | exact Bk.cl (by assumption) rfl | exact ‹Sub _ _› _ _ _ (by assumption)) ?_)
  refine ev_call (sameNone_ct none none 0 0) ?_
  rintro e w3 ⟨rfl, hk3⟩
  refine lp τok (fun _ : Unit => [(2, .pointer (some ⟨b2, 0, none⟩)), (3, .pointer (some ⟨b3, 0, none⟩)), (5, .int .i64 0)]) (fun _ w' => Kp [] w2 w') (fun _ => 0) () rfl ⟨rfl, rfl, rfl, trivial⟩ hk3 ?_
  rintro _ w4 hk4
  refine ld ((hB2.kp hk4 (by simp)).cl rfl).cell ?_
  refine lp τok (σ := Nat) (fun k => [(2, .pointer (some ⟨b2, 0, none⟩)), (3, .pointer (some ⟨b3, 0, none⟩)), (6, .int .i64 k)]) (fun k w' => Kp [] w2 w') (fun k => l.length - k) 0 rfl ⟨rfl, rfl, rfl, trivial⟩ hk4 ?_
  rintro k w5 hk5
  have hB5 := hB2.kp hk5 (by simp)
  have hB5' := hB3.kp hk5 (by simp)
  refine ld (hB5.cl rfl).cell ?_
  refine br_dec (fun h => ?_) (fun h => ?_)
  · have hlt : k < l.length := by omega
    obtain ⟨s, hs, _⟩ := drop_get hlt
    obtain ⟨b, o, rfl, ak, ck, hkept, _, hcp, hck⟩ := sl_shp hl hs
    obtain ⟨b', o', rfl, ak', ck', hkept', _, hcp', hck'⟩ := sl_shp hm hs
    have hkl := hkept.1
    have q0 : ∀ {u}, Kp [] w2 u → Cl u.heap b (o + k * 2) (.int .i64 s.params) := fun k => (hC.tr (hk02.tr k)) _ _ _ hcp
    have q1 : ∀ {u}, Kp [] w2 u → Cl u.heap b (o + k * 2 + 1) (.slice ak s.kept.length ck) := fun k => (hC.tr (hk02.tr k)) _ _ _ hck
    have r0 : ∀ {u}, Kp [] w2 u → Cl u.heap b' (o' + k * 2) (.int .i64 s.params) := fun k => (hD.tr (hk02.tr k)) _ _ _ hcp'
    have r1 : ∀ {u}, Kp [] w2 u → Cl u.heap b' (o' + k * 2 + 1) (.slice ak' s.kept.length ck') := fun k => (hD.tr (hk02.tr k)) _ _ _ hck'
    refine drawR τok (by kernel_rfl) ?_
    refine ldR (hB5.cl rfl) ?_
    refine ix k rfl hlt ?_
    refine ldR (q0 hk5) ?_
    refine ldR (hB5'.cl rfl) ?_
    refine ix k rfl hlt ?_
    refine ldR (r0 hk5) ?_
    refine br_dec (fun hc => ?_) (fun _ => ?_)
    · exact absurd rfl hc
    refine ldR (hB5.cl rfl) ?_
    refine ix k rfl hlt ?_
    refine ldR (q1 hk5) ?_
    refine ldR (hB5'.cl rfl) ?_
    refine ix k rfl hlt ?_
    refine ldR (r1 hk5) ?_
    intro m'
    conv => whnf
    refine br_dec (fun hc => ?_) (fun _ => ?_)
    · exact absurd rfl hc
    refine lp τok (σ := Nat) (fun j => [(2, .pointer (some ⟨b2, 0, none⟩)), (3, .pointer (some ⟨b3, 0, none⟩)), (6, .int .i64 k), (7, .int .i64 j)]) (fun j w' => Kp [] w2 w') (fun j => s.kept.length - j) 0 rfl ⟨rfl, rfl, rfl, rfl, trivial⟩ (hk5.dr _) ?_
    rintro j w6 hk6
    have hB6 := hB2.kp hk6 (by simp)
    have hB6' := hB3.kp hk6 (by simp)
    refine ld (hB6.cl rfl).cell ?_
    refine ix k rfl hlt ?_
    refine ld (q1 hk6).cell ?_
    refine br_dec (fun h2 => ?_) (fun h2 => ?_)
    · have hltj : j < s.kept.length := by omega
      obtain ⟨x, hx, _⟩ := drop_get hltj
      obtain ⟨bt, ot, rfl, ax, cx, hcell, hsx⟩ := hkept.sl hx
      obtain ⟨bt', ot', rfl, ax', cx', hcell', hsx'⟩ := hkept'.sl hx
      refine drawQ τok (fun w' => Kp [] w6 w') (by kernel_rfl) ((Kp.refl [] w6).dr _) ?_
      refine ldK (hB6.cl rfl) ?_
      refine ix k rfl hlt ?_
      refine ldK (q1 hk6) ?_
      refine ix j rfl hltj ?_
      refine ldK ((hC.tr (hk02.tr hk6)) _ _ _ hcell) ?_
      refine ldK (hB6'.cl rfl) ?_
      refine ix k rfl hlt ?_
      refine ldK (r1 hk6) ?_
      refine ix j rfl hltj ?_
      refine ldK ((hD.tr (hk02.tr hk6)) _ _ _ hcell') ?_
      refine callK (v := .bool true) (fun w' hk' => sameBools_ct (hC.tr ((hk02.tr hk6).tr hk')) (hD.tr ((hk02.tr hk6).tr hk')) x ax ax' cx cx' hsx hsx') ?_
      intro w7 hk7
      refine int64 (by omega) (by omega) ?_
      exact ⟨j + 1, by omega, rfl, ⟨rfl, rfl, rfl, rfl, trivial⟩, hk6.tr hk7⟩
    · refine int64 (by omega) (by omega) ?_
      exact ⟨k + 1, by omega, rfl, ⟨rfl, rfl, rfl, trivial⟩, hk6⟩
  · refine lp τok (fun _ : Unit => [(2, .pointer (some ⟨b2, 0, none⟩)), (8, .int .i64 0)]) (fun _ w' => Kp [] w2 w') (fun _ => 0) () rfl ⟨rfl, rfl, trivial⟩ hk5 ?_
    rintro _ w6 hk6
    refine ld ((hB2.kp hk6 (by simp)).cl rfl).cell ?_
    exact ⟨rfl, hk02.tr hk6⟩

theorem same20_ct {cs cs' : List Value} (c : Cod) (h : rCod.den C cs c) (h' : rCod.den D cs' c) :
    CallOk Try.prog 18 ∧ Calls Try.prog 18 #[.agg cs.toArray, .agg cs'.toArray] w (fun e w' => e = .returned (.bool true) ∧ Kp [] w w') := by
  refine ⟨⟨_, Try.func18, rfl, by decide⟩, ?_⟩
  obtain ⟨a1, c1, a2, c2, a3, c3, a4, c4, rfl, h1, h2, h3, h4, _⟩ := h
  obtain ⟨a1', c1', a2', c2', a3', c3', a4', c4', rfl, h1', h2', h3', h4', _⟩ := h'
  have hfl := h2.1
  have hbl := h3.1
  refine calls_of (args := [_, _]) 100 [.tmp 4] τok Try.func18 rfl rfl rfl (Nat.le_of_ble_eq_true rfl) ?_
  refine new fun b2 w1 hb2 hB2 hs1 hk1 => ?_
  refine new fun b3 w2 hb3 hB3 hs2 hk2 => ?_
  have hB2 : Bk w2.heap b2 [.int .i64 c.nat, .slice a1 c.shapes.length c1, .slice a2 c.funs.length c2, .slice a3 c.bodies.length c3, .slice a4 c.main.length c4] 28 := Bk.kp hB2 hk2 (by simp)
  have hB3 : Bk w2.heap b3 [.int .i64 c.nat, .slice a1' c.shapes.length c1', .slice a2' c.funs.length c2', .slice a3' c.bodies.length c3', .slice a4' c.main.length c4'] 28 := hB3
  have hk02 := hk1.tr hk2
  (repeat first | refine ldC ‹Sub _ _› (by assumption) ?_ | refine ld (Cl.cell (by first | assumption | exact Bk.cl (by assumption) rfl)) ?_ | refine ldK (by first | assumption | exact Bk.cl (by assumption) rfl | exact ‹Sub _ _› _ _ _ (by assumption)) ?_)
  refine br_dec (fun g1 => ?_) (fun _ => ?_)
  · exact absurd rfl g1
  (repeat first | refine ldC ‹Sub _ _› (by assumption) ?_ | refine ld (Cl.cell (by first | assumption | exact Bk.cl (by assumption) rfl)) ?_ | refine ldK (by first | assumption | exact Bk.cl (by assumption) rfl | exact ‹Sub _ _› _ _ _ (by assumption)) ?_)
  conv => whnf
  refine br_dec (fun g1 => ?_) (fun _ => ?_)
  · exact absurd rfl g1
  (repeat first | refine ldC ‹Sub _ _› (by assumption) ?_ | refine ld (Cl.cell (by first | assumption | exact Bk.cl (by assumption) rfl)) ?_ | refine ldK (by first | assumption | exact Bk.cl (by assumption) rfl | exact ‹Sub _ _› _ _ _ (by assumption)) ?_)
  refine ev_call (sameBlock_ct (hC.tr hk02) (hD.tr hk02) c.main a4 a4' c4 c4' h4 h4') ?_
  rintro e w3 ⟨rfl, hk3⟩
  have hB3a := hB2.kp hk3 (by simp)
  have hB3b := hB3.kp hk3 (by simp)
  refine ld (hB3a.cl rfl).cell ?_
  refine ld (hB3a.cl rfl).cell ?_
  refine ld (hB3b.cl rfl).cell ?_
  refine ld (hB3b.cl rfl).cell ?_
  refine ev_call (sameBared_ct (hC.tr (hk02.tr hk3)) (hD.tr (hk02.tr hk3)) c.shapes c.nat a1 a1' c1 c1' h1 h1') ?_
  rintro e w4 ⟨rfl, hk4⟩
  refine lp τok (σ := Nat) (fun k => [(2, .pointer (some ⟨b2, 0, none⟩)), (3, .pointer (some ⟨b3, 0, none⟩)), (5, .int .i64 k)]) (fun k w' => Kp [] w2 w') (fun k => c.funs.length - k) 0 rfl ⟨rfl, rfl, rfl, trivial⟩ (hk3.tr hk4) ?_
  rintro k w5 hk5
  have hB5 := hB2.kp hk5 (by simp)
  have hB5' := hB3.kp hk5 (by simp)
  refine ld (hB5.cl rfl).cell ?_
  refine br_dec (fun h => ?_) (fun h => ?_)
  · have hlt : k < c.funs.length := by omega
    obtain ⟨f, hf, _⟩ := drop_get hlt
    obtain ⟨b, o, rfl, af, cf, hcode, _, hcp, hcc⟩ := sl_fn h2 hf
    obtain ⟨b', o', rfl, af', cf', hcode', _, hcp', hcc'⟩ := sl_fn h2' hf
    refine drawQ τok (fun w' => Kp [] w5 w') (by kernel_rfl) ((Kp.refl [] w5).dr _) ?_
    refine ldK (hB5.cl rfl) ?_
    refine ix k rfl hlt ?_
    refine ldK ((hC.tr (hk02.tr hk5)) _ _ _ hcp) ?_
    refine ldK (hB5'.cl rfl) ?_
    refine ix k rfl hlt ?_
    refine ldK ((hD.tr (hk02.tr hk5)) _ _ _ hcp') ?_
    refine br_dec (fun hc => ?_) (fun _ => ?_)
    · exact absurd rfl hc
    refine ldK (hB5.cl rfl) ?_
    refine ix k rfl hlt ?_
    refine ldK ((hC.tr (hk02.tr hk5)) _ _ _ hcc) ?_
    refine ldK (hB5'.cl rfl) ?_
    refine ix k rfl hlt ?_
    refine ldK ((hD.tr (hk02.tr hk5)) _ _ _ hcc') ?_
    refine callK (v := .bool true) (fun w' hk' => sameBlock_ct (hC.tr ((hk02.tr hk5).tr hk')) (hD.tr ((hk02.tr hk5).tr hk')) f.code af af' cf cf' hcode hcode') ?_
    intro w7 hk7
    refine int64 (by omega) (by omega) ?_
    exact ⟨k + 1, by omega, rfl, ⟨rfl, rfl, rfl, trivial⟩, hk5.tr hk7⟩
  · refine lp τok (σ := Nat) (fun k => [(2, .pointer (some ⟨b2, 0, none⟩)), (3, .pointer (some ⟨b3, 0, none⟩)), (6, .int .i64 k)]) (fun k w' => Kp [] w2 w') (fun k => c.bodies.length - k) 0 rfl ⟨rfl, rfl, rfl, trivial⟩ hk5 ?_
    rintro k w6 hk6
    have hB6 := hB2.kp hk6 (by simp)
    have hB6' := hB3.kp hk6 (by simp)
    refine ld (hB6.cl rfl).cell ?_
    refine br_dec (fun h => ?_) (fun h => ?_)
    · have hlt : k < c.bodies.length := by omega
      obtain ⟨x, hx, _⟩ := drop_get hlt
      obtain ⟨b, o, rfl, ax, cx, hcell, hcode⟩ := h3.sl hx
      obtain ⟨b', o', rfl, ax', cx', hcell', hcode'⟩ := h3'.sl hx
      refine drawQ τok (fun w' => Kp [] w6 w') (by kernel_rfl) ((Kp.refl [] w6).dr _) ?_
      refine ldK (hB6.cl rfl) ?_
      refine ix k rfl hlt ?_
      refine ldK ((hC.tr (hk02.tr hk6)) _ _ _ hcell) ?_
      refine ldK (hB6'.cl rfl) ?_
      refine ix k rfl hlt ?_
      refine ldK ((hD.tr (hk02.tr hk6)) _ _ _ hcell') ?_
      refine callK (v := .bool true) (fun w' hk' => sameBlock_ct (hC.tr ((hk02.tr hk6).tr hk')) (hD.tr ((hk02.tr hk6).tr hk')) x ax ax' cx cx' hcode hcode') ?_
      intro w7 hk7
      refine int64 (by omega) (by omega) ?_
      exact ⟨k + 1, by omega, rfl, ⟨rfl, rfl, rfl, trivial⟩, hk6.tr hk7⟩
    · exact ⟨rfl, hk02.tr hk6⟩
end
end Go.Proofs.Ytjogpbiilokldaa
