/-
  Own texts put together: EmZ, RcX, EmAa, EmAb, WxE, WxO, EmAc.
-/
import Derived.Test.YtjpdkcejkogciaaDoorMg20
import Derived.Test.YtjpdkcejkogciaaDoorRows
import Derived.ProofKit
import Derived.OpenShut
import Derived.Deep.Slices
import Derived.JoinedCond
/-
  Package emit: the weight of a program without types; heavy.
-/
set_option linter.unusedSimpArgs false
set_option linter.unusedVariables false
namespace Go.Proofs.YtjpdkcejkogciaaDoor
open Go.Wx Cd

section
variable {p : Flt} {q : Brd} {C : Mem} {w : World}
theorem weight15_ct (hS : Sub C w) {cg : List Value} (hq : rBrd.den C cg q) :
    CallOk Tryd.prog 19 ∧ Calls Tryd.prog 19 #[.agg cg.toArray, .int .i64 5000] w (fun e w' => ∃ n : Int, e = .returned (.int .i64 n) ∧ Kp [] w w') := by
  refine ⟨⟨_, Tryd.func19, rfl, by decide⟩, ?_⟩
  obtain ⟨d1, e1, d2, e2, d3, e3, d4, e4, rfl, g1, g2, g3, g4, g5, g6, g7⟩ := hq
  have hl1 := g1.1
  have hl2 := g2.1
  have hl3 := g3.1
  have hl4 := g4.1
  obtain ⟨lim, hlim⟩ : ∃ x : Int, 5000 = x := ⟨_, rfl⟩
  rw [hlim]
  refine calls_of (args := [_, _]) 81 [.tmp 4] τok Tryd.func19 rfl rfl rfl (Nat.le_of_ble_eq_true rfl) ?_
  refine new fun b2 w1 hb2 hB2 hs1 hk1 => ?_
  have hB2 : Bk w1.heap b2 [.slice d1 q.bodies.length e1, .slice d2 q.shapes.length e2, .slice d3 q.main.length e3, .int .i64 q.nat, .slice d4 q.prims.length e4] 33 := hB2
  have hS1 := hS.tr hk1
  refine ld (hB2.cl rfl).cell ?_
  refine ld (hB2.cl rfl).cell ?_
  refine int64 (by omega) (by omega) ?_
  refine lp τok (σ := Nat × Int) (fun x => [(1, .int .i64 lim), (2, .pointer (some ⟨b2, 0, none⟩)), (5, .int .i64 x.2), (6, .int .i64 x.1)])
    (fun x u => u = w1 ∧ x.1 ≤ q.bodies.length ∧ 0 ≤ x.2 ∧ x.2 ≤ 10000 + 3 * 1099511627776) (fun x => q.bodies.length - x.1) (0, (q.main.length : Int) + q.prims.length) rfl
    ⟨rfl, rfl, rfl, rfl, trivial⟩ ⟨rfl, Nat.zero_le _, by simp only; omega, by simp only; omega⟩ ?_
  rintro ⟨i, n⟩ u ⟨rfl, hi, hn0, hnb⟩
  simp only at hi hn0 hnb
  refine ld (hB2.cl rfl).cell ?_
  refine br_dec (fun g1' => ?_) (fun g1' => ?_)
  · have hil : i < q.bodies.length := by omega
    refine br_dec (fun g2' => ?_) (fun g2' => ?_)
    · obtain ⟨x, hx, _⟩ := drop_get hil
      obtain ⟨bx, ox, hax, ax, cx, hcx, hcap, hsx⟩ := g1.sk hx
      have hxl := hsx.1
      refine int64 (by omega) (by omega) ?_
      refine ld (hB2.cl rfl).cell ?_
      refine ixE hax i rfl hil ?_
      refine ld (hS1 _ _ _ hcx).cell ?_
      refine int64 (by omega) (by omega) ?_
      refine int64 (by omega) (by omega) ?_
      exact ⟨(i + 1, n + 1 + x.length), by simp only; omega, rfl, ⟨rfl, rfl, rfl, rfl, trivial⟩, rfl, hil, by simp only; omega, by simp only; omega⟩
    · skip
      refine lp τok (σ := Nat × Int) (fun x => [(1, .int .i64 lim), (2, .pointer (some ⟨b2, 0, none⟩)), (5, .int .i64 x.2), (7, .int .i64 x.1)])
        (fun x z => z = u ∧ x.1 ≤ q.shapes.length ∧ 0 ≤ x.2 ∧ x.2 ≤ 10000 + 3 * 1099511627776) (fun x => q.shapes.length - x.1) (0, n) rfl
        ⟨rfl, rfl, rfl, rfl, trivial⟩ ⟨rfl, Nat.zero_le _, hn0, hnb⟩ ?_
      rintro ⟨j, m⟩ z ⟨rfl, hj, hm0, hmb⟩
      simp only at hj hm0 hmb
      refine ld (hB2.cl rfl).cell ?_
      refine br_dec (fun g3 => ?_) (fun g3 => ?_)
      · have hjl : j < q.shapes.length := by omega
        refine br_dec (fun g4 => ?_) (fun g4 => ?_)
        · obtain ⟨x, hx, _⟩ := drop_get hjl
          obtain ⟨bx, ox, hax, ak, ck, hsk, hpi, hc0, hc1⟩ := sl_shp g2 hx
          have hkl := hsk.1
          refine int64 (by omega) (by omega) ?_
          refine lp τok (σ := Nat × Int) (fun x => [(1, .int .i64 lim), (2, .pointer (some ⟨b2, 0, none⟩)), (5, .int .i64 x.2), (7, .int .i64 j), (8, .int .i64 x.1)])
            (fun y t => t = z ∧ y.1 ≤ x.kept.length ∧ 0 ≤ y.2 ∧ y.2 ≤ 10000 + 3 * 1099511627776) (fun y => x.kept.length - y.1) (0, m + 1) rfl
            ⟨rfl, rfl, rfl, rfl, rfl, trivial⟩ ⟨rfl, Nat.zero_le _, by simp only; omega, by simp only; omega⟩ ?_
          rintro ⟨k, m2⟩ t ⟨rfl, hk, hm20, hm2b⟩
          simp only at hk hm20 hm2b
          refine ld (hB2.cl rfl).cell ?_
          refine ixE hax j rfl hjl ?_
          refine ld (hS1 _ _ _ hc1).cell ?_
          refine br_dec (fun g5 => ?_) (fun g5 => ?_)
          · have hkl' : k < x.kept.length := by omega
            refine br_dec (fun g6 => ?_) (fun g6 => ?_)
            · obtain ⟨y, hy, _⟩ := drop_get hkl'
              obtain ⟨by', oy, hay, ay, cy, hcy, hsy⟩ := hsk.sl hy
              have hyl := hsy.1
              refine int64 (by omega) (by omega) ?_
              refine ld (hB2.cl rfl).cell ?_
              refine ixE hax j rfl hjl ?_
              refine ld (hS1 _ _ _ hc1).cell ?_
              refine ixE hay k rfl hkl' ?_
              refine ld (hS1 _ _ _ hcy).cell ?_
              refine int64 (by omega) (by omega) ?_
              refine int64 (by omega) (by omega) ?_
              exact ⟨(k + 1, m2 + 1 + y.length), by simp only; omega, rfl, ⟨rfl, rfl, rfl, rfl, rfl, trivial⟩, rfl, hkl', by simp only; omega, by simp only; omega⟩
            · skip
              refine int64 (by omega) (by omega) ?_
              exact ⟨(j + 1, m2), by simp only; omega, rfl, ⟨rfl, rfl, rfl, rfl, trivial⟩, rfl, hjl, by simp only; omega⟩
          · skip
            refine int64 (by omega) (by omega) ?_
            exact ⟨(j + 1, m2), by simp only; omega, rfl, ⟨rfl, rfl, rfl, rfl, trivial⟩, rfl, hjl, by simp only; omega⟩
        · exact ⟨m, rfl, hk1⟩
      · exact ⟨m, rfl, hk1⟩
  · skip
    refine lp τok (σ := Nat × Int) (fun x => [(1, .int .i64 lim), (2, .pointer (some ⟨b2, 0, none⟩)), (5, .int .i64 x.2), (7, .int .i64 x.1)])
      (fun x z => z = u ∧ x.1 ≤ q.shapes.length ∧ 0 ≤ x.2 ∧ x.2 ≤ 10000 + 3 * 1099511627776) (fun x => q.shapes.length - x.1) (0, n) rfl
      ⟨rfl, rfl, rfl, rfl, trivial⟩ ⟨rfl, Nat.zero_le _, hn0, hnb⟩ ?_
    rintro ⟨j, m⟩ z ⟨rfl, hj, hm0, hmb⟩
    simp only at hj hm0 hmb
    refine ld (hB2.cl rfl).cell ?_
    refine br_dec (fun g3 => ?_) (fun g3 => ?_)
    · have hjl : j < q.shapes.length := by omega
      refine br_dec (fun g4 => ?_) (fun g4 => ?_)
      · obtain ⟨x, hx, _⟩ := drop_get hjl
        obtain ⟨bx, ox, hax, ak, ck, hsk, hpi, hc0, hc1⟩ := sl_shp g2 hx
        have hkl := hsk.1
        refine int64 (by omega) (by omega) ?_
        refine lp τok (σ := Nat × Int) (fun x => [(1, .int .i64 lim), (2, .pointer (some ⟨b2, 0, none⟩)), (5, .int .i64 x.2), (7, .int .i64 j), (8, .int .i64 x.1)])
          (fun y t => t = z ∧ y.1 ≤ x.kept.length ∧ 0 ≤ y.2 ∧ y.2 ≤ 10000 + 3 * 1099511627776) (fun y => x.kept.length - y.1) (0, m + 1) rfl
          ⟨rfl, rfl, rfl, rfl, rfl, trivial⟩ ⟨rfl, Nat.zero_le _, by simp only; omega, by simp only; omega⟩ ?_
        rintro ⟨k, m2⟩ t ⟨rfl, hk, hm20, hm2b⟩
        simp only at hk hm20 hm2b
        refine ld (hB2.cl rfl).cell ?_
        refine ixE hax j rfl hjl ?_
        refine ld (hS1 _ _ _ hc1).cell ?_
        refine br_dec (fun g5 => ?_) (fun g5 => ?_)
        · have hkl' : k < x.kept.length := by omega
          refine br_dec (fun g6 => ?_) (fun g6 => ?_)
          · obtain ⟨y, hy, _⟩ := drop_get hkl'
            obtain ⟨by', oy, hay, ay, cy, hcy, hsy⟩ := hsk.sl hy
            have hyl := hsy.1
            refine int64 (by omega) (by omega) ?_
            refine ld (hB2.cl rfl).cell ?_
            refine ixE hax j rfl hjl ?_
            refine ld (hS1 _ _ _ hc1).cell ?_
            refine ixE hay k rfl hkl' ?_
            refine ld (hS1 _ _ _ hcy).cell ?_
            refine int64 (by omega) (by omega) ?_
            refine int64 (by omega) (by omega) ?_
            exact ⟨(k + 1, m2 + 1 + y.length), by simp only; omega, rfl, ⟨rfl, rfl, rfl, rfl, rfl, trivial⟩, rfl, hkl', by simp only; omega, by simp only; omega⟩
          · skip
            refine int64 (by omega) (by omega) ?_
            exact ⟨(j + 1, m2), by simp only; omega, rfl, ⟨rfl, rfl, rfl, rfl, trivial⟩, rfl, hjl, by simp only; omega⟩
        · skip
          refine int64 (by omega) (by omega) ?_
          exact ⟨(j + 1, m2), by simp only; omega, rfl, ⟨rfl, rfl, rfl, rfl, trivial⟩, rfl, hjl, by simp only; omega⟩
      · exact ⟨m, rfl, hk1⟩
    · exact ⟨m, rfl, hk1⟩

theorem heavy_ct (hS : Sub C w) {cf cg : List Value} (hp : rFlt.den C cf p) (hq : rBrd.den C cg q) :
    CallOk Tryd.prog 8 ∧ Calls Tryd.prog 8 #[.agg cf.toArray, .agg cg.toArray] w (fun e w' => ∃ b : Bool, e = .returned (.bool b) ∧ (b = false → weightF p < 5000) ∧ Kp [] w w') := by
  refine ⟨⟨_, Tryd.func8, rfl, by decide⟩, ?_⟩
  have hp0 := hp
  have hq0 := hq
  obtain ⟨a1, c1, a2, c2, a3, c3, rfl, _⟩ := hp
  obtain ⟨d1, e1, d2, e2, d3, e3, d4, e4, rfl, _⟩ := hq
  refine calls_of (args := [_, _]) 13 [.tmp 4] τok Tryd.func8 rfl rfl rfl (Nat.le_of_ble_eq_true rfl) ?_
  refine new fun b2 w1 hb2 hB2 hs1 hk1 => ?_
  refine new fun b3 w2 hb3 hB3 hs2 hk2 => ?_
  have hk02 := hk1.tr hk2
  have hB2 := hB2.kp hk2 (by simp)
  refine ldN _ rfl (fun j v hj => by rw [Nat.zero_add]; exact hB2.cl hj) ?_
  refine ev_call (weight18_ct (hS.tr hk02) hp0) ?_
  rintro e w3 ⟨n, rfl, hn, hk3⟩
  have hB3 := hB3.kp hk3 (by simp)
  refine br_dec (fun g1 => ?_) (fun g1 => ?_)
  · exact ⟨_, rfl, fun h => by simp at h, hk02.tr hk3⟩
  refine ldN _ rfl (fun j v hj => by rw [Nat.zero_add]; exact hB3.cl hj) ?_
  refine ev_call (weight15_ct (hS.tr (hk02.tr hk3)) hq0) ?_
  rintro e w4 ⟨m, rfl, hk4⟩
  exact ⟨_, rfl, fun _ => hn (by omega), (hk02.tr hk3).tr hk4⟩
end
end Go.Proofs.YtjpdkcejkogciaaDoor

/-
  Code: what is the same is told the same: SameBools, SameBared, SameBlock, Same.
-/
set_option linter.unusedSimpArgs false
set_option linter.unusedVariables false
namespace Go.Proofs.YtjpdkcejkogciaaDoor
open Go.Wx Cd

section
variable {C D : Mem} {w : World} (hC : Sub C w) (hD : Sub D w)
include hC hD

theorem sameBools_ct (l : List Bool) (a a' : Option Addr) (c c' : Nat) (hl : Sl rBool C a l) (hm : Sl rBool D a' l) :
    CallOk Tryd.prog 31 ∧ Calls Tryd.prog 31 #[.slice a l.length c, .slice a' l.length c'] w (fun e w' => e = .returned (.bool true) ∧ Kp [] w w') := by
  refine ⟨⟨_, Tryd.func31, rfl, by decide⟩, ?_⟩
  have hlen := hl.1
  refine calls_of (args := [_, _]) 26 [.tmp 4] τok Tryd.func31 rfl rfl rfl (Nat.le_of_ble_eq_true rfl) ?_
  refine br_dec (fun h1 => ?_) (fun h1 => ?_)
  · exact absurd rfl h1
  refine lp τok (σ := Nat) (fun k => [(0, .slice a l.length c), (1, .slice a' l.length c'), (5, .int .i64 k)]) (fun k w' => Kp [] w w') (fun k => l.length - k) 0 rfl ⟨rfl, rfl, rfl, trivial⟩ (Kp.refl _ _) ?_
  rintro k w1 hkp
  refine br_dec (fun h => ?_) (fun h => ?_)
  · have hlt : k < l.length := by omega
    obtain ⟨x, hx, hd⟩ := drop_get hlt
    obtain ⟨b, o, rfl, hcell⟩ := hl.bool hx
    obtain ⟨b', o', rfl, hcell'⟩ := hm.bool hx
    refine drawR τok (by kernel_rfl) ?_
    refine ix k rfl hlt ?_
    refine ldR ((hC.tr hkp) _ _ _ hcell) ?_
    refine ix k rfl hlt ?_
    refine ldR ((hD.tr hkp) _ _ _ hcell') ?_
    intro m'
    refine br (fun hc => ?_) (fun hc => ?_)
    · simp at hc
    · refine int64 (by omega) (by omega) ?_
      exact ⟨k + 1, by omega, rfl, ⟨rfl, rfl, rfl, trivial⟩, hkp.dr _⟩
  · exact ⟨rfl, hkp⟩

omit hC hD in
theorem sameNone_ct (a a' : Option Addr) (c c' : Nat) : CallOk Tryd.prog 30 ∧ Calls Tryd.prog 30 #[.slice a 0 c, .slice a' 0 c'] w (fun e w' => e = .returned (.bool true) ∧ Kp [] w w') := by
  refine ⟨⟨_, Tryd.func30, rfl, by decide⟩, ?_⟩
  refine calls_of (args := [_, _]) 26 [.tmp 4] τok Tryd.func30 rfl rfl rfl (Nat.le_of_ble_eq_true rfl) ?_
  refine lp τok (fun _ : Unit => [(0, .slice a 0 c), (5, .int .i64 0)]) (fun _ w' => Kp [] w w') (fun _ => 0) () rfl ⟨rfl, rfl, trivial⟩ (Kp.refl _ _) ?_
  rintro _ w1 hkp
  exact ⟨rfl, hkp⟩

theorem sameBlock_ct (l : List Ins) (a a' : Option Addr) (c c' : Nat) (hl : Sl rIns C a l) (hm : Sl rIns D a' l) :
    CallOk Tryd.prog 13 ∧ Calls Tryd.prog 13 #[.slice a l.length c, .slice a' l.length c'] w (fun e w' => e = .returned (.bool true) ∧ Kp [] w w') := by
  refine ⟨⟨_, Tryd.func13, rfl, by decide⟩, ?_⟩
  have hlen := hl.1
  refine calls_of (args := [_, _]) 97 [.tmp 4] τok Tryd.func13 rfl rfl rfl (Nat.le_of_ble_eq_true rfl) ?_
  refine br_dec (fun h1 => ?_) (fun h1 => ?_)
  · exact absurd rfl h1
  refine lp τok (σ := Nat) (fun k => [(0, .slice a l.length c), (1, .slice a' l.length c'), (5, .int .i64 k)]) (fun k w' => Kp [] w w') (fun k => l.length - k) 0 rfl ⟨rfl, rfl, rfl, trivial⟩ (Kp.refl _ _) ?_
  rintro k w1 hkp
  refine br_dec (fun h => ?_) (fun h => ?_)
  · have hlt : k < l.length := by omega
    obtain ⟨n, hn, hd⟩ := drop_get hlt
    obtain ⟨b, o, rfl, an, tc, hto, _, _, _, hcells⟩ := sl_ins hl hn
    obtain ⟨b', o', rfl, an', tc', hto', _, _, _, hcells'⟩ := sl_ins hm hn
    have htl := hto.1
    have q0 : ∀ {u}, Kp [] w u → Cl u.heap b (o + k * 4 + 0) (.int .i64 n.op) := fun k => (hC.tr k) _ _ _ (hcells 0 _ rfl)
    have q1 : ∀ {u}, Kp [] w u → Cl u.heap b (o + k * 4 + 1) (.int .i64 n.a) := fun k => (hC.tr k) _ _ _ (hcells 1 _ rfl)
    have q2 : ∀ {u}, Kp [] w u → Cl u.heap b (o + k * 4 + 2) (.int .i64 n.b) := fun k => (hC.tr k) _ _ _ (hcells 2 _ rfl)
    have q3 : ∀ {u}, Kp [] w u → Cl u.heap b (o + k * 4 + 3) (.slice an n.to.length tc) := fun k => (hC.tr k) _ _ _ (hcells 3 _ rfl)
    have r0 : ∀ {u}, Kp [] w u → Cl u.heap b' (o' + k * 4 + 0) (.int .i64 n.op) := fun k => (hD.tr k) _ _ _ (hcells' 0 _ rfl)
    have r1 : ∀ {u}, Kp [] w u → Cl u.heap b' (o' + k * 4 + 1) (.int .i64 n.a) := fun k => (hD.tr k) _ _ _ (hcells' 1 _ rfl)
    have r2 : ∀ {u}, Kp [] w u → Cl u.heap b' (o' + k * 4 + 2) (.int .i64 n.b) := fun k => (hD.tr k) _ _ _ (hcells' 2 _ rfl)
    have r3 : ∀ {u}, Kp [] w u → Cl u.heap b' (o' + k * 4 + 3) (.slice an' n.to.length tc') := fun k => (hD.tr k) _ _ _ (hcells' 3 _ rfl)
    refine drawR τok (by kernel_rfl) ?_
    refine ix k rfl hlt ?_
    refine ldR (q0 hkp) ?_
    refine ix k rfl hlt ?_
    refine ldR (r0 hkp) ?_
    refine br_dec (fun hc => ?_) (fun _ => ?_)
    · exact absurd rfl hc
    refine ix k rfl hlt ?_
    refine ldR (q1 hkp) ?_
    refine ix k rfl hlt ?_
    refine ldR (r1 hkp) ?_
    conv => whnf
    refine br_dec (fun hc => ?_) (fun _ => ?_)
    · exact absurd rfl hc
    refine ix k rfl hlt ?_
    refine ldR (q2 hkp) ?_
    refine ix k rfl hlt ?_
    refine ldR (r2 hkp) ?_
    conv => whnf
    refine br_dec (fun hc => ?_) (fun _ => ?_)
    · exact absurd rfl hc
    refine ix k rfl hlt ?_
    refine ldR (q3 hkp) ?_
    refine ix k rfl hlt ?_
    refine ldR (r3 hkp) ?_
    intro m'
    conv => whnf
    refine br_dec (fun hc => ?_) (fun _ => ?_)
    · exact absurd rfl hc
    refine lp τok (σ := Nat) (fun j => [(0, .slice (some ⟨b, o, none⟩) l.length c), (1, .slice (some ⟨b', o', none⟩) l.length c'), (5, .int .i64 k), (6, .int .i64 j)]) (fun j w' => Kp [] w w') (fun j => n.to.length - j) 0 rfl ⟨rfl, rfl, rfl, rfl, trivial⟩ (hkp.dr _) ?_
    rintro j w2 hkp2
    refine ix k rfl hlt ?_
    refine ld (q3 hkp2).cell ?_
    refine br_dec (fun h2 => ?_) (fun h2 => ?_)
    · have hltj : j < n.to.length := by omega
      obtain ⟨x, hx, _⟩ := drop_get hltj
      obtain ⟨bt, ot, rfl, hcell, _⟩ := hto.int hx
      obtain ⟨bt', ot', rfl, hcell', _⟩ := hto'.int hx
      refine drawR τok (by kernel_rfl) ?_
      refine ix k rfl hlt ?_
      refine ldR (q3 hkp2) ?_
      refine ix j rfl hltj ?_
      refine ldR ((hC.tr hkp2) _ _ _ hcell) ?_
      refine ix k rfl hlt ?_
      refine ldR (r3 hkp2) ?_
      refine ix j rfl hltj ?_
      refine ldR ((hD.tr hkp2) _ _ _ hcell') ?_
      intro m''
      refine br_dec (fun hc => ?_) (fun _ => ?_)
      · exact absurd rfl hc
      refine int64 (by omega) (by omega) ?_
      exact ⟨j + 1, by omega, rfl, ⟨rfl, rfl, rfl, rfl, trivial⟩, hkp2.dr _⟩
    · refine int64 (by omega) (by omega) ?_
      exact ⟨k + 1, by omega, rfl, ⟨rfl, rfl, rfl, trivial⟩, hkp2⟩
  · exact ⟨rfl, hkp⟩

theorem sameBared_ct (l : List Shp) (nat : Int) (a a' : Option Addr) (c c' : Nat) (hl : Sl rShp C a l) (hm : Sl rShp D a' l) :
    CallOk Tryd.prog 16 ∧ Calls Tryd.prog 16 #[.agg #[.slice none 0 0, .slice a l.length c, .slice none 0 0, .int .i64 nat, .slice none 0 0], .agg #[.slice none 0 0, .slice a' l.length c', .slice none 0 0, .int .i64 nat, .slice none 0 0]] w (fun e w' => e = .returned (.bool true) ∧ Kp [] w w') := by
  refine ⟨⟨_, Tryd.func16, rfl, by decide⟩, ?_⟩
  have hlen := hl.1
  refine calls_of (args := [_, _]) 154 [.tmp 4] τok Tryd.func16 rfl rfl rfl (Nat.le_of_ble_eq_true rfl) ?_
  refine new fun b2 w1 hb2 hB2 hs1 hk1 => ?_
  refine new fun b3 w2 hb3 hB3 hs2 hk2 => ?_
  have hB2 : Bk w2.heap b2 [.slice none 0 0, .slice a l.length c, .slice none 0 0, .int .i64 nat, .slice none 0 0] 33 := Bk.kp hB2 hk2 (by simp)
  have hB3 : Bk w2.heap b3 [.slice none 0 0, .slice a' l.length c', .slice none 0 0, .int .i64 nat, .slice none 0 0] 33 := hB3
  have hk02 := hk1.tr hk2
  (repeat first | refine ldC ‹Sub _ _› (by assumption) ?_ | refine ld (Cl.cell (by first | assumption | exact Bk.cl (by assumption) rfl)) ?_ | refine ldK (by first | assumption | exact Bk.cl (by assumption) rfl | exact ‹Sub _ _› _ _ _ (by assumption)) ?_)
  refine br_dec (fun h1 => ?_) (fun h1 => ?_)
  · exact absurd rfl h1
  (repeat first | refine ldC ‹Sub _ _› (by assumption) ?_ | refine ld (Cl.cell (by first | assumption | exact Bk.cl (by assumption) rfl)) ?_ | refine ldK (by first | assumption | exact Bk.cl (by assumption) rfl | exact ‹Sub _ _› _ _ _ (by assumption)) ?_)
  refine br_dec (fun h1 => ?_) (fun h1 => ?_)
  · exact absurd rfl h1
  (repeat first | refine ldC ‹Sub _ _› (by assumption) ?_ | refine ld (Cl.cell (by first | assumption | exact Bk.cl (by assumption) rfl)) ?_ | refine ldK (by first | assumption | exact Bk.cl (by assumption) rfl | exact ‹Sub _ _› _ _ _ (by assumption)) ?_)
  refine ev_call (sameNone_ct none none 0 0) ?_
  rintro e w3 ⟨rfl, hk3⟩
  refine lp τok (fun _ : Unit => [(2, .pointer (some ⟨b2, 0, none⟩)), (3, .pointer (some ⟨b3, 0, none⟩)), (5, .int .i64 0)]) (fun _ w' => Kp [] w2 w') (fun _ => 0) () rfl ⟨rfl, rfl, rfl, trivial⟩ hk3 ?_
  rintro _ w4 hk4
  refine ld ((hB2.kp hk4 (by simp)).cl rfl).cell ?_
  refine lp τok (σ := Nat) (fun k => [(2, .pointer (some ⟨b2, 0, none⟩)), (3, .pointer (some ⟨b3, 0, none⟩)), (6, .int .i64 k)]) (fun k w' => Kp [] w2 w') (fun k => l.length - k) 0 rfl ⟨rfl, rfl, rfl, trivial⟩ hk4 ?_
  rintro k w5 hk5
  have hB5 := hB2.kp hk5 (by simp)
  have hB5' := hB3.kp hk5 (by simp)
  refine ld (hB5.cl rfl).cell ?_
  refine br_dec (fun h => ?_) (fun h => ?_)
  · have hlt : k < l.length := by omega
    obtain ⟨s, hs, _⟩ := drop_get hlt
    obtain ⟨b, o, rfl, ak, ck, hkept, _, hcp, hck⟩ := sl_shp hl hs
    obtain ⟨b', o', rfl, ak', ck', hkept', _, hcp', hck'⟩ := sl_shp hm hs
    have hkl := hkept.1
    have q0 : ∀ {u}, Kp [] w2 u → Cl u.heap b (o + k * 2) (.int .i64 s.params) := fun k => (hC.tr (hk02.tr k)) _ _ _ hcp
    have q1 : ∀ {u}, Kp [] w2 u → Cl u.heap b (o + k * 2 + 1) (.slice ak s.kept.length ck) := fun k => (hC.tr (hk02.tr k)) _ _ _ hck
    have r0 : ∀ {u}, Kp [] w2 u → Cl u.heap b' (o' + k * 2) (.int .i64 s.params) := fun k => (hD.tr (hk02.tr k)) _ _ _ hcp'
    have r1 : ∀ {u}, Kp [] w2 u → Cl u.heap b' (o' + k * 2 + 1) (.slice ak' s.kept.length ck') := fun k => (hD.tr (hk02.tr k)) _ _ _ hck'
    refine drawR τok (by kernel_rfl) ?_
    refine ldR (hB5.cl rfl) ?_
    refine ix k rfl hlt ?_
    refine ldR (q0 hk5) ?_
    refine ldR (hB5'.cl rfl) ?_
    refine ix k rfl hlt ?_
    refine ldR (r0 hk5) ?_
    refine br_dec (fun hc => ?_) (fun _ => ?_)
    · exact absurd rfl hc
    refine ldR (hB5.cl rfl) ?_
    refine ix k rfl hlt ?_
    refine ldR (q1 hk5) ?_
    refine ldR (hB5'.cl rfl) ?_
    refine ix k rfl hlt ?_
    refine ldR (r1 hk5) ?_
    intro m'
    conv => whnf
    refine br_dec (fun hc => ?_) (fun _ => ?_)
    · exact absurd rfl hc
    refine lp τok (σ := Nat) (fun j => [(2, .pointer (some ⟨b2, 0, none⟩)), (3, .pointer (some ⟨b3, 0, none⟩)), (6, .int .i64 k), (7, .int .i64 j)]) (fun j w' => Kp [] w2 w') (fun j => s.kept.length - j) 0 rfl ⟨rfl, rfl, rfl, rfl, trivial⟩ (hk5.dr _) ?_
    rintro j w6 hk6
    have hB6 := hB2.kp hk6 (by simp)
    have hB6' := hB3.kp hk6 (by simp)
    refine ld (hB6.cl rfl).cell ?_
    refine ix k rfl hlt ?_
    refine ld (q1 hk6).cell ?_
    refine br_dec (fun h2 => ?_) (fun h2 => ?_)
    · have hltj : j < s.kept.length := by omega
      obtain ⟨x, hx, _⟩ := drop_get hltj
      obtain ⟨bt, ot, rfl, ax, cx, hcell, hsx⟩ := hkept.sl hx
      obtain ⟨bt', ot', rfl, ax', cx', hcell', hsx'⟩ := hkept'.sl hx
      refine drawQ τok (fun w' => Kp [] w6 w') (by kernel_rfl) ((Kp.refl [] w6).dr _) ?_
      refine ldK (hB6.cl rfl) ?_
      refine ix k rfl hlt ?_
      refine ldK (q1 hk6) ?_
      refine ix j rfl hltj ?_
      refine ldK ((hC.tr (hk02.tr hk6)) _ _ _ hcell) ?_
      refine ldK (hB6'.cl rfl) ?_
      refine ix k rfl hlt ?_
      refine ldK (r1 hk6) ?_
      refine ix j rfl hltj ?_
      refine ldK ((hD.tr (hk02.tr hk6)) _ _ _ hcell') ?_
      refine callK (v := .bool true) (fun w' hk' => sameBools_ct (hC.tr ((hk02.tr hk6).tr hk')) (hD.tr ((hk02.tr hk6).tr hk')) x ax ax' cx cx' hsx hsx') ?_
      intro w7 hk7
      refine int64 (by omega) (by omega) ?_
      exact ⟨j + 1, by omega, rfl, ⟨rfl, rfl, rfl, rfl, trivial⟩, hk6.tr hk7⟩
    · refine int64 (by omega) (by omega) ?_
      exact ⟨k + 1, by omega, rfl, ⟨rfl, rfl, rfl, trivial⟩, hk6⟩
  · refine lp τok (fun _ : Unit => [(2, .pointer (some ⟨b2, 0, none⟩)), (8, .int .i64 0)]) (fun _ w' => Kp [] w2 w') (fun _ => 0) () rfl ⟨rfl, rfl, trivial⟩ hk5 ?_
    rintro _ w6 hk6
    refine ld ((hB2.kp hk6 (by simp)).cl rfl).cell ?_
    exact ⟨rfl, hk02.tr hk6⟩

theorem same20_ct {cs cs' : List Value} (c : Cod) (h : rCod.den C cs c) (h' : rCod.den D cs' c) :
    CallOk Tryd.prog 11 ∧ Calls Tryd.prog 11 #[.agg cs.toArray, .agg cs'.toArray] w (fun e w' => e = .returned (.bool true) ∧ Kp [] w w') := by
  refine ⟨⟨_, Tryd.func11, rfl, by decide⟩, ?_⟩
  obtain ⟨a1, c1, a2, c2, a3, c3, a4, c4, rfl, h1, h2, h3, h4, _⟩ := h
  obtain ⟨a1', c1', a2', c2', a3', c3', a4', c4', rfl, h1', h2', h3', h4', _⟩ := h'
  have hfl := h2.1
  have hbl := h3.1
  refine calls_of (args := [_, _]) 100 [.tmp 4] τok Tryd.func11 rfl rfl rfl (Nat.le_of_ble_eq_true rfl) ?_
  refine new fun b2 w1 hb2 hB2 hs1 hk1 => ?_
  refine new fun b3 w2 hb3 hB3 hs2 hk2 => ?_
  have hB2 : Bk w2.heap b2 [.int .i64 c.nat, .slice a1 c.shapes.length c1, .slice a2 c.funs.length c2, .slice a3 c.bodies.length c3, .slice a4 c.main.length c4] 41 := Bk.kp hB2 hk2 (by simp)
  have hB3 : Bk w2.heap b3 [.int .i64 c.nat, .slice a1' c.shapes.length c1', .slice a2' c.funs.length c2', .slice a3' c.bodies.length c3', .slice a4' c.main.length c4'] 41 := hB3
  have hk02 := hk1.tr hk2
  (repeat first | refine ldC ‹Sub _ _› (by assumption) ?_ | refine ld (Cl.cell (by first | assumption | exact Bk.cl (by assumption) rfl)) ?_ | refine ldK (by first | assumption | exact Bk.cl (by assumption) rfl | exact ‹Sub _ _› _ _ _ (by assumption)) ?_)
  refine br_dec (fun g1 => ?_) (fun _ => ?_)
  · exact absurd rfl g1
  (repeat first | refine ldC ‹Sub _ _› (by assumption) ?_ | refine ld (Cl.cell (by first | assumption | exact Bk.cl (by assumption) rfl)) ?_ | refine ldK (by first | assumption | exact Bk.cl (by assumption) rfl | exact ‹Sub _ _› _ _ _ (by assumption)) ?_)
  conv => whnf
  refine br_dec (fun g1 => ?_) (fun _ => ?_)
  · exact absurd rfl g1
  (repeat first | refine ldC ‹Sub _ _› (by assumption) ?_ | refine ld (Cl.cell (by first | assumption | exact Bk.cl (by assumption) rfl)) ?_ | refine ldK (by first | assumption | exact Bk.cl (by assumption) rfl | exact ‹Sub _ _› _ _ _ (by assumption)) ?_)
  refine ev_call (sameBlock_ct (hC.tr hk02) (hD.tr hk02) c.main a4 a4' c4 c4' h4 h4') ?_
  rintro e w3 ⟨rfl, hk3⟩
  have hB3a := hB2.kp hk3 (by simp)
  have hB3b := hB3.kp hk3 (by simp)
  refine ld (hB3a.cl rfl).cell ?_
  refine ld (hB3a.cl rfl).cell ?_
  refine ld (hB3b.cl rfl).cell ?_
  refine ld (hB3b.cl rfl).cell ?_
  refine ev_call (sameBared_ct (hC.tr (hk02.tr hk3)) (hD.tr (hk02.tr hk3)) c.shapes c.nat a1 a1' c1 c1' h1 h1') ?_
  rintro e w4 ⟨rfl, hk4⟩
  refine lp τok (σ := Nat) (fun k => [(2, .pointer (some ⟨b2, 0, none⟩)), (3, .pointer (some ⟨b3, 0, none⟩)), (5, .int .i64 k)]) (fun k w' => Kp [] w2 w') (fun k => c.funs.length - k) 0 rfl ⟨rfl, rfl, rfl, trivial⟩ (hk3.tr hk4) ?_
  rintro k w5 hk5
  have hB5 := hB2.kp hk5 (by simp)
  have hB5' := hB3.kp hk5 (by simp)
  refine ld (hB5.cl rfl).cell ?_
  refine br_dec (fun h => ?_) (fun h => ?_)
  · have hlt : k < c.funs.length := by omega
    obtain ⟨f, hf, _⟩ := drop_get hlt
    obtain ⟨b, o, rfl, af, cf, hcode, _, hcp, hcc⟩ := sl_fn h2 hf
    obtain ⟨b', o', rfl, af', cf', hcode', _, hcp', hcc'⟩ := sl_fn h2' hf
    refine drawQ τok (fun w' => Kp [] w5 w') (by kernel_rfl) ((Kp.refl [] w5).dr _) ?_
    refine ldK (hB5.cl rfl) ?_
    refine ix k rfl hlt ?_
    refine ldK ((hC.tr (hk02.tr hk5)) _ _ _ hcp) ?_
    refine ldK (hB5'.cl rfl) ?_
    refine ix k rfl hlt ?_
    refine ldK ((hD.tr (hk02.tr hk5)) _ _ _ hcp') ?_
    refine br_dec (fun hc => ?_) (fun _ => ?_)
    · exact absurd rfl hc
    refine ldK (hB5.cl rfl) ?_
    refine ix k rfl hlt ?_
    refine ldK ((hC.tr (hk02.tr hk5)) _ _ _ hcc) ?_
    refine ldK (hB5'.cl rfl) ?_
    refine ix k rfl hlt ?_
    refine ldK ((hD.tr (hk02.tr hk5)) _ _ _ hcc') ?_
    refine callK (v := .bool true) (fun w' hk' => sameBlock_ct (hC.tr ((hk02.tr hk5).tr hk')) (hD.tr ((hk02.tr hk5).tr hk')) f.code af af' cf cf' hcode hcode') ?_
    intro w7 hk7
    refine int64 (by omega) (by omega) ?_
    exact ⟨k + 1, by omega, rfl, ⟨rfl, rfl, rfl, trivial⟩, hk5.tr hk7⟩
  · refine lp τok (σ := Nat) (fun k => [(2, .pointer (some ⟨b2, 0, none⟩)), (3, .pointer (some ⟨b3, 0, none⟩)), (6, .int .i64 k)]) (fun k w' => Kp [] w2 w') (fun k => c.bodies.length - k) 0 rfl ⟨rfl, rfl, rfl, trivial⟩ hk5 ?_
    rintro k w6 hk6
    have hB6 := hB2.kp hk6 (by simp)
    have hB6' := hB3.kp hk6 (by simp)
    refine ld (hB6.cl rfl).cell ?_
    refine br_dec (fun h => ?_) (fun h => ?_)
    · have hlt : k < c.bodies.length := by omega
      obtain ⟨x, hx, _⟩ := drop_get hlt
      obtain ⟨b, o, rfl, ax, cx, hcell, hcode⟩ := h3.sl hx
      obtain ⟨b', o', rfl, ax', cx', hcell', hcode'⟩ := h3'.sl hx
      refine drawQ τok (fun w' => Kp [] w6 w') (by kernel_rfl) ((Kp.refl [] w6).dr _) ?_
      refine ldK (hB6.cl rfl) ?_
      refine ix k rfl hlt ?_
      refine ldK ((hC.tr (hk02.tr hk6)) _ _ _ hcell) ?_
      refine ldK (hB6'.cl rfl) ?_
      refine ix k rfl hlt ?_
      refine ldK ((hD.tr (hk02.tr hk6)) _ _ _ hcell') ?_
      refine callK (v := .bool true) (fun w' hk' => sameBlock_ct (hC.tr ((hk02.tr hk6).tr hk')) (hD.tr ((hk02.tr hk6).tr hk')) x ax ax' cx cx' hcode hcode') ?_
      intro w7 hk7
      refine int64 (by omega) (by omega) ?_
      exact ⟨k + 1, by omega, rfl, ⟨rfl, rfl, rfl, trivial⟩, hk6.tr hk7⟩
    · exact ⟨rfl, hk02.tr hk6⟩
end
end Go.Proofs.YtjpdkcejkogciaaDoor

/-
  Package emit: lone, awake.
-/
set_option linter.unusedSimpArgs false
set_option linter.unusedVariables false
namespace Cd
open Go Go.Wx
def p0 : Flt := ⟨[], [], [⟨67, 0, 0⟩, ⟨63, 5, 0⟩, ⟨66, 0, 0⟩, ⟨61, 0, 0⟩, ⟨61, 0, 0⟩]⟩
def p1 : Flt := ⟨[], [], [⟨68, 3, 0⟩]⟩
def q0 : Brd := ⟨[], [], [Nd.box], -1, []⟩
theorem make0e : (makeM p0 q0).2 = 0 := by kernel_rfl
theorem make0c : (makeM p0 q0).1.main = [ins0 2 5 0, ins0 3 0 0, ins0 3 0 0, ins0 5 0 0, ins0 14 1 0, ins0 6 0 0] := by kernel_rfl
theorem make1e : (makeM p1 q0).2 = 27 := by kernel_rfl
end Cd
namespace Go.Proofs.YtjpdkcejkogciaaDoor
open Go.Wx Cd

section
variable {C : Mem} {w : World}
theorem lone_ct (a : Option Addr) (n cap : Nat) (w : World) : CallOk Tryd.prog 17 ∧ Calls Tryd.prog 17 #[.slice a n cap] w (fun e w' => ∃ bb, e = .returned (.tuple #[.agg #[.slice none 0 0, .slice none 0 0, .slice a n cap], .agg #[.slice none 0 0, .slice none 0 0, .slice (some ⟨bb, 0, none⟩) 1 1, .int .i64 (-1), .slice none 0 0]]) ∧ Bk w'.heap bb [.int .i64 22, .int .i64 0, .int .i64 0] 47 ∧ w.heap.size ≤ bb ∧ Kp [] w w') := by
  refine ⟨⟨_, Tryd.func17, rfl, by decide⟩, ?_⟩
  refine calls_of (args := [_]) 9 [.cell 2 27, .cell 3 33] τok Tryd.func17 rfl rfl rfl (Nat.le_of_ble_eq_true rfl) ?_
  refine new fun b2 w1 hb2 hB2 hs1 hk1 => ?_
  refine new fun b3 w2 hb3 hB3 hs2 hk2 => ?_
  have hB2 := hB2.kp hk2 (by simp)
  refine fill [.int .i64 22, .int .i64 0, .int .i64 0] rfl ?_
  refine new fun b4 w3 hb4 hB4 hs3 hk3 => ?_
  have hB2 := hB2.kp hk3 (by simp)
  have hB3 := hB3.kp hk3 (by simp)
  refine stN (vs := [.slice none 0 0, .slice none 0 0, .slice a n cap]) hB2 rfl (by simp [Value.oneCell']) fun w4 hB2 hs4 hk4 => ?_
  have hB3 := hB3.kp hk4 (by simp; omega)
  have hB4 := hB4.kp hk4 (by simp; omega)
  refine stN (vs := [.slice none 0 0, .slice none 0 0, .slice (some ⟨b4, 0, none⟩) 1 1, .int .i64 (-1), .slice none 0 0]) hB3 rfl (by simp [Value.oneCell']) fun w5 hB3 hs5 hk5 => ?_
  have hB2 := hB2.kp hk5 (by simp; omega)
  have hB4 := hB4.kp hk5 (by simp; omega)
  refine resN τok rfl [.slice none 0 0, .slice none 0 0, .slice a n cap] rfl (fun j v hj => hB2.cl hj) ?_
  refine resN τok rfl [.slice none 0 0, .slice none 0 0, .slice (some ⟨b4, 0, none⟩) 1 1, .int .i64 (-1), .slice none 0 0] rfl (fun j v hj => hB3.cl hj) ?_
  exact ⟨b4, rfl, hB4, by omega, (((hk1.tr hk2).tr hk3).trans hk4 fun x hx hl => by simp at hx; omega).trans hk5 fun x hx hl => by simp at hx; omega⟩
end
end Go.Proofs.YtjpdkcejkogciaaDoor

/-
  Package emit: awake; EmitMakes.
-/
set_option linter.unusedSimpArgs false
set_option linter.unusedVariables false
namespace Cd
open Go Go.Wx
def ndCells (n : Nd) : List Value := [.int .i64 n.op, .int .i64 n.a, .int .i64 n.b]
theorem all2_map {α β : Type} {p : β → α → Prop} {g : α → β} (h : ∀ x, p (g x) x) : ∀ l : List α, All2 p (l.map g) l
  | [] => trivial
  | x :: l => ⟨h x, all2_map h l⟩
theorem sl_nds {w : World} {lo b e : Nat} {l : List Nd} (hb : Bk w.heap b (l.map ndCells).flatten e) (hlo : lo ≤ b) (hl : l.length ≤ 1000000) (hi : ∀ n ∈ l, I64 n.op ∧ I64 n.a ∧ I64 n.b) : Sl rNd (New lo w) (some ⟨b, 0, none⟩) l := by
  refine ⟨by omega, .inr ⟨b, 0, rfl, fun i x hx => ?_⟩⟩
  have hx3 := hi x (List.mem_of_getElem? hx)
  refine ⟨ndCells x, ?_, fun j u hj => ⟨hlo, _, _, hb, ?_⟩⟩
  · exact ⟨rfl, hx3.1, hx3.2.1, hx3.2.2⟩
  · rw [List.getElem?_toArray, Nat.zero_add]
    exact flat_get (k := 3) _ (fun cs hcs => by obtain ⟨n, _, rfl⟩ := List.mem_map.1 hcs; rfl) i j (ndCells x) u (by rw [List.getElem?_map, hx]; rfl) hj
def insCells (n : Ins) : List Value := [.int .i64 n.op, .int .i64 n.a, .int .i64 n.b, .slice none 0 0]
theorem sl_inss {w : World} {lo b e : Nat} {l : List Ins} (hb : Bk w.heap b (l.map insCells).flatten e) (hlo : lo ≤ b) (hl : l.length ≤ 1000000) (hi : ∀ n ∈ l, I64 n.op ∧ I64 n.a ∧ I64 n.b ∧ n.to = []) : Sl rIns (New lo w) (some ⟨b, 0, none⟩) l := by
  refine ⟨by omega, .inr ⟨b, 0, rfl, fun i x hx => ?_⟩⟩
  have hx3 := hi x (List.mem_of_getElem? hx)
  refine ⟨insCells x, ⟨none, 0, ?_, ?_, hx3.1, hx3.2.1, hx3.2.2.1⟩, fun j u hj => ⟨hlo, _, _, hb, ?_⟩⟩
  · rw [hx3.2.2.2]; rfl
  · rw [hx3.2.2.2]; exact Sl.nil _ _ _
  · rw [List.getElem?_toArray, Nat.zero_add]
    exact flat_get (k := 4) _ (fun cs hcs => by obtain ⟨n, _, rfl⟩ := List.mem_map.1 hcs; rfl) i j (insCells x) u (by rw [List.getElem?_map, hx]; rfl) hj
end Cd
namespace Go.Proofs.YtjpdkcejkogciaaDoor
open Go.Wx Cd

theorem Tab.or {C D : Mem} (h : Tab C) : Tab (orM C D) := fun j v hj => .inl (h j v hj)
section
variable {C : Mem} {w : World}
set_option maxHeartbeats 1000000 in
theorem awake_ct (hS : Sub C w) (hT : Tab C) : CallOk Tryd.prog 7 ∧ Calls Tryd.prog 7 #[] w (fun e w' => e = .returned (.bool true) ∧ Kp [] w w') := by
  refine ⟨⟨_, Tryd.func7, rfl, by decide⟩, ?_⟩
  refine calls_of (args := []) 50 [.tmp 0] τok Tryd.func7 rfl rfl rfl (Nat.le_of_ble_eq_true rfl) ?_
  refine fill (p0.main.map ndCells).flatten rfl ?_
  refine new fun b1 w1 hb1 hB1 hs1 hk1 => ?_
  refine ev_call (lone_ct (some ⟨b1, 0, none⟩) 5 5 w1) ?_
  rintro e w2 ⟨bb, rfl, hBb, hbb, hk2⟩
  have hB1 := hB1.kp hk2 (by simp)
  refine new fun b2 w3 hb2 hB2 hs2 hk3 => ?_
  refine new fun b3 w4 hb3 hB3 hs3 hk4 => ?_
  have hB2 := hB2.kp hk4 (by simp)
  refine stN (vs := [.slice none 0 0, .slice none 0 0, .slice (some ⟨b1, 0, none⟩) 5 5]) hB2 rfl (by simp [Value.oneCell']) fun w5 hB2 hs5 hk5 => ?_
  have hB3 := hB3.kp hk5 (by simp; omega)
  refine stN (vs := [.slice none 0 0, .slice none 0 0, .slice (some ⟨bb, 0, none⟩) 1 1, .int .i64 (-1), .slice none 0 0]) hB3 rfl (by simp [Value.oneCell']) fun w6 hB3 hs6 hk6 => ?_
  have hB2 := hB2.kp hk6 (by simp; omega)
  have z1 := hk1.size
  have z2 := hk2.size
  have hbbl := hBb.lt
  have hk24 := hk3.tr hk4
  have hB1 := ((hB1.kp hk24 (by simp)).kp hk5 (by simp; omega)).kp hk6 (by simp; omega)
  have hBb := ((hBb.kp hk24 (by simp)).kp hk5 (by simp; omega)).kp hk6 (by simp; omega)
  have hk06 : Kp [] w w6 := (((hk1.tr hk2).tr hk24).trans hk5 fun x hx hl => by simp at hx; omega).trans hk6 fun x hx hl => by simp at hx; omega
  have hs0 : Sl rNd (New w.heap.size w6) (some ⟨b1, 0, none⟩) p0.main := sl_nds hB1 (by omega) (by decide) (by unfold I64; decide)
  have hsb : Sl rNd (New w.heap.size w6) (some ⟨bb, 0, none⟩) [Nd.box] := sl_nds (l := [Nd.box]) hBb (by omega) (by decide) (by unfold I64; decide)
  have hdq : ∀ z, Kp [] w6 z → rBrd.den (orM C (New w.heap.size z)) [.slice none 0 0, .slice none 0 0, .slice (some ⟨bb, 0, none⟩) 1 1, .int .i64 (-1), .slice none 0 0] q0 := fun z hz =>
    ⟨none, 0, none, 0, some ⟨bb, 0, none⟩, 1, none, 0, rfl, Sl.nil _ _ _, Sl.nil _ _ _, hsb.mono fun b o v hv => .inr ⟨hv.1, hv.2.kp hz (by simp)⟩, Sl.nil _ _ _, by constructor <;> simp [q0], by decide, by decide⟩
  have hdp : rFlt.den (orM C (New w.heap.size w6)) [.slice none 0 0, .slice none 0 0, .slice (some ⟨b1, 0, none⟩) 5 5] p0 :=
    ⟨none, 0, none, 0, some ⟨b1, 0, none⟩, 5, rfl, Sl.nil _ _ _, Sl.nil _ _ _, hs0.mono fun b o v hv => .inr hv, by decide⟩
  refine ldN _ rfl (fun j v hj => by rw [Nat.zero_add]; exact hB2.cl hj) ?_
  refine ldN _ rfl (fun j v hj => by rw [Nat.zero_add]; exact hB3.cl hj) ?_
  refine ev_call (make_ct (orM_sub (hS.tr hk06) (New.sub _ _)) hT.or hdp (hdq w6 (Kp.refl _ _)) (by decide)) ?_
  rw [make0e]
  rintro e w7 ⟨cs, rfl, hc0, hk7⟩
  obtain ⟨x1, y1, x2, y2, x3, y3, x4, y4, rfl, _, _, _, hmain, _⟩ := hc0
  rw [make0c] at hmain
  have hml : (makeM p0 q0).1.main.length = 6 := by rw [make0c]; rfl
  obtain ⟨nm, hnm⟩ : ∃ n, (makeM p0 q0).1.main.length = n := ⟨_, rfl⟩
  rw [hnm] at hml
  subst hml
  rw [hnm]
  generalize (makeM p0 q0).1.nat = v0
  generalize (makeM p0 q0).1.shapes.length = n1
  generalize (makeM p0 q0).1.funs.length = n2
  generalize (makeM p0 q0).1.bodies.length = n3
  have hB2 := hB2.kp hk7 (by simp)
  have hB3 := hB3.kp hk7 (by simp)
  refine new fun b4 w8 hb4 hB4 hs8 hk8 => ?_
  refine stN (vs := [.int .i64 v0, .slice x1 n1 y1, .slice x2 n2 y2, .slice x3 n3 y3, .slice x4 6 y4]) hB4 rfl (by simp [Value.oneCell']) fun w9 hB4 hs9 hk9 => ?_
  have hk79 : Kp [] w7 w9 := hk8.newSt hb4 hk9
  have hk69 := hk7.tr hk79
  have hB2 := hB2.kp hk79 (by simp)
  have hB3 := hB3.kp hk79 (by simp)
  refine fill [.int .i64 68, .int .i64 3, .int .i64 0] rfl ?_
  refine new fun b5 w10 hb5 hB5 hs10 hk10 => ?_
  have hB2 := hB2.kp hk10 (by simp)
  have hB3 := hB3.kp hk10 (by simp)
  have hB4 := hB4.kp hk10 (by simp)
  have z69 := hk69.size
  refine st hB2 (by simp) rfl fun w11 hB2 hs11 hk11 => ?_
  have hB3 := hB3.kp hk11 (by simp; omega)
  have hB4 := hB4.kp hk11 (by simp; omega)
  have hB5 := hB5.kp hk11 (by simp; omega)
  have hk611 : Kp [] w6 w11 ∨ True := .inr trivial
  have hz7 := hk7.size
  have hk011 : Kp [] w w11 := ((hk06.tr hk69).tr hk10).trans hk11 fun x hx hl => by simp at hx; omega
  have hsb2 : Sl rNd (New w.heap.size w11) (some ⟨bb, 0, none⟩) [Nd.box] := sl_nds (l := [Nd.box]) (((hBb.kp hk69 (by simp)).kp hk10 (by simp)).kp hk11 (by simp; omega)) (by omega) (by decide) (by unfold I64; decide)
  have hs1' : Sl rNd (New w.heap.size w11) (some ⟨b5, 0, none⟩) p1.main := sl_nds hB5 (by omega) (by decide) (by unfold I64; decide)
  have hdq1 : rBrd.den (orM C (New w.heap.size w11)) [.slice none 0 0, .slice none 0 0, .slice (some ⟨bb, 0, none⟩) 1 1, .int .i64 (-1), .slice none 0 0] q0 :=
    ⟨none, 0, none, 0, some ⟨bb, 0, none⟩, 1, none, 0, rfl, Sl.nil _ _ _, Sl.nil _ _ _, hsb2.mono fun b o v hv => .inr hv, Sl.nil _ _ _, by constructor <;> simp [q0], by decide, by decide⟩
  have hdp1 : rFlt.den (orM C (New w.heap.size w11)) [.slice none 0 0, .slice none 0 0, .slice (some ⟨b5, 0, none⟩) 1 1] p1 :=
    ⟨none, 0, none, 0, some ⟨b5, 0, none⟩, 1, rfl, Sl.nil _ _ _, Sl.nil _ _ _, hs1'.mono fun b o v hv => .inr hv, by decide⟩
  have hmain11 : Sl rIns (New w.heap.size w11) x4 [ins0 2 5 0, ins0 3 0 0, ins0 3 0 0, ins0 5 0 0, ins0 14 1 0, ins0 6 0 0] := hmain.mono fun b o v hv => ⟨by have := hv.1; have := hk06.size; omega, ((hv.2.kp hk79 (by simp)).kp hk10 (by simp)).kp hk11 (by have := hv.1; simp; omega)⟩
  refine ldN _ rfl (fun j v hj => by rw [Nat.zero_add]; exact hB2.cl hj) ?_
  refine ldN _ rfl (fun j v hj => by rw [Nat.zero_add]; exact hB3.cl hj) ?_
  refine ev_call (make_ct (orM_sub (hS.tr hk011) (New.sub _ _)) hT.or hdp1 hdq1 (by decide)) ?_
  rw [make1e]
  rintro e w12 ⟨cs, rfl, hc1, hk12⟩
  obtain ⟨u1, t1, u2, t2, u3, t3, u4, t4, rfl, _⟩ := hc1
  have hB4 := hB4.kp hk12 (by simp)
  have hb4l := hB4.lt
  refine new fun b6 w13 hb6 hB6 hs13 hk13 => ?_
  have hB4 := hB4.kp hk13 (by simp)
  refine stN (vs := [.int .i64 (makeM p1 q0).1.nat, .slice u1 (makeM p1 q0).1.shapes.length t1, .slice u2 (makeM p1 q0).1.funs.length t2, .slice u3 (makeM p1 q0).1.bodies.length t3, .slice u4 (makeM p1 q0).1.main.length t4]) hB6 rfl (by simp [Value.oneCell']) fun w14 hB6 hs14 hk14 => ?_
  have hB4 := hB4.kp hk14 (by simp; omega)
  have hk1114 : Kp [] w11 w14 := hk12.tr (hk13.newSt hb6 hk14)
  refine ld (hB4.cl rfl).cell ?_
  refine fill ([ins0 2 5 0, ins0 3 0 0, ins0 3 0 0, ins0 5 0 0, ins0 14 1 0, ins0 6 0 0].map insCells).flatten rfl ?_
  refine new fun b7 w15 hb7 hB7 hs15 hk15 => ?_
  have hk015 := (hk011.tr hk1114).tr hk15
  have z015 := (hk011.tr hk1114).size
  refine ev_call (sameBlock_ct (C := New w.heap.size w15) (D := New w.heap.size w15) (New.sub _ _) (New.sub _ _) [ins0 2 5 0, ins0 3 0 0, ins0 3 0 0, ins0 5 0 0, ins0 14 1 0, ins0 6 0 0] x4 (some ⟨b7, 0, none⟩) y4 6 (hmain11.mono fun b o v hv => ⟨hv.1, (hv.2.kp hk1114 (by simp)).kp hk15 (by simp)⟩) (sl_inss hB7 (by omega) (by decide) (by unfold I64; decide))) ?_
  rintro e w16 ⟨rfl, hk16⟩
  exact ⟨rfl, hk015.tr hk16⟩

theorem emitMakes_ct (hS : Sub C w) (hT : Tab C) {p : Flt} {q : Brd} {cf cg : List Value} (hp : rFlt.den C cf p) (hq : rBrd.den C cg q) :
    CallOk Tryd.prog 3 ∧ Calls Tryd.prog 3 #[.agg cf.toArray, .agg cg.toArray] w (fun e w' => e = .returned (.bool true) ∧ Kp [] w w') := by
  refine ⟨⟨_, Tryd.func3, rfl, by decide⟩, ?_⟩
  have hp0 := hp
  have hq0 := hq
  obtain ⟨a1, c1, a2, c2, a3, c3, rfl, _⟩ := hp
  obtain ⟨d1, e1, d2, e2, d3, e3, d4, e4, rfl, _⟩ := hq
  refine calls_of (args := [_, _]) 34 [.tmp 4] τok Tryd.func3 rfl rfl rfl (Nat.le_of_ble_eq_true rfl) ?_
  refine new fun b2 w1 hb2 hB2 hs1 hk1 => ?_
  refine new fun b3 w2 hb3 hB3 hs2 hk2 => ?_
  have hB2 := hB2.kp hk2 (by simp)
  have hk02 := hk1.tr hk2
  refine ev_call (awake_ct (hS.tr hk02) hT) ?_
  rintro e w3 ⟨rfl, hk3⟩
  have hB2 := hB2.kp hk3 (by simp)
  have hB3 := hB3.kp hk3 (by simp)
  have hk03 := hk02.tr hk3
  refine ldN _ rfl (fun j v hj => by rw [Nat.zero_add]; exact hB2.cl hj) ?_
  refine ldN _ rfl (fun j v hj => by rw [Nat.zero_add]; exact hB3.cl hj) ?_
  refine ev_call (heavy_ct (hS.tr hk03) hp0 hq0) ?_
  rintro e w4 ⟨b, rfl, hw, hk4⟩
  have hB2 := hB2.kp hk4 (by simp)
  have hB3 := hB3.kp hk4 (by simp)
  have hk04 := hk03.tr hk4
  refine br (fun g => ?_) (fun g => ?_)
  · exact ⟨rfl, hk04⟩
  have hw := hw g
  refine ldN _ rfl (fun j v hj => by rw [Nat.zero_add]; exact hB2.cl hj) ?_
  refine ldN _ rfl (fun j v hj => by rw [Nat.zero_add]; exact hB3.cl hj) ?_
  obtain ⟨M, hM⟩ : ∃ m, makeM p q = m := ⟨_, rfl⟩
  refine ev_call (make_ct (hS.tr hk04) hT hp0 hq0 hw) ?_
  rw [hM]
  rintro e w5 ⟨cs, rfl, hc, hk5⟩
  have hc0 := hc
  obtain ⟨x1, y1, x2, y2, x3, y3, x4, y4, hcs, _⟩ := hc
  have hB2 := hB2.kp hk5 (by simp)
  have hB3 := hB3.kp hk5 (by simp)
  have hk05 := hk04.tr hk5
  subst hcs
  refine new fun b5 w6 hb5 hB5 hs6 hk6 => ?_
  refine stN (vs := [.int .i64 M.1.nat, .slice x1 M.1.shapes.length y1, .slice x2 M.1.funs.length y2, .slice x3 M.1.bodies.length y3, .slice x4 M.1.main.length y4]) hB5 rfl (by simp [Value.oneCell']) fun w7 hB5 hs7 hk7 => ?_
  have hk57 : Kp [] w5 w7 := hk6.newSt hb5 hk7
  have hB2 := hB2.kp hk57 (by simp)
  have hB3 := hB3.kp hk57 (by simp)
  have hk07 := hk05.tr hk57
  refine ldN _ rfl (fun j v hj => by rw [Nat.zero_add]; exact hB2.cl hj) ?_
  refine ldN _ rfl (fun j v hj => by rw [Nat.zero_add]; exact hB3.cl hj) ?_
  refine ev_call (make21_ct (hS.tr hk07) hp0 hq0 hw) ?_
  rw [hM]
  rintro e w8 ⟨cs', rfl, hc', hk8⟩
  have hc0' := hc'
  obtain ⟨x1', y1', x2', y2', x3', y3', x4', y4', hcs', _⟩ := hc'
  subst hcs'
  have hB5 := hB5.kp hk8 (by simp)
  refine new fun b9 w9 hb9 hB9 hs9 hk9 => ?_
  refine stN (vs := [.int .i64 M.1.nat, .slice x1' M.1.shapes.length y1', .slice x2' M.1.funs.length y2', .slice x3' M.1.bodies.length y3', .slice x4' M.1.main.length y4']) hB9 rfl (by simp [Value.oneCell']) fun w10 hB9 hs10 hk10 => ?_
  have hk810 : Kp [] w8 w10 := hk9.newSt hb9 hk10
  have hB5 := hB5.kp hk810 (by simp)
  have hk510 := (hk57.tr hk8).tr hk810
  obtain ⟨er, her⟩ : ∃ e, M.2 = e := ⟨_, rfl⟩
  rw [her]
  refine br_yes rfl ?_
  refine ldN _ rfl (fun j v hj => by rw [Nat.zero_add]; exact hB5.cl hj) ?_
  refine ldN _ rfl (fun j v hj => by rw [Nat.zero_add]; exact hB9.cl hj) ?_
  refine ev_call (same20_ct (C := New w4.heap.size w10) (D := New w7.heap.size w10) (New.sub _ _) (New.sub _ _) M.1 (rCod.mono (fun b o v hv => ⟨hv.1, hv.2.kp hk510 (by simp)⟩) hc0) (rCod.mono (fun b o v hv => ⟨hv.1, hv.2.kp hk810 (by simp)⟩) hc0')) ?_
  rintro e w11 ⟨rfl, hk11⟩
  exact ⟨rfl, (hk05.tr hk510).tr hk11⟩
end
end Go.Proofs.YtjpdkcejkogciaaDoor

/-
  The closing, for a law that answers true and leaves what it was given as it was: from the walk's contract to the row.
-/
set_option linter.unusedSimpArgs false
set_option linter.unusedVariables false
namespace Go.Wx
open Go.ChangeShapes Go.WideShapes Go.ChangeAt Go.RowKit

/-- the arguments read as they did, whatever new memory there is -/
theorem args_stay {H : Type} {enc : TypeId × Value → H} {P : Program} (hl : laidOutB P = true) {W W' : World} (hb : Below W.heap.size W W') :
    ∀ (ts : List TypeId) (vs : List Value) (ds : List (DataW H)) (ps : List MemPlace), (ts.all fun t => P.readableRec t && Nat.blt t P.types.size) = true → DataW.TrodAll enc P W 0 (fun _ => true) true ts vs ds ps →
      (∀ x ∈ ps, x.block < W.heap.size) → ∀ sp : Nat → Bool, (∀ p ∈ ps, sp p.block = true) → DataW.TrodAll enc P W' 0 sp true ts vs ds ps
  | [], vs, ds, ps, _, h, _, sp, _ => by
    obtain ⟨rfl, rfl, rfl⟩ := trodAll_nil h
    rfl
  | t :: ts, vs, ds, ps, hts, h, hlt, sp, hsp => by
    obtain ⟨v, vs', d, ds', p, q, rfl, rfl, rfl, h0, h1⟩ := trodAll_cons h
    simp only [List.all_cons, Bool.and_eq_true] at hts
    refine ⟨p, q, ?_, args_stay hl hb ts _ _ _ hts.2 h1 (fun x hx => hlt x (by simp [hx])) sp (fun x hx => hsp x (by simp [hx])), rfl⟩
    exact WideElems.Trod_stays hl hts.1.1 (by simpa [Nat.blt_eq] using hts.1.2) h0 (fun x hx => hb.same (hlt x (by simp [hx]))) (fun x hx => hsp x (by simp [hx]))

theorem post_true {H : Type} {enc : TypeId × Value → H} {P : Program} {f : Func} {s : ChangeSpec} {apart fresh handsOn : Bool} {W W' : World} {args : Array Value} {ds gs : List (DataW H)} {before : List MemPlace} {tb : TypeId}
    (hl : laidOutB P = true) (hts : (f.params.toList.all fun t => P.readableRec t && Nat.blt t P.types.size) = true) (hrt : f.resultTypes = #[tb]) (hb : P.underlying tb = some .bool)
    (hW : DataW.Whole enc P f.params.toList s.vars apart W args.toList ds gs before) (hs : s.vars = []) (hres : (s.fn H ds).results = [.lit (.bool true)]) (hargs : (s.fn H ds).args = ds) (hvars : (s.fn H ds).vars = [])
    (hk : Kp [] W W') : s.post enc P f apart fresh handsOn false W args (.bool true) W' := by
  have hW' := hW
  obtain ⟨p, q, hA, hV, rfl, hfz, hnd⟩ := hW
  rw [hs] at hV
  obtain ⟨rfl, rfl⟩ := trodVars_none hV
  have hbl := hk.below
  have hlt : ∀ x ∈ p, x.block < W.heap.size := fun x hx => hW'.lt x (by simp [hx])
  refine ⟨ds, [], p ++ [], [], p, [], hW', ?_, ?_, ?_, ?_, fun h => by cases h⟩
  · rw [List.append_nil, hres, hrt]
    exact trodAll_mk1 (shut_bool hb true)
  · rw [List.append_nil, hargs]
    exact args_stay hl hbl _ _ _ _ hts hA hlt _ fun x hx => by simpa using hlt x hx
  · rw [List.append_nil, hvars, hs]
    rfl
  · exact hbl.frame _
end Go.Wx

/-
  Wx: the arguments opened, with a bound on their bulk (the same as in the Code texts).
-/
set_option linter.unusedSimpArgs false
set_option linter.unusedVariables false
set_option maxRecDepth 100000
namespace Go.Proofs.YtjpdkcejkogciaaDoor
open Go.Wx Go.ChangeShapes Go.WideShapes Go.ChangeAt Go.RowKit

theorem bulk_one {H : Type} (d : DataW H) : 1 ≤ Rows.uptoBulk d := by
  cases d with
  | lit l => cases l <;> simp [Rows.uptoBulk]
  | nil => simp [Rows.uptoBulk]
  | ptr d => simp [Rows.uptoBulk]
  | slice elems spare => simp [Rows.uptoBulk]
  | agg parts => simp [Rows.uptoBulk]
  | iface t d => simp [Rows.uptoBulk]
  | map entries => simp [Rows.uptoBulk]
  | held h => simp [Rows.uptoBulk]
theorem bulk_part {H : Type} {d : DataW H} {l : List (DataW H)} (h : d ∈ l) : Rows.uptoBulk d ≤ Rows.uptoBulkAll l := by
  induction l with
  | nil => cases h
  | cons x r ih =>
    simp only [Rows.uptoBulkAll]
    cases List.mem_cons.1 h with
    | inl e => subst e; omega
    | inr e => have := ih e; omega
theorem bulk_len {H : Type} (l : List (DataW H)) : l.length ≤ Rows.uptoBulkAll l := by
  induction l with
  | nil => simp [Rows.uptoBulkAll]
  | cons x r ih => have := bulk_one x; simp only [Rows.uptoBulkAll, List.length_cons]; omega
theorem bulk_of {H : Type} {l : List (DataW H)} (hk : Rows.uptoSmall H l = true) : Rows.uptoBulkAll l ≤ 1048576 := of_decide_eq_true hk

theorem bulk_app {H : Type} (l r : List (DataW H)) : Rows.uptoBulkAll (l ++ r) = Rows.uptoBulkAll l + Rows.uptoBulkAll r := by
  induction l with
  | nil => simp [Rows.uptoBulkAll]
  | cons x l ih => simp only [List.cons_append, Rows.uptoBulkAll, ih]; omega
theorem agg_part {H : Type} {xs : List (DataW H × List MemPlace)} {x : DataW H × List MemPlace} (hx : x ∈ xs) (hB : Rows.uptoBulk (.agg (xs.map (·.1))) ≤ 1048576) : Rows.uptoBulk x.1 ≤ 1048576 := by
  have := bulk_part (List.mem_map_of_mem (f := (·.1)) hx)
  simp only [Rows.uptoBulk] at hB
  omega


section
variable {H : Type} {enc : TypeId × Value → H} {w : World} {spare : Nat → Bool} {held : Bool}

theorem addr_plain_ {a : Addr} {v : Value} (h : w.cell? a = some v) : ∃ b o, a = ⟨b, o, none⟩ := by
  obtain ⟨b, o, s⟩ := a
  unfold World.cell? at h
  split at h
  · rename_i c T fz hb
    cases s with
    | none => exact ⟨b, o, rfl⟩
    | some _ => simp at h
  · cases h

/-- a slice, by what its elements are; 'ok': what is known of their readings -/
theorem open_row {α : Type} [Inhabited α] {t e : TypeId} (R : Rd α) (hk : 0 < R.sz) (ht : Tryd.prog.underlying t = some (.slice e)) (hc : Tryd.prog.cellsOf e = R.sz) (ok : DataW H → Prop)
    (one : ∀ (cs : List Value) (n : Nat) (y : DataW H × List MemPlace), cs.length = R.sz → DataW.trod enc Tryd.prog w 0 spare held n e cs = some y → ok y.1 → ∃ x : α, R.den (Old w) cs x)
    {fuel : Nat} {v : Value} {x : DataW H × List MemPlace} (h : DataW.trod enc Tryd.prog w 0 spare held fuel t [v] = some x) (hok : ∀ es sp, x.1 = .slice es sp → ∀ d ∈ es, ok d) :
    ∃ (a : Option Addr) (l : List α) (cap : Nat), v = .slice a l.length cap ∧ (l.length ≤ 1099511627776 → Sl R (Old w) a l) ∧ (l.length = 0 ∨ ∃ es sp, x.1 = .slice es sp ∧ es.length = l.length) := by
  rcases Go.Deep.open_slice ht h with ⟨h1, rfl⟩ | ⟨a, len, cap, m, n, D, Pl, h1, hb, hl, hm, hmm, rfl, hx⟩
  · simp only [List.cons.injEq, and_true] at h1
    subst h1
    exact ⟨none, [], 0, rfl, fun _ => Sl.nil _ _ _, .inl rfl⟩
  simp only [List.cons.injEq, and_true] at h1
  subst h1
  have hlm : len ≤ m := by rw [hmm]; split <;> omega
  rw [hc] at hx
  have each : ∀ i, i < len → ∃ q : α × List Value, R.den (Old w) q.2 q.1 ∧ ∀ j u, q.2[j]? = some u → w.cell? (a.add (i * R.sz + j)) = some u := by
    intro i hi
    obtain ⟨cs', h1, h2⟩ := hx i (by omega)
    obtain ⟨_, hlen, hcell⟩ := World.cells?_some h1
    obtain ⟨x, hx⟩ := one cs' n _ hlen h2 (hok _ _ rfl _ (List.mem_map.2 ⟨i, by simpa using hi, rfl⟩))
    refine ⟨(x, cs'), hx, fun j u hu => ?_⟩
    have hj : j < R.sz := by rw [← hlen]; exact get_lt hu
    rw [← Go.Deep.add_add, hcell j hj]
    exact hu
  obtain ⟨q, hq⟩ := Go.Deep.choose_lt each
  refine ⟨some a, (List.range len).map fun i => (q i).1, cap, by simp, fun hbig => ⟨hbig, ?_⟩, .inr ⟨_, _, rfl, by simp⟩⟩
  by_cases h0 : len = 0
  · exact .inl (by simp [h0])
  obtain ⟨hd0, hz⟩ := hq 0 (by omega)
  have hl0 := R.len hd0
  obtain ⟨u0, hu0⟩ : ∃ u, (q 0).2[0]? = some u := ⟨(q 0).2[0]'(by omega), by simp⟩
  have hz0 := hz 0 u0 hu0
  rw [Nat.zero_mul, Nat.add_zero] at hz0
  have hz' : w.cell? a = some u0 := by simpa [Addr.add] using hz0
  obtain ⟨b, o, rfl⟩ := addr_plain_ hz'
  refine .inr ⟨b, o, rfl, fun i x hi => ?_⟩
  rw [List.getElem?_map] at hi
  have hil : i < len := by
    rcases Nat.lt_or_ge i len with h | h
    · exact h
    · rw [List.getElem?_eq_none (by simpa using h)] at hi; cases hi
  rw [List.getElem?_range hil] at hi
  have hi := Option.some.inj hi
  subst hi
  obtain ⟨hdi, hci⟩ := hq i hil
  refine ⟨(q i).2, hdi, fun j u hj => Cl.of ?_⟩
  have := hci j u hj
  rw [add_off] at this
  rw [Nat.add_assoc]
  exact this

theorem open_sl {α : Type} [Inhabited α] {t e : TypeId} (R : Rd α) (hk : 0 < R.sz) (ht : Tryd.prog.underlying t = some (.slice e)) (hc : Tryd.prog.cellsOf e = R.sz)
    (one : ∀ (cs : List Value) (n : Nat) (y : DataW H × List MemPlace), cs.length = R.sz → DataW.trod enc Tryd.prog w 0 spare held n e cs = some y → Rows.uptoBulk y.1 ≤ 1048576 → ∃ x : α, R.den (Old w) cs x)
    {fuel : Nat} {v : Value} {x : DataW H × List MemPlace} (h : DataW.trod enc Tryd.prog w 0 spare held fuel t [v] = some x) (hB : Rows.uptoBulk x.1 ≤ 1048576) : ∃ l, (rSl R).den (Old w) [v] l := by
  obtain ⟨a, l, cap, h1, h2, h3⟩ := open_row R hk ht hc (fun d => Rows.uptoBulk d ≤ 1048576) one h (fun es sp e d hd => by
    rw [e] at hB
    have := bulk_part hd
    simp only [Rows.uptoBulk] at hB
    omega)
  refine ⟨l, a, cap, by rw [h1], h2 ?_⟩
  rcases h3 with h3 | ⟨es, sp, e, hl⟩
  · omega
  · rw [e] at hB
    have := bulk_len es
    simp only [Rows.uptoBulk] at hB
    omega

end
end Go.Proofs.YtjpdkcejkogciaaDoor

/-
  Package emit: the arguments opened.
-/
set_option linter.unusedSimpArgs false
set_option linter.unusedVariables false
set_option maxRecDepth 100000
namespace Cd
open Go Go.Wx
instance : Inhabited Nd := ⟨⟨0, 0, 0⟩⟩
instance : Inhabited Ffn := ⟨⟨0, []⟩⟩
instance : Inhabited Shp := ⟨⟨0, []⟩⟩
end Cd
namespace Go.Proofs.YtjpdkcejkogciaaDoor
open Go.Wx Cd Go.ChangeShapes Go.WideShapes Go.ChangeAt Go.RowKit
section
variable {H : Type} {enc : TypeId × Value → H} {w : World} {spare : Nat → Bool} {held : Bool}

theorem i64_of_ {z : Int} (h : (Lit.int .i64 z).wf = true) : I64 z := by
  simpa [I64, Lit.wf, IntKind.min, IntKind.max, IntKind.signed, IntKind.bits] using h
theorem open_cap {t e : TypeId} (ht : Tryd.prog.underlying t = some (.slice e)) {fuel : Nat} {v : Value} {x : DataW H × List MemPlace} (h : DataW.trod enc Tryd.prog w 0 spare held fuel t [v] = some x) {a : Option Addr} {n c : Nat} (hv : v = .slice a n c) : n ≤ c := by
  rcases Go.Deep.open_slice ht h with ⟨h1, rfl⟩ | ⟨a', len, cap, m, k, D, Pl, h1, hb, hl, _⟩
  · rw [hv] at h1
    simp at h1
    omega
  · rw [hv] at h1
    simp at h1
    omega
theorem open_i {n : Nat} {cs : List Value} {y : DataW H × List MemPlace} (hn : DataW.trod enc Tryd.prog w 0 spare held n 3 cs = some y) : ∃ x, rInt.den (Old w) cs x := by
  obtain ⟨z, rfl, rfl, hw⟩ := DataW.trod_int Tryd.underlying3 hn
  exact ⟨z, rfl, i64_of_ hw⟩
theorem open_bools {n : Nat} {v : Value} {y : DataW H × List MemPlace} (hn : DataW.trod enc Tryd.prog w 0 spare held n 61 [v] = some y) (hB : Rows.uptoBulk y.1 ≤ 1048576) : ∃ l, (rSl rBool).den (Old w) [v] l :=
  open_sl rBool Nat.one_pos Tryd.underlying61 (by kernel_rfl) (fun cs n y hl hn _ => by
    obtain ⟨b, rfl, rfl⟩ := DataW.trod_bool Tryd.underlying4 hn
    exact ⟨b, rfl⟩) hn hB
theorem open_shp {n : Nat} {cs : List Value} {y : DataW H × List MemPlace} (hl : cs.length = 2) (hn : DataW.trod enc Tryd.prog w 0 spare held n 60 cs = some y) (hB : Rows.uptoBulk y.1 ≤ 1048576) : ∃ x, rShp.den (Old w) cs x := by
  obtain ⟨xs, m, rfl, rfl, _, hxl, hf⟩ := DataW.trod_struct Tryd.underlying60 hn
  match cs, hl, xs, hxl with
  | [c0, c1], _, [x0, x1], _ =>
    have g0 := hf 0 _ rfl
    have g1 := hf 1 _ rfl
    simp [show Tryd.prog.cellsOf 3 = 1 by kernel_rfl, show Tryd.prog.cellsOf 58 = 1 by kernel_rfl] at g0 g1
    obtain ⟨z0, e0, w0⟩ := open_i g0
    obtain ⟨l, a, cap, e3, hs⟩ := open_sl (rSl rBool) Nat.one_pos Tryd.underlying58 (by kernel_rfl) (fun cs n y hl hn hb => by
      match cs, hl with
      | [c], _ => exact open_bools hn hb) g1 (agg_part (x := x1) (by simp) hB)
    simp at e0 e3
    subst e0 e3
    exact ⟨⟨z0, l⟩, a, cap, rfl, hs, w0⟩
theorem open_nd {n : Nat} {cs : List Value} {y : DataW H × List MemPlace} (hl : cs.length = 3) (hn : DataW.trod enc Tryd.prog w 0 spare held n 47 cs = some y) (hB : Rows.uptoBulk y.1 ≤ 1048576) : ∃ x, rNd.den (Old w) cs x := by
  obtain ⟨xs, m, rfl, rfl, _, hxl, hf⟩ := DataW.trod_struct Tryd.underlying47 hn
  match cs, hl, xs, hxl with
  | [c0, c1, c2], _, [x0, x1, x2], _ =>
    have g0 := hf 0 _ rfl
    have g1 := hf 1 _ rfl
    have g2 := hf 2 _ rfl
    simp [show Tryd.prog.cellsOf 3 = 1 by kernel_rfl] at g0 g1 g2
    obtain ⟨z0, e0, w0⟩ := open_i g0
    obtain ⟨z1, e1, w1⟩ := open_i g1
    obtain ⟨z2, e2, w2⟩ := open_i g2
    simp at e0 e1 e2
    subst e0 e1 e2
    exact ⟨⟨z0, z1, z2⟩, rfl, w0, w1, w2⟩
theorem open_prm {n : Nat} {cs : List Value} {y : DataW H × List MemPlace} (hl : cs.length = 2) (hn : DataW.trod enc Tryd.prog w 0 spare held n 77 cs = some y) (hB : Rows.uptoBulk y.1 ≤ 1048576) : ∃ x, rPrm.den (Old w) cs x := by
  obtain ⟨xs, m, rfl, rfl, _, hxl, hf⟩ := DataW.trod_struct Tryd.underlying77 hn
  match cs, hl, xs, hxl with
  | [c0, c1], _, [x0, x1], _ =>
    have g0 := hf 0 _ rfl
    have g1 := hf 1 _ rfl
    simp [show Tryd.prog.cellsOf 3 = 1 by kernel_rfl] at g0 g1
    obtain ⟨z0, e0, w0⟩ := open_i g0
    obtain ⟨z1, e1, w1⟩ := open_i g1
    simp at e0 e1
    subst e0 e1
    exact ⟨⟨z0, z1⟩, rfl, w0, w1⟩
theorem open_flat {n : Nat} {v : Value} {y : DataW H × List MemPlace} (hn : DataW.trod enc Tryd.prog w 0 spare held n 25 [v] = some y) (hB : Rows.uptoBulk y.1 ≤ 1048576) : ∃ l, (rSk rNd).den (Old w) [v] l := by
  obtain ⟨l, a, cap, e, hs⟩ := open_sl rNd (by decide) Tryd.underlying25 (by kernel_rfl) (fun cs n y hl hn hb => open_nd hl hn hb) hn hB
  simp at e
  exact ⟨l, a, cap, by rw [e], open_cap Tryd.underlying25 hn e, hs⟩
theorem open_bare {n : Nat} {v : Value} {y : DataW H × List MemPlace} (hn : DataW.trod enc Tryd.prog w 0 spare held n 30 [v] = some y) (hB : Rows.uptoBulk y.1 ≤ 1048576) : ∃ l, (rSk rNd).den (Old w) [v] l := by
  obtain ⟨l, a, cap, e, hs⟩ := open_sl rNd (by decide) Tryd.underlying30 (by kernel_rfl) (fun cs n y hl hn hb => open_nd hl hn hb) hn hB
  simp at e
  exact ⟨l, a, cap, by rw [e], open_cap Tryd.underlying30 hn e, hs⟩
theorem open_ffn {n : Nat} {cs : List Value} {y : DataW H × List MemPlace} (hl : cs.length = 2) (hn : DataW.trod enc Tryd.prog w 0 spare held n 55 cs = some y) (hB : Rows.uptoBulk y.1 ≤ 1048576) : ∃ x, rFfn.den (Old w) cs x := by
  obtain ⟨xs, m, rfl, rfl, _, hxl, hf⟩ := DataW.trod_struct Tryd.underlying55 hn
  match cs, hl, xs, hxl with
  | [c0, c1], _, [x0, x1], _ =>
    have g0 := hf 0 _ rfl
    have g1 := hf 1 _ rfl
    simp [show Tryd.prog.cellsOf 3 = 1 by kernel_rfl, show Tryd.prog.cellsOf 25 = 1 by kernel_rfl] at g0 g1
    obtain ⟨z0, e0, w0⟩ := open_i g0
    obtain ⟨l, a, cap, e3, hc, hs⟩ := open_flat g1 (agg_part (x := x1) (by simp) hB)
    simp at e0 e3
    subst e0 e3
    exact ⟨⟨z0, l⟩, a, cap, rfl, hs, w0, hc⟩

theorem open_flt {v : Value} {r : Reach} {b0 : Nat} {d : DataW H} {ps : List MemPlace} (hval : Value.okWide Tryd.prog w r b0 27 v) (h : DataW.Trod enc Tryd.prog w 0 spare held 27 v d ps) (hB : Rows.uptoBulk d ≤ 1048576) :
    ∃ (cs : List Value) (x : Flt), v = .agg cs.toArray ∧ rFlt.den (Old w) cs x := by
  obtain ⟨cs, rfl, hs⟩ := okWide_struct Tryd.underlying27 hval
  obtain ⟨fuel, hf0⟩ := h
  obtain ⟨xs, m, rfl, hx, hl, hxl, hf⟩ := DataW.trod_struct Tryd.underlying27 hf0
  have hsz : cs.size = 3 := by rw [hs]; kernel_rfl
  obtain ⟨cs⟩ := cs
  match cs, hsz, xs, hxl with
  | [c0, c1, c2], _, [x0, x1, x2], _ =>
    have hd : d = .agg ([x0, x1, x2].map (·.1)) := (Prod.mk.injEq .. ▸ hx).1
    rw [hd] at hB
    have g0 := hf 0 _ rfl
    have g1 := hf 1 _ rfl
    have g2 := hf 2 _ rfl
    simp [Value.cells, show Tryd.prog.cellsOf 22 = 1 by kernel_rfl, show Tryd.prog.cellsOf 23 = 1 by kernel_rfl, show Tryd.prog.cellsOf 25 = 1 by kernel_rfl] at g0 g1 g2
    obtain ⟨l1, a1, c1', e1, s1⟩ := open_sl rFfn (by decide) Tryd.underlying22 (by kernel_rfl) (fun cs n y hl hn hb => open_ffn hl hn hb) g0 (agg_part (x := x0) (by simp) hB)
    obtain ⟨l2, a2, c2', e2, s2⟩ := open_sl (rSk rNd) Nat.one_pos Tryd.underlying23 (by kernel_rfl) (fun cs n y hl hn hb => by
      match cs, hl with
      | [c], _ => exact open_flat hn hb) g1 (agg_part (x := x1) (by simp) hB)
    obtain ⟨l3, a3, c3', e3, hc, s3⟩ := open_flat g2 (agg_part (x := x2) (by simp) hB)
    simp at e1 e2 e3
    subst e1 e2 e3
    exact ⟨_, ⟨l1, l2, l3⟩, rfl, a1, c1', a2, c2', a3, c3', rfl, s1, s2, s3, hc⟩
theorem open_brd {v : Value} {r : Reach} {b0 : Nat} {d : DataW H} {ps : List MemPlace} (hval : Value.okWide Tryd.prog w r b0 33 v) (h : DataW.Trod enc Tryd.prog w 0 spare held 33 v d ps) (hB : Rows.uptoBulk d ≤ 1048576) :
    ∃ (cs : List Value) (x : Brd), v = .agg cs.toArray ∧ rBrd.den (Old w) cs x := by
  obtain ⟨cs, rfl, hs⟩ := okWide_struct Tryd.underlying33 hval
  obtain ⟨fuel, hf0⟩ := h
  obtain ⟨xs, m, rfl, hx, hl, hxl, hf⟩ := DataW.trod_struct Tryd.underlying33 hf0
  have hsz : cs.size = 5 := by rw [hs]; kernel_rfl
  obtain ⟨cs⟩ := cs
  match cs, hsz, xs, hxl with
  | [c0, c1, c2, c3, c4], _, [x0, x1, x2, x3, x4], _ =>
    have hd : d = .agg ([x0, x1, x2, x3, x4].map (·.1)) := (Prod.mk.injEq .. ▸ hx).1
    rw [hd] at hB
    have g0 := hf 0 _ rfl
    have g1 := hf 1 _ rfl
    have g2 := hf 2 _ rfl
    have g3 := hf 3 _ rfl
    have g4 := hf 4 _ rfl
    simp [Value.cells, show Tryd.prog.cellsOf 3 = 1 by kernel_rfl, show Tryd.prog.cellsOf 28 = 1 by kernel_rfl, show Tryd.prog.cellsOf 29 = 1 by kernel_rfl, show Tryd.prog.cellsOf 30 = 1 by kernel_rfl, show Tryd.prog.cellsOf 31 = 1 by kernel_rfl] at g0 g1 g2 g3 g4
    obtain ⟨l1, a1, c1', e1, s1⟩ := open_sl (rSk rNd) Nat.one_pos Tryd.underlying28 (by kernel_rfl) (fun cs n y hl hn hb => by
      match cs, hl with
      | [c], _ => exact open_bare hn hb) g0 (agg_part (x := x0) (by simp) hB)
    obtain ⟨l2, a2, c2', e2, s2⟩ := open_sl rShp (by decide) Tryd.underlying29 (by kernel_rfl) (fun cs n y hl hn hb => open_shp hl hn hb) g1 (agg_part (x := x1) (by simp) hB)
    obtain ⟨l3, a3, c3', e3, hc3, s3⟩ := open_bare g2 (agg_part (x := x2) (by simp) hB)
    obtain ⟨z3, e4, w3⟩ := open_i g3
    obtain ⟨l4, a4, c4', e5, s4⟩ := open_sl rPrm (by decide) Tryd.underlying31 (by kernel_rfl) (fun cs n y hl hn hb => open_prm hl hn hb) g4 (agg_part (x := x4) (by simp) hB)
    have hc4 := open_cap Tryd.underlying31 g4 (by simpa using e5)
    simp at e1 e2 e3 e4 e5
    subst e1 e2 e3 e4 e5
    exact ⟨_, ⟨l1, l2, l3, z3, l4⟩, rfl, a1, c1', a2, c2', a3, c3', a4, c4', rfl, s1, s2, s3, s4, w3, hc3, hc4⟩
end
end Go.Proofs.YtjpdkcejkogciaaDoor

