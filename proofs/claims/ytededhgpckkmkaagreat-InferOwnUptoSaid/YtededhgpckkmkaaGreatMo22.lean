import Derived.Test.YtededhgpckkmkaaGreatMo21
import Derived.Test.YtededhgpckkmkaaGreatRows
import Derived.ProofKit
import Derived.OpenShut
import Derived.Deep.Slices
import Derived.JoinedCond
set_option linter.unusedVariables false
set_option linter.unusedSimpArgs false
namespace Go.Proofs.YtededhgpckkmkaaGreat
open Go.Wx Cd Tm Lv
def jc' (lim : Int) : List (List Nd) → Int → Int
 | [], a => a
 | l :: r, a => if a < lim then jc' lim r (a + 1 + (l.length : Int)) else a
def szC (lim : Int) : List CtT → Int → Int
 | [], a => a
 | c :: r, a => if a < lim then szC lim r (a + 1 + jc' lim c.args 0 + jc' lim c.out 0) else a
def szE (lim : Int) : List EnT → Int → Int
 | [], a => a
 | x :: r, a => if a < lim then szE lim r (szC lim x.ctors (a + 1 + (x.sort.length : Int) + (x.type.length : Int) + (x.body.length : Int) + jc' lim x.params 0 + jc' lim x.indices 0)) else a
def mO' (B : BoT) (lim : Int) : Int := szE lim B.ents ((B.orders.length : Int) + (B.prims.length : Int))
theorem sE' {lim a : Int} (h : ¬ a < lim) : ∀ (l : List (List Nd)), jc' lim l a = a
 | [] => rfl
 | l :: r => by simp only [jc']; rw [if_neg h]
theorem qG' {lim a : Int} (h : ¬ a < lim) : ∀ (l : List CtT), szC lim l a = a
 | [] => rfl
 | l :: r => by simp only [szC]; rw [if_neg h]
theorem qH' {lim a : Int} (h : ¬ a < lim) : ∀ (l : List EnT), szE lim l a = a
 | [] => rfl
 | l :: r => by simp only [szE]; rw [if_neg h]
section
variable {C : Mem} {w : World} {B : BoT}
set_option maxRecDepth 20000 in
theorem fU' (hS : Sub C w) {ls : List (List Nd)} {vl : Value} (hl : SV (rSk rNd) C ls vl) {lim : Int} (h0 : 0 ≤ lim ∧ lim ≤ 100000) :
  ai' Tryz.prog 37 ∧ Calls Tryz.prog 37 #[vl, .int .i64 lim] w (fun e w' => (e = .returned (.int .i64 (jc' lim ls 0)) ∧ 0 ≤ jc' lim ls 0 ∧ jc' lim ls 0 ≤ 1200000000000) ∧ Kp [] w w') := by
 refine ⟨⟨_, Tryz.func37, rfl, by decide⟩, ?_⟩
 obtain ⟨RES, hRES⟩ : ∃ r, jc' lim ls 0 = r := ⟨_, rfl⟩
 rw [hRES]
 have hll := hl
 obtain ⟨al, cl, rfl, hl1, hl2⟩ := hl
 have l1 := hl1.1
 refine af' (args := [_, _]) 27 [.tmp 4] τok Tryz.func37 rfl rfl rfl (Nat.le_of_ble_eq_true rfl) ?_
 refine lp τok (σ := Nat × Int) (fun q => [(0, .slice al ls.length cl), (1, .int .i64 lim), (5, .int .i64 q.2), (6, .int .i64 (q.1 : Int))])
  (fun q w' => q.1 ≤ ls.length ∧ 0 ≤ q.2 ∧ q.2 ≤ 1200000000000 ∧ Kp [] w w' ∧ jc' lim (ls.drop q.1) q.2 = RES) (fun q => ls.length - q.1) (0, 0) rfl
  ⟨rfl, rfl, rfl, rfl, trivial⟩ ⟨Nat.zero_le _, Int.le_refl _, by decide, Kp.refl _ _, hRES⟩ ?_
 clear hRES
 rintro ⟨i, a⟩ w1 ⟨hi, ha0, ha1, hk1, hres⟩
 simp only at hi ha0 ha1 hres
 have fin : jc' lim (ls.drop i) a = a → (Ending.returned (Go.Wx.one [.int .i64 a]) = .returned (.int .i64 RES) ∧ 0 ≤ RES ∧ RES ≤ 1200000000000) ∧ Kp [] w w1 := fun h => by
  rw [h] at hres
  subst hres
  exact ⟨⟨rfl, ha0, ha1⟩, hk1⟩
 refine ac' (fun g => ?_) (fun g => ?_)
 ·have g : (i : Int) < (ls.length : Int) := g
  refine ac' (fun g2 => ?_) (fun g2 => ?_)
  ·have g2 : a < lim := g2
   obtain ⟨l, hl, hd⟩ := ag' (l := ls) (k := i) (by omega)
   rw [hd] at hres
   simp only [jc'] at hres
   rw [if_pos g2] at hres
   obtain ⟨b, o, c, pc, u, hu, hsu⟩ := pd' hll hl
   injection pc with q1 q2 q3
   subst q1 q3
   obtain ⟨au, cu, rfl, hu1, _⟩ := id hsu
   have lu := hu1.1
   refine aj' (by omega) (by omega) ?_
   refine ix i rfl (by omega) ?_
   refine ld (Cl.cell (hS.tr hk1 _ _ _ hu)) ?_
   refine aj' (by omega) (by omega) ?_
   refine aj' (by omega) (by omega) ?_
   exact ⟨(i + 1, a + 1 + (l.length : Int)), by simp only; omega, rfl, ⟨rfl, rfl, rfl, rfl, trivial⟩, by show i + 1 ≤ _; omega, by simp only; omega, by simp only; omega, hk1, hres⟩
  ·have g2 : ¬ a < lim := g2
   exact fin (sE' g2 _)
 ·have g : ¬ (i : Int) < (ls.length : Int) := g
  exact fin (by rw [List.drop_eq_nil_of_le (by omega)]; rfl)
set_option maxRecDepth 20000 in
set_option maxHeartbeats 1000000 in
theorem sF' (hS : Sub C w) {vb : Value} (hvb : BoV C B vb) {lim : Int} (h0 : 0 ≤ lim ∧ lim ≤ 100000) :
  ai' Tryz.prog 19 ∧ Calls Tryz.prog 19 #[vb, .int .i64 lim] w (fun e w' => e = .returned (.int .i64 (mO' B lim)) ∧ Kp [] w w') := by
 refine ⟨⟨_, Tryz.func19, rfl, by decide⟩, ?_⟩
 obtain ⟨RES, hRES⟩ : ∃ r, mO' B lim = r := ⟨_, rfl⟩
 rw [hRES]
 unfold mO' at hRES
 obtain ⟨v1, v2, v3, rfl, hO, hE, hP⟩ := hvb
 obtain ⟨ao, co, rfl, hO1, _⟩ := id hO
 obtain ⟨ae, ce, rfl, hE1, _⟩ := id hE
 obtain ⟨ap, cp, rfl, hP1, _⟩ := id hP
 have lO := hO1.1
 have lE := hE1.1
 have lP := hP1.1
 refine af' (args := [_, _]) 90 [.tmp 4] τok Tryz.func19 rfl rfl rfl (Nat.le_of_ble_eq_true rfl) ?_
 refine new fun b2 w1 hb2 h2 hs1 hk1 => ?_
 have h2 : Bk w1.heap b2 [.int .i64 B.vars, .slice ao B.orders.length co, .slice ae B.ents.length ce, .int .i64 B.nat, .slice ap B.prims.length cp] 26 := h2
 refine ld (Cl.cell (h2.cl rfl)) ?_
 refine ld (Cl.cell (h2.cl rfl)) ?_
 refine aj' (by omega) (by omega) ?_
 refine lp τok (σ := Nat × Int) (fun q => [(1, .int .i64 lim), (2, pt b2), (5, .int .i64 q.2), (6, .int .i64 (q.1 : Int))])
  (fun q w' => q.1 ≤ B.ents.length ∧ 0 ≤ q.2 ∧ q.2 ≤ 100000000000000 ∧ Kp [] w1 w' ∧ szE lim (B.ents.drop q.1) q.2 = RES) (fun q => B.ents.length - q.1) (0, (B.orders.length : Int) + (B.prims.length : Int)) rfl
  ⟨rfl, rfl, rfl, rfl, trivial⟩ ⟨Nat.zero_le _, by simp only; omega, by simp only; omega, Kp.refl _ _, hRES⟩ ?_
 clear hRES
 rintro ⟨i, a⟩ w2 ⟨hi, ha0, ha1, hk2, hres⟩
 simp only at hi ha0 ha1 hres
 have k02 := hk1.tr hk2
 have h22 := h2.kp hk2 (by simp)
 have fin : szE lim (B.ents.drop i) a = a → Ending.returned (Go.Wx.one [.int .i64 a]) = .returned (.int .i64 RES) ∧ Kp [] w w2 := fun h => by
  rw [h] at hres
  subst hres
  exact ⟨rfl, k02⟩
 refine ld (Cl.cell (h22.cl rfl)) ?_
 refine ac' (fun g => ?_) (fun g => ?_)
 ·have g : (i : Int) < (B.ents.length : Int) := g
  refine ac' (fun g2 => ?_) (fun g2 => ?_)
  ·have g2 : a < lim := g2
   obtain ⟨x, hx, hd⟩ := ag' (l := B.ents) (k := i) (by omega)
   rw [hd] at hres
   simp only [szE] at hres
   rw [if_pos g2] at hres
   obtain ⟨be, oe, ce', pe, hat⟩ := hE.at hx
   obtain ⟨w1e, w2e, w3e, w4e, w5e, w6e, hcs, hki, hso, hpa, hin, hct, hty, hbo⟩ := eh' hat
   injection pe with q1 q2 q3
   subst q1 q3
   obtain ⟨as_, cs_, rfl, hso1, _⟩ := id hso
   obtain ⟨apa, cpa, rfl, hpa1, _⟩ := id hpa
   obtain ⟨ain, cin, rfl, hin1, _⟩ := id hin
   obtain ⟨act, cct, rfl, hct1, _⟩ := id hct
   obtain ⟨aty, cty, rfl, hty1, _⟩ := id hty
   obtain ⟨abo, cbo, rfl, hbo1, _⟩ := id hbo
   have m1 := hso1.1
   have m2 := hct1.1
   have m3 := hty1.1
   have m4 := hbo1.1
   refine ld (Cl.cell (h22.cl rfl)) ?_
   refine ix i rfl (by omega) ?_
   refine ldN _ rfl (fun j u hj => (hS.tr k02) _ _ _ (hcs j u hj)) ?_
   refine new fun b7 w3 hb7 h7 hs3 hk3 => ?_
   refine stN (vs := [.int .i64 x.kind, .slice as_ x.sort.length cs_, .slice apa x.params.length cpa, .slice ain x.indices.length cin, .slice act x.ctors.length cct, .slice aty x.type.length cty, .slice abo x.body.length cbo]) h7 rfl (by simp [Value.oneCell']) fun w4 h7 hs4 hk4 => ?_
   have k24 := hk3.newSt hb7 hk4
   have k04 := k02.tr k24
   have h7 : Bk w4.heap b7 [.int .i64 x.kind, .slice as_ x.sort.length cs_, .slice apa x.params.length cpa, .slice ain x.indices.length cin, .slice act x.ctors.length cct, .slice aty x.type.length cty, .slice abo x.body.length cbo] 74 := h7
   refine aA' τok (fun z => Kp [] w4 z) ?_
   refine ah' τok [0, 1, 2, 3, 4, 5, 6, 7, 8, 9, 10, 11, 12, 13, 14, 15, 16, 19, 20, 21] 5 (mB 25 [17, 18, 22, 23, 24]) (by kernel_rfl) (by kernel_rfl) (by kernel_rfl) (by kernel_rfl) (by kernel_rfl) ((Kp.refl [] w4).dr _) ?_
   refine aj' (by omega) (by omega) ?_
   refine ldK (h7.cl rfl) ?_
   refine aj' (by omega) (by omega) ?_
   refine ldK (h7.cl rfl) ?_
   refine aj' (by omega) (by omega) ?_
   refine ldK (h7.cl rfl) ?_
   refine aj' (by omega) (by omega) ?_
   refine ldK (h7.cl rfl) ?_
   refine ldK (h7.cl rfl) ?_
   refine ak' τok 17 4 (mB 25 [18, 22, 23, 24]) rfl rfl rfl (by kernel_rfl) ?_
   refine ab' (fU' (w := { w4 with drawn := w4.drawn + 1 }) (hS.tr (k04.dr _)) hpa h0) ?_
   rintro e w5 ⟨⟨rfl, p0, p1⟩, hk5⟩
   have hk5 : Kp [] w4 w5 := hk5.rd
   refine ⟨.inl hk5, ?_⟩
   refine ah' τok [18] 3 (mB 25 [22, 23, 24]) (by kernel_rfl) (by kernel_rfl) (by kernel_rfl) (by kernel_rfl) (by kernel_rfl) hk5 ?_
   refine aj' (by omega) (by omega) ?_
   refine ak' τok 22 2 (mB 25 [23, 24]) rfl rfl rfl (by kernel_rfl) ?_
   refine ab' (fU' (hS.tr (k04.tr hk5)) hin h0) ?_
   rintro e w6 ⟨⟨rfl, i0, i1⟩, hk6⟩
   have k46 := hk5.tr hk6
   refine ⟨.inl k46, ?_⟩
   refine ah' τok [23, 24] 0 (mB 25 []) (by kernel_rfl) (by kernel_rfl) (by kernel_rfl) (by kernel_rfl) (by kernel_rfl) k46 ?_
   refine aj' (by omega) (by omega) ?_
   refine an' (by kernel_rfl) ?_
   obtain ⟨a1, ha1'⟩ : ∃ a1, a1 = a + 1 + (x.sort.length : Int) + (x.type.length : Int) + (x.body.length : Int) + jc' lim x.params 0 + jc' lim x.indices 0 := ⟨_, rfl⟩
   rw [← ha1'] at hres ⊢
   have k06 := k04.tr k46
   have h7 := h7.kp k46 (by simp)
   obtain ⟨RC, hRC⟩ : ∃ r, szC lim x.ctors a1 = r := ⟨_, rfl⟩
   rw [hRC] at hres
   refine lp τok (σ := Nat × Int) (fun q => [(1, .int .i64 lim), (2, pt b2), (5, .int .i64 q.2), (6, .int .i64 (i : Int)), (7, pt b7), (8, .int .i64 (q.1 : Int))])
    (fun q w' => q.1 ≤ x.ctors.length ∧ 0 ≤ q.2 ∧ q.2 ≤ 100000000000000 ∧ Kp [] w6 w' ∧ szC lim (x.ctors.drop q.1) q.2 = RC) (fun q => x.ctors.length - q.1) (0, a1) rfl
    ⟨rfl, rfl, rfl, rfl, rfl, rfl, trivial⟩ ⟨Nat.zero_le _, by simp only; omega, by simp only; omega, Kp.refl _ _, hRC⟩ ?_
   clear hRC
   rintro ⟨j, a2⟩ w7 ⟨hj, hj0, hj1, hk7, hRC⟩
   simp only at hj hj0 hj1 hRC
   have k07 := k06.tr hk7
   have h77 := h7.kp hk7 (by simp)
   refine ld (Cl.cell (h77.cl rfl)) ?_
   have k17 : Kp [] w1 w7 := (hk2.tr k24).tr (k46.tr hk7)
   have next : szC lim (x.ctors.drop j) a2 = a2 → a2 = RC := fun h => by rw [← hRC, h]
   refine ac' (fun y1 => ?_) (fun y1 => ?_)
   ·have y1 : (j : Int) < (x.ctors.length : Int) := y1
    refine ac' (fun y2 => ?_) (fun y2 => ?_)
    ·have y2 : a2 < lim := y2
     obtain ⟨c, hc, hd⟩ := ag' (l := x.ctors) (k := j) (by omega)
     rw [hd] at hRC
     simp only [szC] at hRC
     rw [if_pos y2] at hRC
     obtain ⟨bc, oc, cc', pc, hca⟩ := hct.at hc
     obtain ⟨va, vo, hccs, hva, hvo⟩ := iA' hca
     injection pc with q1 q2 q3
     subst q1 q3
     obtain ⟨aa, ca, rfl, _, _⟩ := id hva
     obtain ⟨aoo, coo, rfl, _, _⟩ := id hvo
     have hS7 := hS.tr k07
     refine aA' τok (fun z => Kp [] w7 z) ?_
     refine ah' τok [0, 1, 2, 3, 4, 5, 6, 7, 8, 11, 12, 13, 14, 15, 16, 17] 5 (mB 21 [9, 10, 18, 19, 20]) (by kernel_rfl) (by kernel_rfl) (by kernel_rfl) (by kernel_rfl) (by kernel_rfl) ((Kp.refl [] w7).dr _) ?_
     refine aj' (by omega) (by omega) ?_
     refine ldK (h77.cl rfl) ?_
     refine ix j rfl (by omega) ?_
     refine ldK (hS7 _ _ _ (hccs 0 _ rfl)) ?_
     refine ldK (h77.cl rfl) ?_
     refine ix j rfl (by omega) ?_
     refine ldK (hS7 _ _ _ (hccs 1 _ rfl)) ?_
     refine ak' τok 9 4 (mB 21 [10, 18, 19, 20]) rfl rfl rfl (by kernel_rfl) ?_
     refine ab' (fU' (w := { w7 with drawn := w7.drawn + 1 }) (hS.tr (k07.dr _)) hva h0) ?_
     rintro e w8 ⟨⟨rfl, s0, s1⟩, hk8⟩
     have hk8 : Kp [] w7 w8 := hk8.rd
     refine ⟨.inl hk8, ?_⟩
     refine ah' τok [10] 3 (mB 21 [18, 19, 20]) (by kernel_rfl) (by kernel_rfl) (by kernel_rfl) (by kernel_rfl) (by kernel_rfl) hk8 ?_
     refine aj' (by omega) (by omega) ?_
     refine ak' τok 18 2 (mB 21 [19, 20]) rfl rfl rfl (by kernel_rfl) ?_
     refine ab' (fU' (hS7.tr hk8) hvo h0) ?_
     rintro e w9 ⟨⟨rfl, t0, t1⟩, hk9⟩
     have k79 := hk8.tr hk9
     refine ⟨.inl k79, ?_⟩
     refine ah' τok [19, 20] 0 (mB 21 []) (by kernel_rfl) (by kernel_rfl) (by kernel_rfl) (by kernel_rfl) (by kernel_rfl) k79 ?_
     refine aj' (by omega) (by omega) ?_
     refine an' (by kernel_rfl) ?_
     refine aj' (by omega) (by omega) ?_
     exact ⟨(j + 1, a2 + 1 + jc' lim c.args 0 + jc' lim c.out 0), by simp only; omega, rfl, ⟨rfl, rfl, rfl, rfl, rfl, rfl, trivial⟩, by show j + 1 ≤ _; omega, by simp only; omega, by simp only; omega, hk7.tr k79, hRC⟩
    ·have y2 : ¬ a2 < lim := y2
     have := next (qG' y2 _)
     refine aj' (by omega) (by omega) ?_
     exact ⟨(i + 1, a2), by simp only; omega, rfl, ⟨rfl, rfl, rfl, rfl, trivial⟩, by show i + 1 ≤ _; omega, hj0, hj1, k17, by simp only; rw [this]; exact hres⟩
   ·have y1 : ¬ (j : Int) < (x.ctors.length : Int) := y1
    have := next (by rw [List.drop_eq_nil_of_le (by omega)]; rfl)
    refine aj' (by omega) (by omega) ?_
    exact ⟨(i + 1, a2), by simp only; omega, rfl, ⟨rfl, rfl, rfl, rfl, trivial⟩, by show i + 1 ≤ _; omega, hj0, hj1, k17, by simp only; rw [this]; exact hres⟩
  ·have g2 : ¬ a < lim := g2
   exact fin (qH' g2 _)
 ·have g : ¬ (i : Int) < (B.ents.length : Int) := g
  exact fin (by rw [List.drop_eq_nil_of_le (by omega)]; rfl)
end
def szX (lim : Int) : CxR → Int → Int
 | [], a => a
 | q :: r, a => if a < lim then szX lim r (a + 1 + (q.1.length : Int) + (q.2.length : Int)) else a
theorem qI' {lim a : Int} (h : ¬ a < lim) : ∀ (l : CxR), szX lim l a = a
 | [] => rfl
 | l :: r => by simp only [szX]; rw [if_neg h]
section
variable {C : Mem} {w : World} {B : BoT}
set_option maxRecDepth 20000 in
theorem qJ' (hS : Sub C w) {c : CxR} {vl : Value} (hl : SV rBd C c vl) {lim : Int} (h0 : 0 ≤ lim ∧ lim ≤ 100000) :
  ai' Tryz.prog 20 ∧ Calls Tryz.prog 20 #[vl, .int .i64 lim] w (fun e w' => e = .returned (.int .i64 (szX lim c 0)) ∧ Kp [] w w') := by
 refine ⟨⟨_, Tryz.func20, rfl, by decide⟩, ?_⟩
 obtain ⟨RES, hRES⟩ : ∃ r, szX lim c 0 = r := ⟨_, rfl⟩
 rw [hRES]
 have hll := hl
 obtain ⟨al, cl, rfl, hl1, hl2⟩ := hl
 have l1 := hl1.1
 refine af' (args := [_, _]) 35 [.tmp 4] τok Tryz.func20 rfl rfl rfl (Nat.le_of_ble_eq_true rfl) ?_
 refine lp τok (σ := Nat × Int) (fun q => [(0, .slice al c.length cl), (1, .int .i64 lim), (5, .int .i64 q.2), (6, .int .i64 (q.1 : Int))])
  (fun q w' => q.1 ≤ c.length ∧ 0 ≤ q.2 ∧ q.2 ≤ 4000000000000 ∧ Kp [] w w' ∧ szX lim (c.drop q.1) q.2 = RES) (fun q => c.length - q.1) (0, 0) rfl
  ⟨rfl, rfl, rfl, rfl, trivial⟩ ⟨Nat.zero_le _, Int.le_refl _, by decide, Kp.refl _ _, hRES⟩ ?_
 clear hRES
 rintro ⟨i, a⟩ w1 ⟨hi, ha0, ha1, hk1, hres⟩
 simp only at hi ha0 ha1 hres
 have fin : szX lim (c.drop i) a = a → Ending.returned (Go.Wx.one [.int .i64 a]) = .returned (.int .i64 RES) ∧ Kp [] w w1 := fun h => by
  rw [h] at hres
  subst hres
  exact ⟨rfl, hk1⟩
 refine ac' (fun g => ?_) (fun g => ?_)
 ·have g : (i : Int) < (c.length : Int) := g
  refine ac' (fun g2 => ?_) (fun g2 => ?_)
  ·have g2 : a < lim := g2
   obtain ⟨q, hq, hd⟩ := ag' (l := c) (k := i) (by omega)
   rw [hd] at hres
   simp only [szX] at hres
   rw [if_pos g2] at hres
   obtain ⟨bc, oc, cc', pc, hat⟩ := hll.at hq
   obtain ⟨vty, vva, hbc, hbt, hbv⟩ := og' hat
   injection pc with q1 q2 q3
   subst q1 q3
   obtain ⟨aty, cty, rfl, ht1, _⟩ := id hbt
   obtain ⟨ava, cva, rfl, hv1, _⟩ := id hbv
   have lt1 := ht1.1
   have lv1 := hv1.1
   have hS1 := hS.tr hk1
   refine aA' τok (fun z => Kp [] w1 z) ?_
   refine ah' τok [0, 1, 2, 3, 4, 5, 6, 7, 8, 9, 10, 11, 12, 13, 14, 15, 16] 0 (mB 17 []) (by kernel_rfl) (by kernel_rfl) (by kernel_rfl) (by kernel_rfl) (by kernel_rfl) ((Kp.refl [] w1).dr _) ?_
   refine aj' (by omega) (by omega) ?_
   refine ix i rfl (by omega) ?_
   refine ldK (hS1 _ _ _ (hbc 0 _ rfl)) ?_
   refine aj' (by omega) (by omega) ?_
   refine ix i rfl (by omega) ?_
   refine ldK (hS1 _ _ _ (hbc 1 _ rfl)) ?_
   refine aj' (by omega) (by omega) ?_
   refine an' (by kernel_rfl) ?_
   refine aj' (by omega) (by omega) ?_
   exact ⟨(i + 1, a + 1 + (q.1.length : Int) + (q.2.length : Int)), by simp only; omega, rfl, ⟨rfl, rfl, rfl, rfl, trivial⟩, by show i + 1 ≤ _; omega, by simp only; omega, by simp only; omega, hk1.dr _, hres⟩
  ·have g2 : ¬ a < lim := g2
   exact fin (qI' g2 _)
 ·have g : ¬ (i : Int) < (c.length : Int) := g
  exact fin (by rw [List.drop_eq_nil_of_le (by omega)]; rfl)
end
structure CaT where
 book : BoT
 ctx : CxR
 term : List Nd
 type : List Nd
 fuel : Int
def CaV (C : Mem) (x : CaT) (v : Value) : Prop :=
 ∃ v1 v2 v3 vc vt vy, v = .agg #[.int .i64 x.book.vars, v1, v2, .int .i64 x.book.nat, v3, vc, vt, vy, .int .i64 x.fuel] ∧ SV rOr C x.book.orders v1 ∧ SV rEn C x.book.ents v2 ∧ SV rPr C x.book.prims v3 ∧ SV rBd C x.ctx vc ∧ SV rNd C x.term vt ∧ SV rNd C x.type vy ∧ I64 x.fuel
def kl' (x : CaT) : Bool := decide (2500 ≤ mO' x.book 2500) || (decide (1500 ≤ szX 1500 x.ctx 0) || (decide (300 < x.ctx.length) || (decide (1500 < x.term.length + x.type.length) || decide (300 < x.fuel))))
section
variable {C : Mem} {w : World} {x : CaT}
set_option maxRecDepth 20000 in
theorem qK' (hS : Sub C w) {v : Value} (hv : CaV C x v) :
  ai' Tryz.prog 8 ∧ Calls Tryz.prog 8 #[v] w (fun e w' => e = .returned (.bool (kl' x)) ∧ Kp [] w w') := by
 refine ⟨⟨_, Tryz.func8, rfl, by decide⟩, ?_⟩
 obtain ⟨RES, hRES⟩ : ∃ r, kl' x = r := ⟨_, rfl⟩
 rw [hRES]
 unfold kl' at hRES
 obtain ⟨v1, v2, v3, vc, vt, vy, rfl, hO, hE, hP, hC, hT, hY, hf⟩ := hv
 obtain ⟨ac, cc, rfl, _, _⟩ := id hC
 obtain ⟨at_, ct_, rfl, ht1, _⟩ := id hT
 obtain ⟨ay, cy, rfl, hy1, _⟩ := id hY
 have lt := ht1.1
 have ly := hy1.1
 have tt : ∀ {w'}, Kp [] w w' → RES = true → Ending.returned (Go.Wx.one [.bool true]) = .returned (.bool RES) ∧ Kp [] w w' := fun k h => by subst h; exact ⟨rfl, k⟩
 refine af' (args := [_]) 34 [.tmp 2] τok Tryz.func8 rfl rfl rfl (Nat.le_of_ble_eq_true rfl) ?_
 refine new fun b1 w1 hb1 h1 hs1 hk1 => ?_
 have h1 : Bk w1.heap b1 [.int .i64 x.book.vars, v1, v2, .int .i64 x.book.nat, v3, .slice ac x.ctx.length cc, .slice at_ x.term.length ct_, .slice ay x.type.length cy, .int .i64 x.fuel] 31 := h1
 refine ldN [.int .i64 x.book.vars, v1, v2, .int .i64 x.book.nat, v3] rfl (fun j u hj => by
  refine h1.cl ?_
  rw [Nat.zero_add]
  match j, hj with
  | 0, hj => exact hj
  | 1, hj => exact hj
  | 2, hj => exact hj
  | 3, hj => exact hj
  | 4, hj => exact hj
  | j + 5, hj => cases hj) ?_
 refine ab' (sF' (B := x.book) (hS.tr hk1) ⟨v1, v2, v3, rfl, hO, hE, hP⟩ (lim := 2500) (by omega)) ?_
 rintro e w2 ⟨rfl, hk2⟩
 have k02 := hk1.tr hk2
 have h1 := h1.kp hk2 (by simp)
 refine ac' (fun g => ?_) (fun g => ?_)
 ·have g : 2500 ≤ mO' x.book 2500 := g
  rw [decide_eq_true g] at hRES
  exact tt k02 (by rw [← hRES]; rfl)
 have g : ¬ 2500 ≤ mO' x.book 2500 := g
 rw [decide_eq_false g, Bool.false_or] at hRES
 refine ld (Cl.cell (h1.cl rfl)) ?_
 refine ab' (qJ' (hS.tr k02) hC (lim := 1500) (by omega)) ?_
 rintro e w3 ⟨rfl, hk3⟩
 have k03 := k02.tr hk3
 have h1 := h1.kp hk3 (by simp)
 refine ac' (fun g2 => ?_) (fun g2 => ?_)
 ·have g2 : 1500 ≤ szX 1500 x.ctx 0 := g2
  rw [decide_eq_true g2] at hRES
  exact tt k03 (by rw [← hRES]; rfl)
 have g2 : ¬ 1500 ≤ szX 1500 x.ctx 0 := g2
 rw [decide_eq_false g2, Bool.false_or] at hRES
 refine ld (Cl.cell (h1.cl rfl)) ?_
 refine ac' (fun g3 => ?_) (fun g3 => ?_)
 ·have g3 : (300 : Int) < (x.ctx.length : Int) := g3
  rw [decide_eq_true (by omega)] at hRES
  exact tt k03 (by rw [← hRES]; rfl)
 have g3 : ¬ (300 : Int) < (x.ctx.length : Int) := g3
 rw [decide_eq_false (by omega), Bool.false_or] at hRES
 refine ld (Cl.cell (h1.cl rfl)) ?_
 refine ld (Cl.cell (h1.cl rfl)) ?_
 refine aj' (by omega) (by omega) ?_
 refine ac' (fun g4 => ?_) (fun g4 => ?_)
 ·have g4 : (1500 : Int) < (x.term.length : Int) + (x.type.length : Int) := g4
  rw [decide_eq_true (by omega)] at hRES
  exact tt k03 (by rw [← hRES]; rfl)
 have g4 : ¬ (1500 : Int) < (x.term.length : Int) + (x.type.length : Int) := g4
 rw [decide_eq_false (by omega), Bool.false_or] at hRES
 refine ld (Cl.cell (h1.cl rfl)) ?_
 subst hRES
 exact ⟨rfl, k03⟩
end
def B0 : BoT := ⟨0, [], [], -1, []⟩
def r1 : List Nd := [⟨2, 1, 1⟩, ⟨3, 0, 0⟩]
def r2 : List Nd := [⟨6, 0, 0⟩, ⟨2, 0, 1⟩, ⟨3, 0, 0⟩, ⟨2, 1, 1⟩, ⟨3, 0, 0⟩]
def x1 : Tr := .mk ⟨2, 1, 1⟩ [.mk ⟨3, 0, 0⟩ []]
def x0 : Tr := .mk ⟨2, 0, 1⟩ [.mk ⟨3, 0, 0⟩ []]
def x2 : Tr := .mk ⟨6, 0, 0⟩ [x0, x1]
theorem tS' : Ok .tm x1 := by
 refine ⟨⟨rfl, ⟨rfl, trivial⟩, trivial⟩, rfl⟩
theorem tT' : Ok .tm x2 := by
 refine ⟨⟨rfl, ⟨rfl, ⟨rfl, trivial⟩, trivial⟩, ⟨rfl, ⟨rfl, trivial⟩, trivial⟩, trivial⟩, rfl⟩
theorem ru' : row x1 = r1 := rfl
theorem rv' : row x2 = r2 := rfl
theorem rw' : aY' B0 = 0 := by rfl
theorem uA' : Ft (QB B0) 0 x1 := ⟨tS', by decide, fun q hq => by simp [x1, varsT, varsK] at hq, fun m hm => by
 rw [ru'] at hm
 simp only [r1, List.mem_cons, List.not_mem_nil, or_false] at hm
 rcases hm with rfl | rfl <;> rfl⟩
theorem uB' : Ft (QB B0) 0 x2 := ⟨tT', by decide, fun q hq => by simp [x2, x0, x1, varsT, varsK] at hq, fun m hm => by
 rw [rv'] at hm
 simp only [r2, List.mem_cons, List.not_mem_nil, or_false] at hm
 rcases hm with rfl | rfl | rfl | rfl | rfl <;> rfl⟩
theorem uC' : bE' B0 [] r1 = 0 := by
 have := iV' rw' (c := []) (fun i q hq => by simp at hq) (by simp) (x := x1) (by simpa using uA')
 rwa [ru'] at this
theorem uD' : bE' B0 [] r2 = 0 := by
 have := iV' rw' (c := []) (fun i q hq => by simp at hq) (by simp) (x := x2) (by simpa using uB')
 rwa [rv'] at this
theorem mP' {B : BoT} {cx : Ctx} {x : Tr} {f : Int} (hp : ea' x = none) (hr : cX' B cx x = false) : whnfTop B cx x f = .ok (x, aR' f) := by
 have hg := tz'
 obtain ⟨g, hgw⟩ : ∃ g, GW = g + 1 := ⟨GW - 1, by omega⟩
 unfold whnfTop
 rw [hgw]
 simp only [whnfG, preW, hp, eM']
 rw [if_neg (by rw [hr]; simp)]
theorem uE' : dv' B0 [] r1 3 = .ok (.mk ⟨2, 1, 1⟩ [.mk ⟨3, 0, 1⟩ []], 3) := by
 unfold dv'
 rw [if_neg (by rw [uC']; simp)]
 have ht : tr r1 = x1 := dE' tS'
 rw [ht]
 have hg := qz'
 obtain ⟨g, hgj⟩ : ∃ g, GJ = g + 1 := ⟨GJ - 1, by omega⟩
 unfold dH'
 rw [hgj]
 simp only [bm']
 unfold cL'
 rw [if_neg (by decide), if_pos (by decide)]
 rfl
theorem uF' : dv' B0 [] r2 3 = .error 12 := by
 unfold dv'
 rw [if_neg (by rw [uD']; simp)]
 have ht : tr r2 = x2 := dE' tT'
 rw [ht]
 have hg := qz'
 obtain ⟨g, hgj⟩ : ∃ g, GJ = g + 1 + 1 := ⟨GJ - 2, by omega⟩
 unfold dH'
 rw [hgj]
 simp only [bm']
 unfold cL'
 rw [if_neg (by decide), if_neg (by decide), if_neg (by decide), if_neg (by decide), if_neg (by decide), if_neg (by decide), if_neg (by decide), if_pos (by decide)]
 unfold sW'
 have h1 : bm' B0 (g + 1) (cxR []) (kidD x2 0) (aR' 3) = .ok (.mk ⟨2, 1, 1⟩ [.mk ⟨3, 0, 1⟩ []], 3) := by
  simp only [bm']
  unfold cL'
  rw [if_neg (by decide), if_pos (by decide)]
  rfl
 have h2 : ec' B0 (cxR []) (.mk ⟨2, 1, 1⟩ [.mk ⟨3, 0, 1⟩ []]) 3 = .ok (.mk ⟨2, 1, 1⟩ [.mk ⟨3, 0, 1⟩ []], 3) := by
  unfold ec'
  rw [if_neg (by decide), mP' (by rfl) (by rfl)]
  rfl
 show bdJ (bm' B0 (g + 1) (cxR []) (kidD x2 0) (aR' 3)) _ = _
 rw [h1, bp', h2, bp']
 rfl
theorem pf' {w : World} {b T : Nat} {l : List Nd} (hb : Bk w.heap b (l.flatMap fun m => [.int .i64 m.op, .int .i64 m.a, .int .i64 m.b]) T) (hi : ∀ m ∈ l, I64 m.op ∧ I64 m.a ∧ I64 m.b) (hl : l.length ≤ 1000) : SV rNd (Im [] w) l (.slice (some ⟨b, 0, none⟩) l.length l.length) := by
 refine ⟨_, _, rfl, ⟨by omega, .inr ⟨b, 0, rfl, fun i m hm => ⟨_, ⟨rfl, hi m (List.mem_of_getElem? hm)⟩, fun j u hj => ⟨?_, by simp⟩⟩⟩⟩, Nat.le_refl _⟩
 rw [Nat.zero_add]
 refine hb.cl ?_
 have hlen : ∀ (l : List Nd), (l.flatMap fun m => [Value.int .i64 m.op, .int .i64 m.a, .int .i64 m.b]).length = l.length * 3 := by
  intro l
  induction l with
  | nil => rfl
  | cons a l ih => simp only [List.flatMap_cons, List.length_append, ih, List.length_cons, List.length_nil]; omega
 have : ∀ (l : List Nd) (i : Nat), l[i]? = some m → ∀ (j : Nat) u, [Value.int .i64 m.op, .int .i64 m.a, .int .i64 m.b][j]? = some u → (l.flatMap fun m => [Value.int .i64 m.op, .int .i64 m.a, .int .i64 m.b])[i * 3 + j]? = some u := by
  intro l
  induction l with
  | nil => intro i h; simp at h
  | cons a l ih =>
   intro i h j u hj
   have hj3 := aq' hj
   cases i with
   | zero =>
    simp only [List.getElem?_cons_zero, Option.some.injEq] at h
    subst h
    rw [Nat.zero_mul, Nat.zero_add, List.flatMap_cons, List.getElem?_append_left (by simpa using hj3)]
    exact hj
   | succ i =>
    simp only [List.getElem?_cons_succ] at h
    have := ih i h j u hj
    rw [List.flatMap_cons, List.getElem?_append_right (by simp; omega)]
    rw [show (i + 1) * 3 + j - [Value.int .i64 a.op, .int .i64 a.a, .int .i64 a.b].length = i * 3 + j by simp; omega]
    exact this
 exact this l i hm j u hj
theorem b0_v {C : Mem} : BoV C B0 (.agg #[.int .i64 0, .slice none 0 0, .slice none 0 0, .int .i64 (-1), .slice none 0 0]) := ⟨_, _, _, rfl, SV.nil _ _, SV.nil _ _, SV.nil _ _⟩
set_option maxRecDepth 20000 in
theorem qL' (w : World) :
  ai' Tryz.prog 7 ∧ Calls Tryz.prog 7 #[] w (fun e w' => e = .returned (.bool true) ∧ Kp [] w w') := by
 refine ⟨⟨_, Tryz.func7, rfl, by decide⟩, ?_⟩
 refine af' (args := []) 45 [.tmp 0] τok Tryz.func7 rfl rfl rfl (Nat.le_of_ble_eq_true rfl) ?_
 refine fill [.int .i64 2, .int .i64 1, .int .i64 1, .int .i64 3, .int .i64 0, .int .i64 0] rfl ?_
 refine new fun b1 w1 hb1 h1 hs1 hk1 => ?_
 have hr1 : SV rNd (Im [] w1) r1 (.slice (some ⟨b1, 0, none⟩) 2 2) := pf' h1 (by simp [r1, I64]) (by decide)
 refine ab' (iZ' (X := []) (B := B0) (c := []) (t := r1) (fuel := 3) (by simp) b0_v (SV.nil _ _) hr1) ?_
 rintro e w2 ⟨he, hk2⟩
 rw [uE'] at he
 obtain ⟨u, rfl, hu⟩ := he
 obtain ⟨au, cu, rfl, hu1, hu2⟩ := hu
 have k02 := hk1.tr hk2
 refine fill [.int .i64 6, .int .i64 0, .int .i64 0, .int .i64 2, .int .i64 0, .int .i64 1, .int .i64 3, .int .i64 0, .int .i64 0, .int .i64 2, .int .i64 1, .int .i64 1, .int .i64 3, .int .i64 0, .int .i64 0] rfl ?_
 refine new fun b3 w3 hb3 h3 hs3 hk3 => ?_
 have hr2 : SV rNd (Im [] w3) r2 (.slice (some ⟨b3, 0, none⟩) 5 5) := pf' h3 (by simp [r2, I64]) (by decide)
 refine ab' (iZ' (X := []) (B := B0) (c := []) (t := r2) (fuel := 3) (by simp) b0_v (SV.nil _ _) hr2) ?_
 rintro e w4 ⟨he, hk4⟩
 rw [uF'] at he
 obtain rfl := he
 have k24 := hk3.tr hk4
 refine fill [.int .i64 2, .int .i64 1, .int .i64 1, .int .i64 3, .int .i64 0, .int .i64 1] rfl ?_
 refine new fun b5 w5 hb5 h5 hs5 hk5 => ?_
 have k25 := k24.tr hk5
 have hr3 : SV rNd (Im [] w5) [⟨2, 1, 1⟩, ⟨3, 0, 1⟩] (.slice (some ⟨b5, 0, none⟩) 2 2) := pf' h5 (by simp [I64]) (by decide)
 obtain ⟨a3, c3, e3, hr3a, hr3b⟩ := hr3
 injection e3 with q1 q2 q3
 subst q1
 have hsm := oA' (w := w5) (C := Im [] w5) (D := Im [] w5) (Im.sub _ _) (Im.sub _ _) (row (.mk ⟨2, 1, 1⟩ [.mk ⟨3, 0, 1⟩ []])) [⟨2, 1, 1⟩, ⟨3, 0, 1⟩] au _ cu c3 (hu1.mono fun _ _ _ h => h.tr k25) hr3a
 rw [← q3] at hsm
 refine ab' hsm ?_
 rintro e w6 ⟨rfl, hk6⟩
 exact ⟨rfl, k02.tr (k25.tr hk6)⟩
def Fue {α : Type} (F : Nat → Except Int (α × Nat)) : Prop := ∀ n a n', n ≤ 100000 → F n = .ok (a, n') → n' ≤ n ∧ ∀ m, m ≤ 100000 → (n - n' ≤ m → F m = .ok (a, m - (n - n'))) ∧ (m < n - n' → F m = .error 10)
theorem bt' {α : Type} {e : Int} : Fue (α := α) fun _ => .error e := fun n a n' hn h => by cases h
theorem aH' {α : Type} {a : α} : Fue fun n => .ok (a, n) := fun n b n' hn h => by
 injection h with h
 injection h with h1 h2
 subst h1 h2
 exact ⟨Nat.le_refl _, fun m hm => ⟨fun _ => by simp, fun h => by omega⟩⟩
theorem fD' {α : Type} {r : Except Int α} : Fue fun n => puJ r n := by
 cases r with
 | error e => exact bt'
 | ok a => exact aH'
theorem aE' {α β : Type} {F : Nat → Except Int (α × Nat)} {K : α → Nat → Except Int (β × Nat)} (hF : Fue F) (hK : ∀ a, Fue (K a)) : Fue fun n => bdJ (F n) K := fun n b n' hn h => by
 obtain ⟨⟨a, n1⟩, h1, h2⟩ := az' h
 obtain ⟨l1, f1⟩ := hF n a n1 hn h1
 obtain ⟨l2, f2⟩ := hK a n1 b n' (by omega) h2
 refine ⟨by omega, fun m hm => ?_⟩
 obtain ⟨p1, p2⟩ := f1 m hm
 constructor
 ·intro hu
  simp only
  rw [p1 (by omega), bp']
  have := (f2 (m - (n - n1)) (by omega)).1 (by omega)
  simp only
  rw [this]
  congr 2
  omega
 ·intro hu
  simp only
  by_cases hq : m < n - n1
  ·rw [p2 hq]
   rfl
  ·rw [p1 (by omega), bp']
   exact (f2 (m - (n - n1)) (by omega)).2 (by omega)
theorem mq' {α : Type} {F : Nat → Except Int (α × Nat)} (hF : Fue F) : Fue fun n => if n = 0 then .error 10 else F (n - 1) := fun n a n' hn h => by
 simp only at h
 split at h
 ·cases h
 rename_i g
 obtain ⟨l1, f1⟩ := hF (n - 1) a n' (by omega) h
 refine ⟨by omega, fun m hm => ⟨fun hu => ?_, fun hu => ?_⟩⟩
 ·simp only
  rw [if_neg (by omega), (f1 (m - 1) (by omega)).1 (by omega)]
  congr 2
  omega
 ·simp only
  split
  ·rfl
  ·exact (f1 (m - 1) (by omega)).2 (by omega)
theorem aw' {α : Type} {c : Prop} [Decidable c] {F G : Nat → Except Int (α × Nat)} (hF : Fue F) (hG : Fue G) : Fue fun n => if c then F n else G n := by
 by_cases h : c
 ·simpa [h] using hF
 ·simpa [h] using hG
theorem aU' {α : Type} {F G : Nat → Except Int (α × Nat)} (h : ∀ n, F n = G n) (hG : Fue G) : Fue F := by
 have : F = G := funext h
 rw [this]
 exact hG
theorem km' {α : Type} {F : Nat → Except Int (α × Nat)} (hF : Fue F) : Fue fun n => F (aR' (n : Int)) := fun n a n' hn h => by
 have e : ∀ m : Nat, m ≤ 100000 → aR' (m : Int) = m := fun m hm => by unfold aR'; omega
 simp only at h
 rw [e n hn] at h
 obtain ⟨l1, f1⟩ := hF n a n' hn h
 exact ⟨l1, fun m hm => by simp only; rw [e m hm]; exact f1 m hm⟩
theorem sG' (m : Except Int (Bool × Nat)) (k : Nat → Except Int (Bool × Nat)) : fh' m k = bdJ m fun b n => if b = true then k n else .ok (false, n) := by
 cases m with
 | error e => rfl
 | ok q => rfl
theorem fn' {F : Nat → Except Int (Bool × Nat)} {K : Nat → Except Int (Bool × Nat)} (hF : Fue F) (hK : Fue K) : Fue fun n => fh' (F n) K :=
 aU' (fun n => sG' _ _) (aE' hF fun b => aw' hK aH')
section
variable {B : BoT}
theorem kn' (cx : Ctx) : ∀ (g : Nat) (x : Tr) (room : Int), Fue (whnfG B cx g x room)
 | 0, x, room => bt'
 | g + 1, x, room => by
  have ih := kn' cx g
  have hpre : Fue (preW (whnfG B cx g) x room) := by
   unfold preW
   cases hp : ea' x with
   | none => exact aH'
   | some p =>
    exact aU' (G := fun n => bdJ (whnfG B cx g p (room - len x + len p) n) fun z n => .ok (dF' x z, n)) (fun n => by
     simp only
     cases whnfG B cx g p (room - len x + len p) n <;> rfl) (aE' (ih _ _) fun a => aH')
  have hpost : ∀ z, Fue fun n => eM' B cx (whnfG B cx g) room (z, n) := fun z => by
   unfold eM'
   simp only
   refine aw' ?_ aH'
   refine aU' (G := fun n => if n = 0 then .error 10 else (fun n => match ownM B cx z with
    | .error e => .error e
    | .ok y => if room < len y then .error 9 else whnfG B cx g y room n) (n - 1)) (fun n => rfl) (mq' (F := fun n => match ownM B cx z with
    | .error e => .error e
    | .ok y => if room < len y then .error 9 else whnfG B cx g y room n) ?_)
   cases ownM B cx z with
   | error e => exact bt'
   | ok y => exact aw' bt' (ih _ _)
  refine aU' (G := fun n => bdJ (preW (whnfG B cx g) x room n) fun z n => eM' B cx (whnfG B cx g) room (z, n)) (fun n => ?_) (aE' hpre hpost)
  simp only [whnfG]
  cases preW (whnfG B cx g) x room n <;> rfl
theorem eo' (cx : Ctx) (x : Tr) : Fue fun n => whnfTop B cx x (n : Int) := km' (kn' cx GW x 4096)
abbrev tU' (rc : RcC) : Prop := ∀ cx x y u, Fue (rc cx x y u)
theorem ja' {rc : RcC} (hr : tU' rc) (cx : Ctx) : ∀ (xs ys : List Tr), Fue (jN' rc cx xs ys)
 | x :: r, y :: s => aU' (fun n => rfl) (fn' (hr cx x y false) (ja' hr cx r s))
 | [], ys => aU' (G := fun n => .ok (true, n)) (fun n => by simp [jN']) aH'
 | x :: r, [] => aU' (G := fun n => .ok (true, n)) (fun n => by simp [jN']) aH'
theorem mr' {rc : RcC} (hr : tU' rc) (cx cx' : Ctx) : ∀ (xs ys : List Tr), Fue (hN' rc cx cx' xs ys)
 | x :: a :: r, y :: b :: s => aU' (fun n => rfl) (fn' (hr cx x y false) (fn' (hr cx' a b false) (mr' hr cx cx' r s)))
 | [], ys => aU' (G := fun n => .ok (true, n)) (fun n => by simp [hN']) aH'
 | [x], ys => aU' (G := fun n => .ok (true, n)) (fun n => by simp [hN']) aH'
 | x :: a :: r, [] => aU' (G := fun n => .ok (true, n)) (fun n => by simp [hN']) aH'
 | x :: a :: r, [y] => aU' (G := fun n => .ok (true, n)) (fun n => by simp [hN']) aH'
theorem mQ' {rc : RcC} (hr : tU' rc) (cx : Ctx) (f h : Tr) (u : Bool) : Fue (dG' B rc cx f h u) := by
 unfold dG'
 refine aw' aH' (aw' (fn' (hr _ _ _ _) (hr _ _ _ _)) (aw' (fn' (hr _ _ _ _) (hr _ _ _ _)) (aw' (aw' ?_ aH') (aw' (ja' hr _ _ _) aH'))))
 unfold gw'
 exact aw' (mr' hr _ _ _ _) aH'
theorem pg' {rc : RcC} (hr : tU' rc) (cx : Ctx) (x y : Tr) (u : Bool) : Fue (jO' B rc cx x y u) := by
 unfold jO'
 exact aw' aH' (fn' (mQ' hr _ _ _ _) (ja' hr _ _ _))
theorem ms' : ∀ (g : Nat), tU' (kT' B g)
 | 0 => fun cx x y u => bt'
 | g + 1 => fun cx x y u => by
  have ih := ms' g
  obtain ⟨H, hH⟩ : ∃ H : Nat → Except Int (Bool × Nat), H = fun (n : Nat) => if row x = row y then .ok (true, n) else if 256 < cx.length then .error 5 else bdJ (whnfTop B cx x (n : Int)) fun p n => bdJ (whnfTop B cx y (n : Int)) fun q n => jO' B (kT' B g) cx p q u n := ⟨_, rfl⟩
  have hf : Fue H := by
   rw [hH]
   exact aw' aH' (aw' bt' (aE' (eo' cx x) fun p => aE' (eo' cx y) fun q => pg' ih cx p q u))
  refine aU' (G := fun n => if n = 0 then .error 10 else H (n - 1)) (fun n => ?_) (mq' hf)
  simp only [kT', hH]
  congr 1
  congr 1
  congr 1
  cases whnfTop B cx x ((n - 1 : Nat) : Int) with
  | error e => rfl
  | ok p =>
   simp only [bp']
   cases whnfTop B cx y (p.2 : Int) <;> rfl
theorem dK' (cx : Ctx) (t : Tr) : Fue (ec' B cx t) := aw' bt' (eo' cx t)
theorem ko' (cx : Ctx) (x y : Tr) (u : Bool) : Fue (dq' B cx x y u) := aw' bt' (km' (ms' GC cx x y u))
abbrev RjFu (rc : RcJ) : Prop := ∀ cx t, Fue (rc cx t)
variable {rc : RcJ} (hr : RjFu rc)
include hr
theorem cZ' (cx : Ctx) (t : Tr) : Fue (el' B rc cx t) := aE' (hr cx t) fun ty => aE' (dK' cx ty) fun z => aw' bt' aH'
theorem dY' (cx : Ctx) (t ty : Tr) : Fue (cz' B rc cx t ty) := aE' (hr cx t) fun z => aE' (ko' cx z ty true) fun b => aw' aH' bt'
omit hr in
theorem kp' (a : Int) (ps : List Tr) (ni : Nat) : ∀ (k i : Nat) (cx : Ctx) (m : Tr), Fue (jV' B a ps ni k i cx m)
 | 0, i, cx, m => aE' (dK' cx m) fun f => aw' bt' aH'
 | k + 1, i, cx, m => aE' (dK' cx m) fun f => aw' bt' (aE' fD' fun w => aE' (ko' cx _ w false) fun b => aw' (kp' a ps ni k (i + 1) _ _) bt')
theorem kq' : ∀ (l : List Tr) (cx : Ctx), Fue (jW' B rc cx l)
 | [], cx => aH'
 | a :: r, cx => aE' (cZ' hr cx a) fun q => aw' aH' (kq' r _)
theorem lg' (a : Int) : Fue (dj' B rc a) := aw' aH' (aw' aH' (kq' hr _ _))
theorem eV' (cx : Ctx) (a : Int) (ps : List Tr) (mo : Tr) : ∀ (l : List Tr) (k : Nat), Fue (aP' B rc cx a ps mo k l)
 | [], k => aH'
 | b :: r, k => aE' fD' fun ty => aE' (dY' hr cx b ty) fun _ => eV' cx a ps mo r (k + 1)
theorem mR' (cx : Ctx) (nd : Nd) (ks : List Tr) : Fue (eP' B rc cx nd ks) := by
 unfold eP'
 simp only
 exact aE' (hr cx _) fun ty => aE' (dK' cx ty) fun z => aw' bt' (aw' bt' (aE' (hr cx _) fun mt => aE' (kp' _ _ _ _ _ _ _) fun kind => aE' (aw' (lg' hr _) aH') fun s => aw' bt' (aE' (eV' hr cx _ _ _ _ _) fun _ => fD')))
theorem ic' (cx : Ctx) (t : Tr) : ∀ (k i : Nat), Fue (fx' B rc cx t k i)
 | 0, i => aH'
 | k + 1, i => aE' (cZ' hr cx _) fun _ => ic' cx t k (i + 1)
theorem gI' (cx : Ctx) (t : Tr) (nb : Nat) : ∀ (k i : Nat), Fue (dk' B rc cx t nb k i)
 | 0, i => aH'
 | k + 1, i => aE' (dY' hr cx _ _) fun _ => gI' cx t nb k (i + 1)
theorem qM' (cx : Ctx) (t : Tr) : Fue (ro' B rc cx t) := aE' (ic' hr cx t _ _) fun _ => aw' bt' (aE' (gI' hr _ t _ _ _) fun _ => aH')
theorem mS' (cx : Ctx) (t : Tr) : Fue (cL' B rc cx t) := by
 unfold cL'
 refine aw' aH' (aw' ?_ (aw' aH' (aw' fD' (aw' fD' (aw' ?_ (aw' ?_ (aw' ?_ (aw' ?_ (aw' (mR' hr cx _ _) (qM' hr cx t))))))))))
 ·exact aw' bt' aH'
 ·exact aE' (cZ' hr cx _) fun p => aE' (cZ' hr _ _) fun q => aw' bt' aH'
 ·exact aE' (cZ' hr cx _) fun p => aE' (hr _ _) fun q => fD'
 ·exact aE' (hr cx _) fun ty => aE' (dK' cx ty) fun z => aw' bt' (aE' (dY' hr cx _ _) fun _ => fD')
 ·exact aE' (cZ' hr cx _) fun p => aE' (dY' hr cx _ _) fun _ => aE' (hr _ _) fun z => fD'
omit hr in
theorem id' : ∀ (g : Nat), RjFu (bm' B g)
 | 0 => fun cx t => bt'
 | g + 1 => fun cx t => mS' (id' g) cx t
end
theorem ph' {B : BoT} {c : CxR} {t : List Nd} {f : Int} (h0 : 0 ≤ f) (h1 : f ≤ 1000) {a : Tr} {n : Nat} (h : dv' B c t f = .ok (a, n)) : (n : Int) ≤ f ∧ (∀ m : Int, 0 ≤ m → m ≤ 1000 → dv' B c t (f + m) = .ok (a, n + m.toNat)) ∧ ((n : Int) ≠ f → dv' B c t (f - n - 1) = .error 10) := by
 unfold dv' at h ⊢
 split at h
 ·cases h
 rename_i g
 simp only [if_neg g]
 have hF : Fue fun n => bm' B GJ (cxR c) (tr t) n := id' GJ _ _
 unfold dH' at h ⊢
 have e : ∀ f : Int, 0 ≤ f → f ≤ 100000 → aR' f = f.toNat := fun f h1 h2 => by unfold aR'; omega
 rw [e f h0 (by omega)] at h
 obtain ⟨l1, f1⟩ := hF f.toNat a n (by omega) h
 refine ⟨by omega, fun m m0 m1 => ?_, fun hn => ?_⟩
 ·rw [e (f + m) (by omega) (by omega)]
  have := (f1 (f + m).toNat (by omega)).1 (by omega)
  simp only at this
  rw [this]
  congr 2
  omega
 ·rw [e (f - n - 1) (by omega) (by omega)]
  exact (f1 (f - n - 1).toNat (by omega)).2 (by omega)
theorem qN' {B : BoT} {c : CxR} {t : List Nd} {f : Int} {er : Int} (h : dv' B c t f = .error er) : er ≠ 0 := by
 unfold dv' at h
 split at h
 ·rename_i g
  injection h with h
  rw [← h]
  exact g
 ·rename_i g
  obtain ⟨hB, _⟩ := eU' (Decidable.not_not.1 g)
  exact (cY' hB GJ).er _ _ _ _ h
theorem bk5 {w : World} {b T : Nat} {x : CaT} {v1 v2 v3 vc vt vy : Value} (h : Bk w.heap b [.int .i64 x.book.vars, v1, v2, .int .i64 x.book.nat, v3, vc, vt, vy, .int .i64 x.fuel] T) : ∀ j u, [Value.int .i64 x.book.vars, v1, v2, .int .i64 x.book.nat, v3][j]? = some u → Cl w.heap b (0 + j) u := fun j u hj => by
 refine h.cl ?_
 rw [Nat.zero_add]
 match j, hj with
 | 0, hj => exact hj
 | 1, hj => exact hj
 | 2, hj => exact hj
 | 3, hj => exact hj
 | 4, hj => exact hj
 | j + 5, hj => cases hj
section
variable {w : World} {x : CaT}
end
section
variable {B : BoT}
theorem pi' {f : Int} (h0 : 0 ≤ f) (h1 : f ≤ 100000) : aR' f = f.toNat := by unfold aR'; omega
theorem mT' {cx : Ctx} (hl : cx.length ≤ 256) (x : Tr) (u : Bool) {n : Nat} (hn : n + 1 ≤ 100000) : dq' B cx x x u (n + 1) = .ok (true, n) := by
 unfold dq' gz'
 rw [if_neg (by omega), pi' (by omega) (by omega)]
 have hg := tI'
 obtain ⟨g, hgc⟩ : ∃ g, GC = g + 1 := ⟨GC - 1, by omega⟩
 rw [hgc]
 simp only [kT']
 rw [if_neg (by omega), if_pos trivial]
 congr 2
theorem kr' {c : CxR} {t : List Nd} {f : Int} {a : Tr} {n : Nat} (h : dv' B c t f = .ok (a, n)) : bE' B c t = 0 ∧ c.length ≤ 256 ∧ bE' B c (row a) = 0 ∧ Ok .tm a ∧ Ft (QB B) (c.length : Int) a ∧ GoodB B ∧ aY' B = 0 ∧ CxOk B (cxR c) ∧ c = (cxR c).map bdR ∧ Ft (QB B) (c.length : Int) (tr t) := by
 unfold dv' at h
 split at h
 ·cases h
 rename_i g
 have g := Decidable.not_not.1 g
 obtain ⟨hB, hr, hl, hce, hcx, hte, hft⟩ := eU' g
 have hF := (cY' hB GJ).ft (cxR c) (tr t) (aR' f) (a, n) hcx (by rw [cB']; omega) (by rw [cB']; exact hft) h
 rw [cB'] at hF
 have hff := iV' hr hcx (by rw [cB']; exact hl) (x := a) (by rw [cB']; exact hF)
 rw [← hce] at hff
 exact ⟨g, hl, hff, hF.ok, hF, hB, hr, hcx, hce, hft⟩
theorem pj' {c : CxR} {t : List Nd} {f : Int} (h0 : 0 ≤ f) (h1 : f ≤ 1000) {a : Tr} {n : Nat} (h : dv' B c t f = .ok (a, n)) : kk' B c t (row a) (f + 1) = .ok ((), n) := by
 obtain ⟨g1, g2, g3, g4, _⟩ := kr' h
 obtain ⟨l1, l2, l3⟩ := ph' h0 h1 h
 have hm := l2 1 (by omega) (by omega)
 unfold kk'
 rw [if_neg (by rw [g1]; simp), if_neg (by rw [g3]; simp), dE' g4]
 unfold dW' cz'
 unfold dv' at hm
 rw [if_neg (by rw [g1]; simp)] at hm
 unfold dH' at hm
 rw [hm, bp']
 have : (n + (1 : Int).toNat : Nat) = n + 1 := rfl
 simp only
 rw [this, mT' (by rw [cB']; exact g2) a true (by omega), bp']
 rfl
end
section
variable {w : World} {x : CaT}
set_option maxRecDepth 20000 in
set_option maxHeartbeats 1000000 in
theorem lh' {v : Value} (hv : CaV (Im [] w) x v) :
  ai' Tryz.prog 5 ∧ Calls Tryz.prog 5 #[v] w (fun e w' => e = .returned (.bool true) ∧ Kp [] w w') := by
 refine ⟨⟨_, Tryz.func5, rfl, by decide⟩, ?_⟩
 have hvv := hv
 obtain ⟨v1, v2, v3, vc, vt, vy, rfl, hO, hE, hP, hC, hT, hY, hf⟩ := hv
 obtain ⟨ac, cc, rfl, _, _⟩ := id hC
 obtain ⟨at_, ct_, rfl, ht1, _⟩ := id hT
 obtain ⟨ay, cy, rfl, hy1, _⟩ := id hY
 have hbo : BoV (Im [] w) x.book (.agg #[.int .i64 x.book.vars, v1, v2, .int .i64 x.book.nat, v3]) := ⟨v1, v2, v3, rfl, hO, hE, hP⟩
 refine af' (args := [_]) 68 [.tmp 2] τok Tryz.func5 rfl rfl rfl (Nat.le_of_ble_eq_true rfl) ?_
 refine new fun b2 w1 hb2 h2 hs1 hk1 => ?_
 have h2 : Bk w1.heap b2 [.int .i64 x.book.vars, v1, v2, .int .i64 x.book.nat, v3, .slice ac x.ctx.length cc, .slice at_ x.term.length ct_, .slice ay x.type.length cy, .int .i64 x.fuel] 31 := h2
 refine ab' (qL' w1) ?_
 rintro e w2 ⟨rfl, hk2⟩
 have k02 := hk1.tr hk2
 have h2 := h2.kp hk2 (by simp)
 refine ldN [.int .i64 x.book.vars, v1, v2, .int .i64 x.book.nat, v3, .slice ac x.ctx.length cc, .slice at_ x.term.length ct_, .slice ay x.type.length cy, .int .i64 x.fuel] rfl (fun j u hj => by rw [Nat.zero_add]; exact h2.cl hj) ?_
 refine ab' (qK' (C := Im [] w) ((Im.sub [] w).tr k02) hvv) ?_
 rintro e w3 ⟨rfl, hk3⟩
 have k03 := k02.tr hk3
 have h2 := h2.kp hk3 (by simp)
 have up3 : ∀ b o v, Im [] w b o v → Im [] w3 b o v := fun b o v h => h.tr k03
 cases hh : kl' x with
 | true => exact ⟨rfl, k03⟩
 | false =>
  have hfu : x.fuel ≤ 300 := by
   unfold kl' at hh
   simp only [Bool.or_eq_false_iff, decide_eq_false_iff_not] at hh
   omega
  refine ld (Cl.cell (h2.cl rfl)) ?_
  refine ac' (fun g1 => ?_) (fun g1 => ?_)
  ·exact ⟨rfl, k03⟩
  have g1 : ¬ x.fuel < 0 := g1
  refine ldN [.int .i64 x.book.vars, v1, v2, .int .i64 x.book.nat, v3] rfl (bk5 h2) ?_
  refine ld (Cl.cell (h2.cl rfl)) ?_
  refine ld (Cl.cell (h2.cl rfl)) ?_
  refine ld (Cl.cell (h2.cl rfl)) ?_
  refine ab' (iZ' (X := []) (B := x.book) (c := x.ctx) (t := x.term) (fuel := x.fuel) (by simp) (hbo.mono up3) (hC.mono up3) (hT.mono up3)) ?_
  rintro e w4 ⟨he, hk4⟩
  have k04 := k03.tr hk4
  cases hr : dv' x.book x.ctx x.term x.fuel with
  | error er =>
   rw [hr] at he
   obtain rfl := he
   refine aC' (p := er ≠ 0) (qN' hr) ?_
   exact ⟨rfl, k04⟩
  | ok q =>
   obtain ⟨a, n⟩ := q
   obtain ⟨f1, f2, f3, f4, f5, _⟩ := kr' hr
   rw [hr] at he
   obtain ⟨u, rfl, hu⟩ := he
   have huu := hu
   obtain ⟨au, cu, rfl, hu1, hu2⟩ := hu
   have h2 := h2.kp hk4 (by simp)
   have up4 : ∀ b o v, Im [] w b o v → Im [] w4 b o v := fun b o v h => h.tr k04
   refine ld (Cl.cell (h2.cl rfl)) ?_
   refine cr' (p := (256 : Int) < (x.ctx.length : Int)) (by omega) ?_
   refine ldN [.int .i64 x.book.vars, v1, v2, .int .i64 x.book.nat, v3] rfl (bk5 h2) ?_
   refine ld (Cl.cell (h2.cl rfl)) ?_
   refine ab' (fT' (C := Im [] w4) (Im.sub [] w4) (fun _ _ _ h => h.hold) (hbo.mono up4) (hC.mono up4) (TmV.sv.1 huu)) ?_
   rintro e w5 ⟨rfl, hk5⟩
   have k05 := k04.tr hk5
   have h2 := h2.kp hk5 (by simp)
   have up5 : ∀ b o v, Im [] w b o v → Im [] w5 b o v := fun b o v h => h.tr k05
   refine cr' (p := bE' x.book x.ctx (row a) ≠ 0) (fun h => h f3) ?_
   refine ldN [.int .i64 x.book.vars, v1, v2, .int .i64 x.book.nat, v3] rfl (bk5 h2) ?_
   refine ld (Cl.cell (h2.cl rfl)) ?_
   refine ld (Cl.cell (h2.cl rfl)) ?_
   refine ld (Cl.cell (h2.cl rfl)) ?_
   refine aj' (by omega) (by omega) ?_
   refine ab' (pe' (X := []) (B := x.book) (c := x.ctx) (t := x.term) (ty := row a) (fuel := x.fuel + 1) (by simp) (hbo.mono up5) (hC.mono up5) (hT.mono up5) ((TmV.sv.1 huu).mono fun _ _ _ h => h.tr hk5)) ?_
   rintro e w6 ⟨he, hk6⟩
   rw [pj' (by omega) (by omega) hr] at he
   obtain rfl := he
   refine ⟨?_, k05.tr hk6⟩
   show Ending.returned (.bool (decide ((n : Int) = (n : Int)))) = _
   rw [decide_eq_true rfl]
end
end Go.Proofs.YtededhgpckkmkaaGreat
namespace Go.Wx
open Go.ChangeShapes Go.WideShapes Go.ChangeAt Go.RowKit
theorem kt' {H : Type} {enc : TypeId × Value → H} {P : Program} (hl : laidOutB P = true) {W W' : World} (hb : Below W.heap.size W W') :
  ∀ (ts : List TypeId) (vs : List Value) (ds : List (DataW H)) (ps : List MemPlace), (ts.all fun t => P.readableRec t && Nat.blt t P.types.size) = true → DataW.TrodAll enc P W 0 (fun _ => true) true ts vs ds ps →
   (∀ x ∈ ps, x.block < W.heap.size) → ∀ sp : Nat → Bool, (∀ p ∈ ps, sp p.block = true) → DataW.TrodAll enc P W' 0 sp true ts vs ds ps
 | [], vs, ds, ps, _, h, _, sp, _ => by
  obtain ⟨rfl, rfl, rfl⟩ := trodAll_nil h
  rfl
 | t :: ts, vs, ds, ps, hts, h, hlt, sp, hsp => by
  obtain ⟨v, vs', d, ds', p, q, rfl, rfl, rfl, h0, h1⟩ := trodAll_cons h
  simp only [List.all_cons, Bool.and_eq_true] at hts
  refine ⟨p, q, ?_, kt' hl hb ts _ _ _ hts.2 h1 (fun x hx => hlt x (by simp [hx])) sp (fun x hx => hsp x (by simp [hx])), rfl⟩
  exact WideElems.Trod_stays hl hts.1.1 (by simpa [Nat.blt_eq] using hts.1.2) h0 (fun x hx => hb.same (hlt x (by simp [hx]))) (fun x hx => hsp x (by simp [hx]))
theorem pk' {H : Type} {enc : TypeId × Value → H} {P : Program} {f : Func} {s : ChangeSpec} {apart fresh handsOn : Bool} {W W' : World} {args : Array Value} {ds gs : List (DataW H)} {before : List MemPlace} {tb : TypeId}
  (hl : laidOutB P = true) (hts : (f.params.toList.all fun t => P.readableRec t && Nat.blt t P.types.size) = true) (hrt : f.resultTypes = #[tb]) (hb : P.underlying tb = some .bool)
  (hW : DataW.Whole enc P f.params.toList s.vars apart W args.toList ds gs before) (hs : s.vars = []) (hres : (s.fn H ds).results = [.lit (.bool true)]) (hargs : (s.fn H ds).args = ds) (hvars : (s.fn H ds).vars = [])
  (hk : Kp [] W W') : s.post enc P f apart fresh handsOn false W args (.bool true) W' := by
 have hW' := hW
 obtain ⟨p, q, hA, hV, rfl, hfz, hnd⟩ := hW
 rw [hs] at hV
 obtain ⟨rfl, rfl⟩ := trodVars_none hV
 have hbl := hk.below
 have hlt : ∀ x ∈ p, x.block < W.heap.size := fun x hx => hW'.lt x (by simp [hx])
 refine ⟨ds, [], p ++ [], [], p, [], hW', ?_, ?_, ?_, ?_, fun h => by cases h⟩
 ·rw [List.append_nil, hres, hrt]
  exact trodAll_mk1 (shut_bool hb true)
 ·rw [List.append_nil, hargs]
  exact kt' hl hbl _ _ _ _ hts hA hlt _ fun x hx => by simpa using hlt x hx
 ·rw [List.append_nil, hvars, hs]
  rfl
 ·exact hbl.frame _
end Go.Wx
set_option maxRecDepth 100000
namespace Go.Proofs.YtededhgpckkmkaaGreat
open Go.Wx Go.ChangeShapes Go.WideShapes Go.ChangeAt Go.RowKit
theorem qO' {H : Type} (d : DataW H) : 1 ≤ Rows.uptoBulk d := by
 cases d with
 | lit l => cases l <;> simp [Rows.uptoBulk]
 | nil => simp [Rows.uptoBulk]
 | ptr d => simp [Rows.uptoBulk]
 | slice elems spare => simp [Rows.uptoBulk]
 | agg parts => simp [Rows.uptoBulk]
 | iface t d => simp [Rows.uptoBulk]
 | map entries => simp [Rows.uptoBulk]
 | held h => simp [Rows.uptoBulk]
theorem gJ' {H : Type} {d : DataW H} {l : List (DataW H)} (h : d ∈ l) : Rows.uptoBulk d ≤ Rows.uptoBulkAll l := by
 induction l with
 | nil => cases h
 | cons x r ih =>
  simp only [Rows.uptoBulkAll]
  cases List.mem_cons.1 h with
  | inl e => subst e; omega
  | inr e => have := ih e; omega
theorem qP' {H : Type} (l : List (DataW H)) : l.length ≤ Rows.uptoBulkAll l := by
 induction l with
 | nil => simp [Rows.uptoBulkAll]
 | cons x r ih => have := qO' x; simp only [Rows.uptoBulkAll, List.length_cons]; omega
theorem sH' {H : Type} {l : List (DataW H)} (hk : Rows.uptoSmall H l = true) : Rows.uptoBulkAll l ≤ 1048576 := of_decide_eq_true hk
theorem qQ' {H : Type} (l r : List (DataW H)) : Rows.uptoBulkAll (l ++ r) = Rows.uptoBulkAll l + Rows.uptoBulkAll r := by
 induction l with
 | nil => simp [Rows.uptoBulkAll]
 | cons x l ih => simp only [List.cons_append, Rows.uptoBulkAll, ih]; omega
theorem aQ' {H : Type} {xs : List (DataW H × List MemPlace)} {x : DataW H × List MemPlace} (hx : x ∈ xs) (hB : Rows.uptoBulk (.agg (xs.map (·.1))) ≤ 1048576) : Rows.uptoBulk x.1 ≤ 1048576 := by
 have := gJ' (List.mem_map_of_mem (f := (·.1)) hx)
 simp only [Rows.uptoBulk] at hB
 omega
section
variable {H : Type} {enc : TypeId × Value → H} {w : World} {spare : Nat → Bool} {held : Bool}
theorem li' {a : Addr} {v : Value} (h : w.cell? a = some v) : ∃ b o, a = ⟨b, o, none⟩ := by
 obtain ⟨b, o, s⟩ := a
 unfold World.cell? at h
 split at h
 ·rename_i c T fz hb
  cases s with
  | none => exact ⟨b, o, rfl⟩
  | some _ => simp at h
 ·cases h
theorem qR' {α : Type} [Inhabited α] {t e : TypeId} (R : Rd α) (hk : 0 < R.sz) (ht : Tryz.prog.underlying t = some (.slice e)) (hc : Tryz.prog.cellsOf e = R.sz) (ok : DataW H → Prop)
  (one : ∀ (cs : List Value) (n : Nat) (y : DataW H × List MemPlace), cs.length = R.sz → DataW.trod enc Tryz.prog w 0 spare held n e cs = some y → ok y.1 → ∃ x : α, R.den (Old w) cs x)
  {fuel : Nat} {v : Value} {x : DataW H × List MemPlace} (h : DataW.trod enc Tryz.prog w 0 spare held fuel t [v] = some x) (hok : ∀ es sp, x.1 = .slice es sp → ∀ d ∈ es, ok d) :
  ∃ (a : Option Addr) (l : List α) (cap : Nat), v = .slice a l.length cap ∧ (l.length ≤ 1099511627776 → Sl R (Old w) a l) ∧ (l.length = 0 ∨ ∃ es sp, x.1 = .slice es sp ∧ es.length = l.length) := by
 rcases Go.Deep.open_slice ht h with ⟨h1, rfl⟩ | ⟨a, len, cap, m, n, D, Pl, h1, hb, hl, hm, hmm, rfl, hx⟩
 ·simp only [List.cons.injEq, and_true] at h1
  subst h1
  exact ⟨none, [], 0, rfl, fun _ => Sl.nil _ _ _, .inl rfl⟩
 simp only [List.cons.injEq, and_true] at h1
 subst h1
 have hlm : len ≤ m := by rw [hmm]; split <;> omega
 rw [hc] at hx
 have each : ∀ i, i < len → ∃ q : α × List Value, R.den (Old w) q.2 q.1 ∧ ∀ j u, q.2[j]? = some u → w.cell? (a.add (i * R.sz + j)) = some u := by
  intro i hi
  obtain ⟨cs', h1, h2⟩ := hx i (by omega)
  obtain ⟨_, hlen, hcell⟩ := World.cells?_some h1
  obtain ⟨x, hx⟩ := one cs' n _ hlen h2 (hok _ _ rfl _ (List.mem_map.2 ⟨i, by simpa using hi, rfl⟩))
  refine ⟨(x, cs'), hx, fun j u hu => ?_⟩
  have hj : j < R.sz := by rw [← hlen]; exact aq' hu
  rw [← Go.Deep.add_add, hcell j hj]
  exact hu
 obtain ⟨q, hq⟩ := Go.Deep.choose_lt each
 refine ⟨some a, (List.range len).map fun i => (q i).1, cap, by simp, fun hbig => ⟨hbig, ?_⟩, .inr ⟨_, _, rfl, by simp⟩⟩
 by_cases h0 : len = 0
 ·exact .inl (by simp [h0])
 obtain ⟨hd0, hz⟩ := hq 0 (by omega)
 have hl0 := R.len hd0
 obtain ⟨u0, hu0⟩ : ∃ u, (q 0).2[0]? = some u := ⟨(q 0).2[0]'(by omega), by simp⟩
 have hz0 := hz 0 u0 hu0
 rw [Nat.zero_mul, Nat.add_zero] at hz0
 have hz' : w.cell? a = some u0 := by simpa [Addr.add] using hz0
 obtain ⟨b, o, rfl⟩ := li' hz'
 refine .inr ⟨b, o, rfl, fun i x hi => ?_⟩
 rw [List.getElem?_map] at hi
 have hil : i < len := by
  rcases Nat.lt_or_ge i len with h | h
  ·exact h
  ·rw [List.getElem?_eq_none (by simpa using h)] at hi; cases hi
 rw [List.getElem?_range hil] at hi
 have hi := Option.some.inj hi
 subst hi
 obtain ⟨hdi, hci⟩ := hq i hil
 refine ⟨(q i).2, hdi, fun j u hj => Cl.of ?_⟩
 have := hci j u hj
 rw [dw'] at this
 rw [Nat.add_assoc]
 exact this
theorem sI' {α : Type} [Inhabited α] {t e : TypeId} (R : Rd α) (hk : 0 < R.sz) (ht : Tryz.prog.underlying t = some (.slice e)) (hc : Tryz.prog.cellsOf e = R.sz)
  (one : ∀ (cs : List Value) (n : Nat) (y : DataW H × List MemPlace), cs.length = R.sz → DataW.trod enc Tryz.prog w 0 spare held n e cs = some y → Rows.uptoBulk y.1 ≤ 1048576 → ∃ x : α, R.den (Old w) cs x)
  {fuel : Nat} {v : Value} {x : DataW H × List MemPlace} (h : DataW.trod enc Tryz.prog w 0 spare held fuel t [v] = some x) (hB : Rows.uptoBulk x.1 ≤ 1048576) : ∃ l, (rSl R).den (Old w) [v] l := by
 obtain ⟨a, l, cap, h1, h2, h3⟩ := qR' R hk ht hc (fun d => Rows.uptoBulk d ≤ 1048576) one h (fun es sp e d hd => by
  rw [e] at hB
  have := gJ' hd
  simp only [Rows.uptoBulk] at hB
  omega)
 refine ⟨l, a, cap, by rw [h1], h2 ?_⟩
 rcases h3 with h3 | ⟨es, sp, e, hl⟩
 ·omega
 ·rw [e] at hB
  have := qP' es
  simp only [Rows.uptoBulk] at hB
  omega
end
end Go.Proofs.YtededhgpckkmkaaGreat
set_option maxRecDepth 100000
namespace Go.Proofs.YtededhgpckkmkaaGreat
open Go.Wx Cd Tm Lv Go.ChangeShapes Go.WideShapes Go.ChangeAt Go.RowKit
instance : Inhabited Nd := ⟨⟨0, 0, 0⟩⟩
instance : Inhabited aX' := ⟨⟨0, 0, 0⟩⟩
instance : Inhabited BoT := ⟨⟨0, [], [], -1, []⟩⟩
section
variable {H : Type} {enc : TypeId × Value → H} {w : World} {spare : Nat → Bool} {held : Bool}
theorem sJ' {z : Int} (h : (Lit.int .i64 z).wf = true) : I64 z := by
 simpa [I64, Lit.wf, IntKind.min, IntKind.max, IntKind.signed, IntKind.bits] using h
theorem ep' {α : Type} [Inhabited α] {t e : TypeId} (R : Rd α) (hk : 0 < R.sz) (ht : Tryz.prog.underlying t = some (.slice e)) (hc : Tryz.prog.cellsOf e = R.sz)
  (one : ∀ (cs : List Value) (n : Nat) (y : DataW H × List MemPlace), cs.length = R.sz → DataW.trod enc Tryz.prog w 0 spare held n e cs = some y → Rows.uptoBulk y.1 ≤ 1048576 → ∃ x : α, R.den (Old w) cs x)
  {fuel : Nat} {v : Value} {x : DataW H × List MemPlace} (h : DataW.trod enc Tryz.prog w 0 spare held fuel t [v] = some x) (hB : Rows.uptoBulk x.1 ≤ 1048576) : ∃ l, SV R (Old w) l v := by
 obtain ⟨l, a, c, e, hs⟩ := sI' R hk ht hc one h hB
 have e : v = .slice a l.length c := by simpa using e
 refine ⟨l, a, c, e, hs, ?_⟩
 rcases Go.Deep.open_slice ht h with ⟨h1, rfl⟩ | ⟨a', len, cap, m, k, D, Pl, h1, hb, hl, _⟩
 ·rw [e] at h1
  have h1 := (List.cons.inj h1).1
  injection h1 with q1 q2 q3
  omega
 ·rw [e] at h1
  have h1 := (List.cons.inj h1).1
  injection h1 with q1 q2 q3
  omega
theorem cg' {n : Nat} {cs : List Value} {y : DataW H × List MemPlace} (hn : DataW.trod enc Tryz.prog w 0 spare held n 3 cs = some y) : ∃ z, cs = [.int .i64 z] ∧ I64 z := by
 obtain ⟨z, rfl, rfl, hw⟩ := DataW.trod_int Tryz.underlying3 hn
 exact ⟨z, rfl, sJ' hw⟩
theorem sK' {n : Nat} {cs : List Value} {y : DataW H × List MemPlace} (hl : cs.length = 3) (hn : DataW.trod enc Tryz.prog w 0 spare held n 50 cs = some y) : ∃ x, rNd.den (Old w) cs x := by
 obtain ⟨xs, m, rfl, rfl, _, hxl, hf⟩ := DataW.trod_struct Tryz.underlying50 hn
 match cs, hl, xs, hxl with
 | [c0, c1, c2], _, [x0, x1, x2], _ =>
  have g0 := hf 0 _ rfl
  have g1 := hf 1 _ rfl
  have g2 := hf 2 _ rfl
  simp [show Tryz.prog.cellsOf 3 = 1 by kernel_rfl] at g0 g1 g2
  obtain ⟨z0, e0, w0⟩ := cg' g0
  obtain ⟨z1, e1, w1⟩ := cg' g1
  obtain ⟨z2, e2, w2⟩ := cg' g2
  simp at e0 e1 e2
  subst e0 e1 e2
  exact ⟨⟨z0, z1, z2⟩, rfl, w0, w1, w2⟩
theorem sL' {n : Nat} {cs : List Value} {y : DataW H × List MemPlace} (hl : cs.length = 3) (hn : DataW.trod enc Tryz.prog w 0 spare held n 155 cs = some y) : ∃ x, rOr.den (Old w) cs x := by
 obtain ⟨xs, m, rfl, rfl, _, hxl, hf⟩ := DataW.trod_struct Tryz.underlying155 hn
 match cs, hl, xs, hxl with
 | [c0, c1, c2], _, [x0, x1, x2], _ =>
  have g0 := hf 0 _ rfl
  have g1 := hf 1 _ rfl
  have g2 := hf 2 _ rfl
  simp [show Tryz.prog.cellsOf 3 = 1 by kernel_rfl] at g0 g1 g2
  obtain ⟨z0, e0, w0⟩ := cg' g0
  obtain ⟨z1, e1, w1⟩ := cg' g1
  obtain ⟨z2, e2, w2⟩ := cg' g2
  simp at e0 e1 e2
  subst e0 e1 e2
  exact ⟨⟨z0, z1, z2⟩, rfl, w0, w1, w2⟩
theorem sM' {n : Nat} {cs : List Value} {y : DataW H × List MemPlace} (hl : cs.length = 2) (hn : DataW.trod enc Tryz.prog w 0 spare held n 117 cs = some y) : ∃ x, rPr.den (Old w) cs x := by
 obtain ⟨xs, m, rfl, rfl, _, hxl, hf⟩ := DataW.trod_struct Tryz.underlying117 hn
 match cs, hl, xs, hxl with
 | [c0, c1], _, [x0, x1], _ =>
  have g0 := hf 0 _ rfl
  have g1 := hf 1 _ rfl
  simp [show Tryz.prog.cellsOf 3 = 1 by kernel_rfl] at g0 g1
  obtain ⟨z0, e0, w0⟩ := cg' g0
  obtain ⟨z1, e1, w1⟩ := cg' g1
  simp at e0 e1
  subst e0 e1
  exact ⟨(z0, z1), rfl, w0, w1⟩
theorem bZ' {n : Nat} {v : Value} {y : DataW H × List MemPlace} (hn : DataW.trod enc Tryz.prog w 0 spare held n 29 [v] = some y) (hB : Rows.uptoBulk y.1 ≤ 1048576) : ∃ l, SV rNd (Old w) l v :=
 ep' rNd (by decide) Tryz.underlying29 (by kernel_rfl) (fun cs n y hl hn hb => sK' hl hn) hn hB
theorem dZ' {n : Nat} {v : Value} {y : DataW H × List MemPlace} (hn : DataW.trod enc Tryz.prog w 0 spare held n 47 [v] = some y) (hB : Rows.uptoBulk y.1 ≤ 1048576) : ∃ l, SV (rSk rNd) (Old w) l v :=
 ep' (rSk rNd) Nat.one_pos Tryz.underlying47 (by kernel_rfl) (fun cs n y hl hn hb => by
  match cs, hl with
  | [c], _ =>
   obtain ⟨l, a, cc, rfl, hs, hcap⟩ := bZ' hn hb
   exact ⟨l, a, cc, rfl, hcap, hs⟩) hn hB
theorem sN' {n : Nat} {cs : List Value} {y : DataW H × List MemPlace} (hl : cs.length = 2) (hn : DataW.trod enc Tryz.prog w 0 spare held n 77 cs = some y) (hB : Rows.uptoBulk y.1 ≤ 1048576) : ∃ x, rCt.den (Old w) cs x := by
 obtain ⟨xs, m, rfl, rfl, _, hxl, hf⟩ := DataW.trod_struct Tryz.underlying77 hn
 match cs, hl, xs, hxl with
 | [c0, c1], _, [x0, x1], _ =>
  have g0 := hf 0 _ rfl
  have g1 := hf 1 _ rfl
  simp [show Tryz.prog.cellsOf 47 = 1 by kernel_rfl] at g0 g1
  obtain ⟨l0, h0⟩ := dZ' g0 (aQ' (x := x0) (by simp) hB)
  obtain ⟨l1, h1⟩ := dZ' g1 (aQ' (x := x1) (by simp) hB)
  exact ⟨⟨l0, l1⟩, _, _, rfl, h0, h1⟩
theorem sO' {n : Nat} {cs : List Value} {y : DataW H × List MemPlace} (hl : cs.length = 7) (hn : DataW.trod enc Tryz.prog w 0 spare held n 74 cs = some y) (hB : Rows.uptoBulk y.1 ≤ 1048576) : ∃ x, rEn.den (Old w) cs x := by
 obtain ⟨xs, m, rfl, rfl, _, hxl, hf⟩ := DataW.trod_struct Tryz.underlying74 hn
 match cs, hl, xs, hxl with
 | [c0, c1, c2, c3, c4, c5, c6], _, [x0, x1, x2, x3, x4, x5, x6], _ =>
  have g0 := hf 0 _ rfl
  have g1 := hf 1 _ rfl
  have g2 := hf 2 _ rfl
  have g3 := hf 3 _ rfl
  have g4 := hf 4 _ rfl
  have g5 := hf 5 _ rfl
  have g6 := hf 6 _ rfl
  simp [show Tryz.prog.cellsOf 3 = 1 by kernel_rfl, show Tryz.prog.cellsOf 47 = 1 by kernel_rfl, show Tryz.prog.cellsOf 29 = 1 by kernel_rfl, show Tryz.prog.cellsOf 72 = 1 by kernel_rfl] at g0 g1 g2 g3 g4 g5 g6
  obtain ⟨z0, e0, w0⟩ := cg' g0
  obtain ⟨l1, h1⟩ := bZ' g1 (aQ' (x := x1) (by simp) hB)
  obtain ⟨l2, h2⟩ := dZ' g2 (aQ' (x := x2) (by simp) hB)
  obtain ⟨l3, h3⟩ := dZ' g3 (aQ' (x := x3) (by simp) hB)
  obtain ⟨l4, h4⟩ := ep' rCt (by decide) Tryz.underlying72 (by kernel_rfl) (fun cs n y hl hn hb => sN' hl hn hb) g4 (aQ' (x := x4) (by simp) hB)
  obtain ⟨l5, h5⟩ := bZ' g5 (aQ' (x := x5) (by simp) hB)
  obtain ⟨l6, h6⟩ := bZ' g6 (aQ' (x := x6) (by simp) hB)
  simp at e0
  subst e0
  exact ⟨⟨z0, l1, l2, l3, l4, l5, l6⟩, _, _, _, _, _, _, rfl, w0, h1, h2, h3, h4, h5, h6⟩
theorem sP' {n : Nat} {cs : List Value} {y : DataW H × List MemPlace} (hl : cs.length = 5) (hn : DataW.trod enc Tryz.prog w 0 spare held n 26 cs = some y) (hB : Rows.uptoBulk y.1 ≤ 1048576) : ∃ x, rBo.den (Old w) cs x := by
 obtain ⟨xs, m, rfl, rfl, _, hxl, hf⟩ := DataW.trod_struct Tryz.underlying26 hn
 match cs, hl, xs, hxl with
 | [c0, c1, c2, c3, c4], _, [x0, x1, x2, x3, x4], _ =>
  have g0 := hf 0 _ rfl
  have g1 := hf 1 _ rfl
  have g2 := hf 2 _ rfl
  have g3 := hf 3 _ rfl
  have g4 := hf 4 _ rfl
  simp [show Tryz.prog.cellsOf 3 = 1 by kernel_rfl, show Tryz.prog.cellsOf 22 = 1 by kernel_rfl, show Tryz.prog.cellsOf 23 = 1 by kernel_rfl, show Tryz.prog.cellsOf 24 = 1 by kernel_rfl] at g0 g1 g2 g3 g4
  obtain ⟨z0, e0, w0⟩ := cg' g0
  obtain ⟨l1, h1⟩ := ep' rOr (by decide) Tryz.underlying22 (by kernel_rfl) (fun cs n y hl hn hb => sL' hl hn) g1 (aQ' (x := x1) (by simp) hB)
  obtain ⟨l2, h2⟩ := ep' rEn (by decide) Tryz.underlying23 (by kernel_rfl) (fun cs n y hl hn hb => sO' hl hn hb) g2 (aQ' (x := x2) (by simp) hB)
  obtain ⟨z3, e3, w3⟩ := cg' g3
  obtain ⟨l4, h4⟩ := ep' rPr (by decide) Tryz.underlying24 (by kernel_rfl) (fun cs n y hl hn hb => sM' hl hn) g4 (aQ' (x := x4) (by simp) hB)
  simp at e0 e3
  subst e0 e3
  exact ⟨⟨z0, l1, l2, z3, l4⟩, _, _, _, rfl, w0, w3, h1, h2, h4⟩
end
end Go.Proofs.YtededhgpckkmkaaGreat
set_option maxRecDepth 100000
namespace Go.Proofs.YtededhgpckkmkaaGreat
open Go.Wx Cd Tm Lv Go.ChangeShapes Go.WideShapes Go.ChangeAt Go.RowKit
section
variable {H : Type} {enc : TypeId × Value → H} {w : World} {spare : Nat → Bool} {held : Bool}
theorem sQ' {n : Nat} {cs : List Value} {y : DataW H × List MemPlace} (hl : cs.length = 2) (hn : DataW.trod enc Tryz.prog w 0 spare held n 35 cs = some y) (hB : Rows.uptoBulk y.1 ≤ 1048576) : ∃ x, rBd.den (Old w) cs x := by
 obtain ⟨xs, m, rfl, rfl, _, hxl, hf⟩ := DataW.trod_struct Tryz.underlying35 hn
 match cs, hl, xs, hxl with
 | [c0, c1], _, [x0, x1], _ =>
  have g0 := hf 0 _ rfl
  have g1 := hf 1 _ rfl
  simp [show Tryz.prog.cellsOf 29 = 1 by kernel_rfl] at g0 g1
  obtain ⟨l0, h0⟩ := bZ' g0 (aQ' (x := x0) (by simp) hB)
  obtain ⟨l1, h1⟩ := bZ' g1 (aQ' (x := x1) (by simp) hB)
  exact ⟨(l0, l1), _, _, rfl, h0, h1⟩
theorem CaV.mono {C D : Mem} {x : CaT} {v : Value} (h : CaV C x v) (hc : ∀ b o v, C b o v → D b o v) : CaV D x v := by
 obtain ⟨v1, v2, v3, vc, vt, vy, e, h1, h2, h3, h4, h5, h6, h7⟩ := h
 exact ⟨v1, v2, v3, vc, vt, vy, e, h1.mono hc, h2.mono hc, h3.mono hc, h4.mono hc, h5.mono hc, h6.mono hc, h7⟩
theorem pl' {r : Reach} {b0 : Nat} {v : Value} {d : DataW H} {ps : List MemPlace} (hval : Value.okWide Tryz.prog w r b0 31 v) (h : DataW.Trod enc Tryz.prog w 0 spare held 31 v d ps) (hB : Rows.uptoBulk d ≤ 1048576) :
  ∃ x, CaV (Im [] w) x v := by
 obtain ⟨cs, rfl, hs⟩ := okWide_struct Tryz.underlying31 hval
 obtain ⟨fuel, hf0⟩ := h
 obtain ⟨xs, m, rfl, hx, hl, hxl, hf⟩ := DataW.trod_struct Tryz.underlying31 hf0
 have hsz : cs.size = 9 := by rw [hs]; kernel_rfl
 obtain ⟨cs⟩ := cs
 match cs, hsz, xs, hxl with
 | [c0, c1, c2, c3, c4, c5, c6, c7, c8], _, [x0, x1, x2, x3, x4], _ =>
  have hd : d = .agg ([x0, x1, x2, x3, x4].map (·.1)) := (Prod.mk.injEq .. ▸ hx).1
  rw [hd] at hB
  have g0 := hf 0 _ rfl
  have g1 := hf 1 _ rfl
  have g2 := hf 2 _ rfl
  have g3 := hf 3 _ rfl
  have g4 := hf 4 _ rfl
  simp [Value.cells, show Tryz.prog.cellsOf 26 = 5 by kernel_rfl, show Tryz.prog.cellsOf 27 = 1 by kernel_rfl, show Tryz.prog.cellsOf 29 = 1 by kernel_rfl, show Tryz.prog.cellsOf 3 = 1 by kernel_rfl] at g0 g1 g2 g3 g4
  obtain ⟨bo, w1, w2, w3, e0, i0, i1, h1, h2, h3⟩ := sP' rfl g0 (aQ' (x := x0) (by simp) hB)
  obtain ⟨l1, k1⟩ := ep' rBd (by decide) Tryz.underlying27 (by kernel_rfl) (fun cs n y hl hn hb => sQ' hl hn hb) g1 (aQ' (x := x1) (by simp) hB)
  obtain ⟨l2, k2⟩ := bZ' g2 (aQ' (x := x2) (by simp) hB)
  obtain ⟨l3, k3⟩ := bZ' g3 (aQ' (x := x3) (by simp) hB)
  obtain ⟨z4, e4, i4⟩ := cg' g4
  simp at e0 e4
  obtain ⟨rfl, rfl, rfl, rfl, rfl⟩ := e0
  subst e4
  exact ⟨⟨bo, l1, l2, l3, z4⟩, CaV.mono (C := Old w) ⟨_, _, _, _, _, _, rfl, h1, h2, h3, k1, k2, k3, i4⟩ fun b o v h => ⟨Old.sub w _ _ _ h, by simp⟩⟩
end
end Go.Proofs.YtededhgpckkmkaaGreat
