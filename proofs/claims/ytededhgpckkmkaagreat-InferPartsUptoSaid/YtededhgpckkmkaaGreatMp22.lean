import Derived.Test.YtededhgpckkmkaaGreatMp21
set_option linter.unusedVariables false
set_option linter.unusedSimpArgs false
namespace Go.Proofs.YtededhgpckkmkaaGreat
open Go.Wx Cd Tm Lv
def jv' (lim : Int) : List (List Nd) → Int → Int
 | [], a => a
 | l :: r, a => if a < lim then jv' lim r (a + 1 + (l.length : Int)) else a
def szC (lim : Int) : List CtT → Int → Int
 | [], a => a
 | c :: r, a => if a < lim then szC lim r (a + 1 + jv' lim c.args 0 + jv' lim c.out 0) else a
def szE (lim : Int) : List EnT → Int → Int
 | [], a => a
 | x :: r, a => if a < lim then szE lim r (szC lim x.ctors (a + 1 + (x.sort.length : Int) + (x.type.length : Int) + (x.body.length : Int) + jv' lim x.params 0 + jv' lim x.indices 0)) else a
def ng' (B : BoT) (lim : Int) : Int := szE lim B.ents ((B.orders.length : Int) + (B.prims.length : Int))
theorem tc' {lim a : Int} (h : ¬ a < lim) : ∀ (l : List (List Nd)), jv' lim l a = a
 | [] => rfl
 | l :: r => by simp only [jv']; rw [if_neg h]
theorem rd' {lim a : Int} (h : ¬ a < lim) : ∀ (l : List CtT), szC lim l a = a
 | [] => rfl
 | l :: r => by simp only [szC]; rw [if_neg h]
theorem re' {lim a : Int} (h : ¬ a < lim) : ∀ (l : List EnT), szE lim l a = a
 | [] => rfl
 | l :: r => by simp only [szE]; rw [if_neg h]
section
variable {C : Mem} {w : World} {B : BoT}
set_option maxRecDepth 20000 in
theorem gf' (hS : Sub C w) {ls : List (List Nd)} {vl : Value} (hl : SV (rSk rNd) C ls vl) {lim : Int} (h0 : 0 ≤ lim ∧ lim ≤ 100000) :
  ah' Tryz.prog 37 ∧ Calls Tryz.prog 37 #[vl, .int .i64 lim] w (fun e w' => (e = .returned (.int .i64 (jv' lim ls 0)) ∧ 0 ≤ jv' lim ls 0 ∧ jv' lim ls 0 ≤ 1200000000000) ∧ Kp [] w w') := by
 refine ⟨⟨_, Tryz.func37, rfl, by decide⟩, ?_⟩
 obtain ⟨RES, hRES⟩ : ∃ r, jv' lim ls 0 = r := ⟨_, rfl⟩
 rw [hRES]
 have hll := hl
 obtain ⟨al, cl, rfl, hl1, hl2⟩ := hl
 have l1 := hl1.1
 refine af' (args := [_, _]) 27 [.tmp 4] τok Tryz.func37 rfl rfl rfl (Nat.le_of_ble_eq_true rfl) ?_
 refine lp τok (σ := Nat × Int) (fun q => [(0, .slice al ls.length cl), (1, .int .i64 lim), (5, .int .i64 q.2), (6, .int .i64 (q.1 : Int))])
  (fun q w' => q.1 ≤ ls.length ∧ 0 ≤ q.2 ∧ q.2 ≤ 1200000000000 ∧ Kp [] w w' ∧ jv' lim (ls.drop q.1) q.2 = RES) (fun q => ls.length - q.1) (0, 0) rfl
  ⟨rfl, rfl, rfl, rfl, trivial⟩ ⟨Nat.zero_le _, Int.le_refl _, by decide, Kp.refl _ _, hRES⟩ ?_
 clear hRES
 rintro ⟨i, a⟩ w1 ⟨hi, ha0, ha1, hk1, hres⟩
 simp only at hi ha0 ha1 hres
 have fin : jv' lim (ls.drop i) a = a → (Ending.returned (Go.Wx.one [.int .i64 a]) = .returned (.int .i64 RES) ∧ 0 ≤ RES ∧ RES ≤ 1200000000000) ∧ Kp [] w w1 := fun h => by
  rw [h] at hres
  subst hres
  exact ⟨⟨rfl, ha0, ha1⟩, hk1⟩
 refine ac' (fun g => ?_) (fun g => ?_)
 ·have g : (i : Int) < (ls.length : Int) := g
  refine ac' (fun g2 => ?_) (fun g2 => ?_)
  ·have g2 : a < lim := g2
   obtain ⟨l, hl, hd⟩ := ag' (l := ls) (k := i) (by omega)
   rw [hd] at hres
   simp only [jv'] at hres
   rw [if_pos g2] at hres
   obtain ⟨b, o, c, pc, u, hu, hsu⟩ := pv' hll hl
   injection pc with q1 q2 q3
   subst q1 q3
   obtain ⟨au, cu, rfl, hu1, _⟩ := id hsu
   have lu := hu1.1
   refine ai' (by omega) (by omega) ?_
   refine ix i rfl (by omega) ?_
   refine ld (Cl.cell (hS.tr hk1 _ _ _ hu)) ?_
   refine ai' (by omega) (by omega) ?_
   refine ai' (by omega) (by omega) ?_
   exact ⟨(i + 1, a + 1 + (l.length : Int)), by simp only; omega, rfl, ⟨rfl, rfl, rfl, rfl, trivial⟩, by show i + 1 ≤ _; omega, by simp only; omega, by simp only; omega, hk1, hres⟩
  ·have g2 : ¬ a < lim := g2
   exact fin (tc' g2 _)
 ·have g : ¬ (i : Int) < (ls.length : Int) := g
  exact fin (by rw [List.drop_eq_nil_of_le (by omega)]; rfl)
set_option maxRecDepth 20000 in
set_option maxHeartbeats 1000000 in
theorem td' (hS : Sub C w) {vb : Value} (hvb : BoV C B vb) {lim : Int} (h0 : 0 ≤ lim ∧ lim ≤ 100000) :
  ah' Tryz.prog 19 ∧ Calls Tryz.prog 19 #[vb, .int .i64 lim] w (fun e w' => e = .returned (.int .i64 (ng' B lim)) ∧ Kp [] w w') := by
 refine ⟨⟨_, Tryz.func19, rfl, by decide⟩, ?_⟩
 obtain ⟨RES, hRES⟩ : ∃ r, ng' B lim = r := ⟨_, rfl⟩
 rw [hRES]
 unfold ng' at hRES
 obtain ⟨v1, v2, v3, rfl, hO, hE, hP⟩ := hvb
 obtain ⟨ao, co, rfl, hO1, _⟩ := id hO
 obtain ⟨ae, ce, rfl, hE1, _⟩ := id hE
 obtain ⟨ap, cp, rfl, hP1, _⟩ := id hP
 have lO := hO1.1
 have lE := hE1.1
 have lP := hP1.1
 refine af' (args := [_, _]) 90 [.tmp 4] τok Tryz.func19 rfl rfl rfl (Nat.le_of_ble_eq_true rfl) ?_
 refine new fun b2 w1 hb2 h2 hs1 hk1 => ?_
 have h2 : Bk w1.heap b2 [.int .i64 B.vars, .slice ao B.orders.length co, .slice ae B.ents.length ce, .int .i64 B.nat, .slice ap B.prims.length cp] 26 := h2
 refine ld (Cl.cell (h2.cl rfl)) ?_
 refine ld (Cl.cell (h2.cl rfl)) ?_
 refine ai' (by omega) (by omega) ?_
 refine lp τok (σ := Nat × Int) (fun q => [(1, .int .i64 lim), (2, pt b2), (5, .int .i64 q.2), (6, .int .i64 (q.1 : Int))])
  (fun q w' => q.1 ≤ B.ents.length ∧ 0 ≤ q.2 ∧ q.2 ≤ 100000000000000 ∧ Kp [] w1 w' ∧ szE lim (B.ents.drop q.1) q.2 = RES) (fun q => B.ents.length - q.1) (0, (B.orders.length : Int) + (B.prims.length : Int)) rfl
  ⟨rfl, rfl, rfl, rfl, trivial⟩ ⟨Nat.zero_le _, by simp only; omega, by simp only; omega, Kp.refl _ _, hRES⟩ ?_
 clear hRES
 rintro ⟨i, a⟩ w2 ⟨hi, ha0, ha1, hk2, hres⟩
 simp only at hi ha0 ha1 hres
 have k02 := hk1.tr hk2
 have h22 := h2.kp hk2 (by simp)
 have fin : szE lim (B.ents.drop i) a = a → Ending.returned (Go.Wx.one [.int .i64 a]) = .returned (.int .i64 RES) ∧ Kp [] w w2 := fun h => by
  rw [h] at hres
  subst hres
  exact ⟨rfl, k02⟩
 refine ld (Cl.cell (h22.cl rfl)) ?_
 refine ac' (fun g => ?_) (fun g => ?_)
 ·have g : (i : Int) < (B.ents.length : Int) := g
  refine ac' (fun g2 => ?_) (fun g2 => ?_)
  ·have g2 : a < lim := g2
   obtain ⟨x, hx, hd⟩ := ag' (l := B.ents) (k := i) (by omega)
   rw [hd] at hres
   simp only [szE] at hres
   rw [if_pos g2] at hres
   obtain ⟨be, oe, ce', pe, hat⟩ := hE.at hx
   obtain ⟨w1e, w2e, w3e, w4e, w5e, w6e, hcs, hki, hso, hpa, hin, hct, hty, hbo⟩ := eu' hat
   injection pe with q1 q2 q3
   subst q1 q3
   obtain ⟨as_, cs_, rfl, hso1, _⟩ := id hso
   obtain ⟨apa, cpa, rfl, hpa1, _⟩ := id hpa
   obtain ⟨ain, cin, rfl, hin1, _⟩ := id hin
   obtain ⟨act, cct, rfl, hct1, _⟩ := id hct
   obtain ⟨aty, cty, rfl, hty1, _⟩ := id hty
   obtain ⟨abo, cbo, rfl, hbo1, _⟩ := id hbo
   have m1 := hso1.1
   have m2 := hct1.1
   have m3 := hty1.1
   have m4 := hbo1.1
   refine ld (Cl.cell (h22.cl rfl)) ?_
   refine ix i rfl (by omega) ?_
   refine ldN _ rfl (fun j u hj => (hS.tr k02) _ _ _ (hcs j u hj)) ?_
   refine new fun b7 w3 hb7 h7 hs3 hk3 => ?_
   refine stN (vs := [.int .i64 x.kind, .slice as_ x.sort.length cs_, .slice apa x.params.length cpa, .slice ain x.indices.length cin, .slice act x.ctors.length cct, .slice aty x.type.length cty, .slice abo x.body.length cbo]) h7 rfl (by simp [Value.oneCell']) fun w4 h7 hs4 hk4 => ?_
   have k24 := hk3.newSt hb7 hk4
   have k04 := k02.tr k24
   have h7 : Bk w4.heap b7 [.int .i64 x.kind, .slice as_ x.sort.length cs_, .slice apa x.params.length cpa, .slice ain x.indices.length cin, .slice act x.ctors.length cct, .slice aty x.type.length cty, .slice abo x.body.length cbo] 74 := h7
   refine ax' τok (fun z => Kp [] w4 z) ?_
   refine rV τok [0, 1, 2, 3, 4, 5, 6, 7, 8, 9, 10, 11, 12, 13, 14, 15, 16, 19, 20, 21] 5 (mB 25 [17, 18, 22, 23, 24]) ((Kp.refl [] w4).dr _) ?_
   refine ai' (by omega) (by omega) ?_
   refine ldK (h7.cl rfl) ?_
   refine ai' (by omega) (by omega) ?_
   refine ldK (h7.cl rfl) ?_
   refine ai' (by omega) (by omega) ?_
   refine ldK (h7.cl rfl) ?_
   refine ai' (by omega) (by omega) ?_
   refine ldK (h7.cl rfl) ?_
   refine ldK (h7.cl rfl) ?_
   refine nV τok 17 4 (mB 25 [18, 22, 23, 24]) ?_
   refine ab' (gf' (w := { w4 with drawn := w4.drawn + 1 }) (hS.tr (k04.dr _)) hpa h0) ?_
   rintro e w5 ⟨⟨rfl, p0, p1⟩, hk5⟩
   have hk5 : Kp [] w4 w5 := hk5.rd
   refine ⟨.inl hk5, ?_⟩
   refine rV τok [18] 3 (mB 25 [22, 23, 24]) hk5 ?_
   refine ai' (by omega) (by omega) ?_
   refine nV τok 22 2 (mB 25 [23, 24]) ?_
   refine ab' (gf' (hS.tr (k04.tr hk5)) hin h0) ?_
   rintro e w6 ⟨⟨rfl, i0, i1⟩, hk6⟩
   have k46 := hk5.tr hk6
   refine ⟨.inl k46, ?_⟩
   refine rV τok [23, 24] 0 (mB 25 []) k46 ?_
   refine ai' (by omega) (by omega) ?_
   refine dV ?_
   obtain ⟨a1, ha1'⟩ : ∃ a1, a1 = a + 1 + (x.sort.length : Int) + (x.type.length : Int) + (x.body.length : Int) + jv' lim x.params 0 + jv' lim x.indices 0 := ⟨_, rfl⟩
   rw [← ha1'] at hres ⊢
   have k06 := k04.tr k46
   have h7 := h7.kp k46 (by simp)
   obtain ⟨RC, hRC⟩ : ∃ r, szC lim x.ctors a1 = r := ⟨_, rfl⟩
   rw [hRC] at hres
   refine lp τok (σ := Nat × Int) (fun q => [(1, .int .i64 lim), (2, pt b2), (5, .int .i64 q.2), (6, .int .i64 (i : Int)), (7, pt b7), (8, .int .i64 (q.1 : Int))])
    (fun q w' => q.1 ≤ x.ctors.length ∧ 0 ≤ q.2 ∧ q.2 ≤ 100000000000000 ∧ Kp [] w6 w' ∧ szC lim (x.ctors.drop q.1) q.2 = RC) (fun q => x.ctors.length - q.1) (0, a1) rfl
    ⟨rfl, rfl, rfl, rfl, rfl, rfl, trivial⟩ ⟨Nat.zero_le _, by simp only; omega, by simp only; omega, Kp.refl _ _, hRC⟩ ?_
   clear hRC
   rintro ⟨j, a2⟩ w7 ⟨hj, hj0, hj1, hk7, hRC⟩
   simp only at hj hj0 hj1 hRC
   have k07 := k06.tr hk7
   have h77 := h7.kp hk7 (by simp)
   refine ld (Cl.cell (h77.cl rfl)) ?_
   have k17 : Kp [] w1 w7 := (hk2.tr k24).tr (k46.tr hk7)
   have next : szC lim (x.ctors.drop j) a2 = a2 → a2 = RC := fun h => by rw [← hRC, h]
   refine ac' (fun y1 => ?_) (fun y1 => ?_)
   ·have y1 : (j : Int) < (x.ctors.length : Int) := y1
    refine ac' (fun y2 => ?_) (fun y2 => ?_)
    ·have y2 : a2 < lim := y2
     obtain ⟨c, hc, hd⟩ := ag' (l := x.ctors) (k := j) (by omega)
     rw [hd] at hRC
     simp only [szC] at hRC
     rw [if_pos y2] at hRC
     obtain ⟨bc, oc, cc', pc, hca⟩ := hct.at hc
     obtain ⟨va, vo, hccs, hva, hvo⟩ := iQ' hca
     injection pc with q1 q2 q3
     subst q1 q3
     obtain ⟨aa, ca, rfl, _, _⟩ := id hva
     obtain ⟨aoo, coo, rfl, _, _⟩ := id hvo
     have hS7 := hS.tr k07
     refine ax' τok (fun z => Kp [] w7 z) ?_
     refine rV τok [0, 1, 2, 3, 4, 5, 6, 7, 8, 11, 12, 13, 14, 15, 16, 17] 5 (mB 21 [9, 10, 18, 19, 20]) ((Kp.refl [] w7).dr _) ?_
     refine ai' (by omega) (by omega) ?_
     refine ldK (h77.cl rfl) ?_
     refine ix j rfl (by omega) ?_
     refine ldK (hS7 _ _ _ (hccs 0 _ rfl)) ?_
     refine ldK (h77.cl rfl) ?_
     refine ix j rfl (by omega) ?_
     refine ldK (hS7 _ _ _ (hccs 1 _ rfl)) ?_
     refine nV τok 9 4 (mB 21 [10, 18, 19, 20]) ?_
     refine ab' (gf' (w := { w7 with drawn := w7.drawn + 1 }) (hS.tr (k07.dr _)) hva h0) ?_
     rintro e w8 ⟨⟨rfl, s0, s1⟩, hk8⟩
     have hk8 : Kp [] w7 w8 := hk8.rd
     refine ⟨.inl hk8, ?_⟩
     refine rV τok [10] 3 (mB 21 [18, 19, 20]) hk8 ?_
     refine ai' (by omega) (by omega) ?_
     refine nV τok 18 2 (mB 21 [19, 20]) ?_
     refine ab' (gf' (hS7.tr hk8) hvo h0) ?_
     rintro e w9 ⟨⟨rfl, t0, t1⟩, hk9⟩
     have k79 := hk8.tr hk9
     refine ⟨.inl k79, ?_⟩
     refine rV τok [19, 20] 0 (mB 21 []) k79 ?_
     refine ai' (by omega) (by omega) ?_
     refine dV ?_
     refine ai' (by omega) (by omega) ?_
     exact ⟨(j + 1, a2 + 1 + jv' lim c.args 0 + jv' lim c.out 0), by simp only; omega, rfl, ⟨rfl, rfl, rfl, rfl, rfl, rfl, trivial⟩, by show j + 1 ≤ _; omega, by simp only; omega, by simp only; omega, hk7.tr k79, hRC⟩
    ·have y2 : ¬ a2 < lim := y2
     have := next (rd' y2 _)
     refine ai' (by omega) (by omega) ?_
     exact ⟨(i + 1, a2), by simp only; omega, rfl, ⟨rfl, rfl, rfl, rfl, trivial⟩, by show i + 1 ≤ _; omega, hj0, hj1, k17, by simp only; rw [this]; exact hres⟩
   ·have y1 : ¬ (j : Int) < (x.ctors.length : Int) := y1
    have := next (by rw [List.drop_eq_nil_of_le (by omega)]; rfl)
    refine ai' (by omega) (by omega) ?_
    exact ⟨(i + 1, a2), by simp only; omega, rfl, ⟨rfl, rfl, rfl, rfl, trivial⟩, by show i + 1 ≤ _; omega, hj0, hj1, k17, by simp only; rw [this]; exact hres⟩
  ·have g2 : ¬ a < lim := g2
   exact fin (re' g2 _)
 ·have g : ¬ (i : Int) < (B.ents.length : Int) := g
  exact fin (by rw [List.drop_eq_nil_of_le (by omega)]; rfl)
end
def szX (lim : Int) : CxR → Int → Int
 | [], a => a
 | q :: r, a => if a < lim then szX lim r (a + 1 + (q.1.length : Int) + (q.2.length : Int)) else a
theorem rf' {lim a : Int} (h : ¬ a < lim) : ∀ (l : CxR), szX lim l a = a
 | [] => rfl
 | l :: r => by simp only [szX]; rw [if_neg h]
section
variable {C : Mem} {w : World} {B : BoT}
set_option maxRecDepth 20000 in
theorem rg' (hS : Sub C w) {c : CxR} {vl : Value} (hl : SV rBd C c vl) {lim : Int} (h0 : 0 ≤ lim ∧ lim ≤ 100000) :
  ah' Tryz.prog 20 ∧ Calls Tryz.prog 20 #[vl, .int .i64 lim] w (fun e w' => e = .returned (.int .i64 (szX lim c 0)) ∧ Kp [] w w') := by
 refine ⟨⟨_, Tryz.func20, rfl, by decide⟩, ?_⟩
 obtain ⟨RES, hRES⟩ : ∃ r, szX lim c 0 = r := ⟨_, rfl⟩
 rw [hRES]
 have hll := hl
 obtain ⟨al, cl, rfl, hl1, hl2⟩ := hl
 have l1 := hl1.1
 refine af' (args := [_, _]) 35 [.tmp 4] τok Tryz.func20 rfl rfl rfl (Nat.le_of_ble_eq_true rfl) ?_
 refine lp τok (σ := Nat × Int) (fun q => [(0, .slice al c.length cl), (1, .int .i64 lim), (5, .int .i64 q.2), (6, .int .i64 (q.1 : Int))])
  (fun q w' => q.1 ≤ c.length ∧ 0 ≤ q.2 ∧ q.2 ≤ 4000000000000 ∧ Kp [] w w' ∧ szX lim (c.drop q.1) q.2 = RES) (fun q => c.length - q.1) (0, 0) rfl
  ⟨rfl, rfl, rfl, rfl, trivial⟩ ⟨Nat.zero_le _, Int.le_refl _, by decide, Kp.refl _ _, hRES⟩ ?_
 clear hRES
 rintro ⟨i, a⟩ w1 ⟨hi, ha0, ha1, hk1, hres⟩
 simp only at hi ha0 ha1 hres
 have fin : szX lim (c.drop i) a = a → Ending.returned (Go.Wx.one [.int .i64 a]) = .returned (.int .i64 RES) ∧ Kp [] w w1 := fun h => by
  rw [h] at hres
  subst hres
  exact ⟨rfl, hk1⟩
 refine ac' (fun g => ?_) (fun g => ?_)
 ·have g : (i : Int) < (c.length : Int) := g
  refine ac' (fun g2 => ?_) (fun g2 => ?_)
  ·have g2 : a < lim := g2
   obtain ⟨q, hq, hd⟩ := ag' (l := c) (k := i) (by omega)
   rw [hd] at hres
   simp only [szX] at hres
   rw [if_pos g2] at hres
   obtain ⟨bc, oc, cc', pc, hat⟩ := hll.at hq
   obtain ⟨vty, vva, hbc, hbt, hbv⟩ := oy' hat
   injection pc with q1 q2 q3
   subst q1 q3
   obtain ⟨aty, cty, rfl, ht1, _⟩ := id hbt
   obtain ⟨ava, cva, rfl, hv1, _⟩ := id hbv
   have lt1 := ht1.1
   have lv1 := hv1.1
   have hS1 := hS.tr hk1
   refine ax' τok (fun z => Kp [] w1 z) ?_
   refine rV τok [0, 1, 2, 3, 4, 5, 6, 7, 8, 9, 10, 11, 12, 13, 14, 15, 16] 0 (mB 17 []) ((Kp.refl [] w1).dr _) ?_
   refine ai' (by omega) (by omega) ?_
   refine ix i rfl (by omega) ?_
   refine ldK (hS1 _ _ _ (hbc 0 _ rfl)) ?_
   refine ai' (by omega) (by omega) ?_
   refine ix i rfl (by omega) ?_
   refine ldK (hS1 _ _ _ (hbc 1 _ rfl)) ?_
   refine ai' (by omega) (by omega) ?_
   refine dV ?_
   refine ai' (by omega) (by omega) ?_
   exact ⟨(i + 1, a + 1 + (q.1.length : Int) + (q.2.length : Int)), by simp only; omega, rfl, ⟨rfl, rfl, rfl, rfl, trivial⟩, by show i + 1 ≤ _; omega, by simp only; omega, by simp only; omega, hk1.dr _, hres⟩
  ·have g2 : ¬ a < lim := g2
   exact fin (rf' g2 _)
 ·have g : ¬ (i : Int) < (c.length : Int) := g
  exact fin (by rw [List.drop_eq_nil_of_le (by omega)]; rfl)
end
structure CaT where
 book : BoT
 ctx : CxR
 term : List Nd
 type : List Nd
 fuel : Int
def CaV (C : Mem) (x : CaT) (v : Value) : Prop :=
 ∃ v1 v2 v3 vc vt vy, v = .agg #[.int .i64 x.book.vars, v1, v2, .int .i64 x.book.nat, v3, vc, vt, vy, .int .i64 x.fuel] ∧ SV rOr C x.book.orders v1 ∧ SV rEn C x.book.ents v2 ∧ SV rPr C x.book.prims v3 ∧ SV rBd C x.ctx vc ∧ SV rNd C x.term vt ∧ SV rNd C x.type vy ∧ I64 x.fuel
def kD' (x : CaT) : Bool := decide (2500 ≤ ng' x.book 2500) || (decide (1500 ≤ szX 1500 x.ctx 0) || (decide (300 < x.ctx.length) || (decide (1500 < x.term.length + x.type.length) || decide (300 < x.fuel))))
section
variable {C : Mem} {w : World} {x : CaT}
set_option maxRecDepth 20000 in
theorem rh' (hS : Sub C w) {v : Value} (hv : CaV C x v) :
  ah' Tryz.prog 8 ∧ Calls Tryz.prog 8 #[v] w (fun e w' => e = .returned (.bool (kD' x)) ∧ Kp [] w w') := by
 refine ⟨⟨_, Tryz.func8, rfl, by decide⟩, ?_⟩
 obtain ⟨RES, hRES⟩ : ∃ r, kD' x = r := ⟨_, rfl⟩
 rw [hRES]
 unfold kD' at hRES
 obtain ⟨v1, v2, v3, vc, vt, vy, rfl, hO, hE, hP, hC, hT, hY, hf⟩ := hv
 obtain ⟨ac, cc, rfl, _, _⟩ := id hC
 obtain ⟨at_, ct_, rfl, ht1, _⟩ := id hT
 obtain ⟨ay, cy, rfl, hy1, _⟩ := id hY
 have lt := ht1.1
 have ly := hy1.1
 have tt : ∀ {w'}, Kp [] w w' → RES = true → Ending.returned (Go.Wx.one [.bool true]) = .returned (.bool RES) ∧ Kp [] w w' := fun k h => by subst h; exact ⟨rfl, k⟩
 refine af' (args := [_]) 34 [.tmp 2] τok Tryz.func8 rfl rfl rfl (Nat.le_of_ble_eq_true rfl) ?_
 refine new fun b1 w1 hb1 h1 hs1 hk1 => ?_
 have h1 : Bk w1.heap b1 [.int .i64 x.book.vars, v1, v2, .int .i64 x.book.nat, v3, .slice ac x.ctx.length cc, .slice at_ x.term.length ct_, .slice ay x.type.length cy, .int .i64 x.fuel] 31 := h1
 refine ldN [.int .i64 x.book.vars, v1, v2, .int .i64 x.book.nat, v3] rfl (fun j u hj => by
  refine h1.cl ?_
  rw [Nat.zero_add]
  match j, hj with
  | 0, hj => exact hj
  | 1, hj => exact hj
  | 2, hj => exact hj
  | 3, hj => exact hj
  | 4, hj => exact hj
  | j + 5, hj => cases hj) ?_
 refine ab' (td' (B := x.book) (hS.tr hk1) ⟨v1, v2, v3, rfl, hO, hE, hP⟩ (lim := 2500) (by omega)) ?_
 rintro e w2 ⟨rfl, hk2⟩
 have k02 := hk1.tr hk2
 have h1 := h1.kp hk2 (by simp)
 refine ac' (fun g => ?_) (fun g => ?_)
 ·have g : 2500 ≤ ng' x.book 2500 := g
  rw [decide_eq_true g] at hRES
  exact tt k02 (by rw [← hRES]; rfl)
 have g : ¬ 2500 ≤ ng' x.book 2500 := g
 rw [decide_eq_false g, Bool.false_or] at hRES
 refine ld (Cl.cell (h1.cl rfl)) ?_
 refine ab' (rg' (hS.tr k02) hC (lim := 1500) (by omega)) ?_
 rintro e w3 ⟨rfl, hk3⟩
 have k03 := k02.tr hk3
 have h1 := h1.kp hk3 (by simp)
 refine ac' (fun g2 => ?_) (fun g2 => ?_)
 ·have g2 : 1500 ≤ szX 1500 x.ctx 0 := g2
  rw [decide_eq_true g2] at hRES
  exact tt k03 (by rw [← hRES]; rfl)
 have g2 : ¬ 1500 ≤ szX 1500 x.ctx 0 := g2
 rw [decide_eq_false g2, Bool.false_or] at hRES
 refine ld (Cl.cell (h1.cl rfl)) ?_
 refine ac' (fun g3 => ?_) (fun g3 => ?_)
 ·have g3 : (300 : Int) < (x.ctx.length : Int) := g3
  rw [decide_eq_true (by omega)] at hRES
  exact tt k03 (by rw [← hRES]; rfl)
 have g3 : ¬ (300 : Int) < (x.ctx.length : Int) := g3
 rw [decide_eq_false (by omega), Bool.false_or] at hRES
 refine ld (Cl.cell (h1.cl rfl)) ?_
 refine ld (Cl.cell (h1.cl rfl)) ?_
 refine ai' (by omega) (by omega) ?_
 refine ac' (fun g4 => ?_) (fun g4 => ?_)
 ·have g4 : (1500 : Int) < (x.term.length : Int) + (x.type.length : Int) := g4
  rw [decide_eq_true (by omega)] at hRES
  exact tt k03 (by rw [← hRES]; rfl)
 have g4 : ¬ (1500 : Int) < (x.term.length : Int) + (x.type.length : Int) := g4
 rw [decide_eq_false (by omega), Bool.false_or] at hRES
 refine ld (Cl.cell (h1.cl rfl)) ?_
 subst hRES
 exact ⟨rfl, k03⟩
end
def B0 : BoT := ⟨0, [], [], -1, []⟩
def r1 : List Nd := [⟨2, 1, 1⟩, ⟨3, 0, 0⟩]
def r2 : List Nd := [⟨6, 0, 0⟩, ⟨2, 0, 1⟩, ⟨3, 0, 0⟩, ⟨2, 1, 1⟩, ⟨3, 0, 0⟩]
def x1 : Tr := .mk ⟨2, 1, 1⟩ [.mk ⟨3, 0, 0⟩ []]
def x0 : Tr := .mk ⟨2, 0, 1⟩ [.mk ⟨3, 0, 0⟩ []]
def x2 : Tr := .mk ⟨6, 0, 0⟩ [x0, x1]
theorem uo' : Ok .tm x1 := by
 refine ⟨⟨rfl, ⟨rfl, trivial⟩, trivial⟩, rfl⟩
theorem up' : Ok .tm x2 := by
 refine ⟨⟨rfl, ⟨rfl, ⟨rfl, trivial⟩, trivial⟩, ⟨rfl, ⟨rfl, trivial⟩, trivial⟩, trivial⟩, rfl⟩
theorem rQ' : row x1 = r1 := rfl
theorem rR' : row x2 = r2 := rfl
theorem rS' : aT' B0 = 0 := by rfl
theorem vd' : Ft (QB B0) 0 x1 := ⟨uo', by decide, fun q hq => by simp [x1, varsT, varsK] at hq, fun m hm => by
 rw [rQ'] at hm
 simp only [r1, List.mem_cons, List.not_mem_nil, or_false] at hm
 rcases hm with rfl | rfl <;> rfl⟩
theorem ve' : Ft (QB B0) 0 x2 := ⟨up', by decide, fun q hq => by simp [x2, x0, x1, varsT, varsK] at hq, fun m hm => by
 rw [rR'] at hm
 simp only [r2, List.mem_cons, List.not_mem_nil, or_false] at hm
 rcases hm with rfl | rfl | rfl | rfl | rfl <;> rfl⟩
theorem vf' : aQ' B0 [] r1 = 0 := by
 have := ed' rS' (c := []) (fun i q hq => by simp at hq) (by simp) (x := x1) (by simpa using vd')
 rwa [rQ'] at this
theorem vg' : aQ' B0 [] r2 = 0 := by
 have := ed' rS' (c := []) (fun i q hq => by simp at hq) (by simp) (x := x2) (by simpa using ve')
 rwa [rR'] at this
theorem nh' {B : BoT} {cx : Ctx} {x : Tr} {f : Int} (hp : eh' x = none) (hr : dk' B cx x = false) : whnfTop B cx x f = .ok (x, aW' f) := by
 have hg := tY'
 obtain ⟨g, hgw⟩ : ∃ g, GW = g + 1 := ⟨GW - 1, by omega⟩
 unfold whnfTop
 rw [hgw]
 simp only [whnfG, preW, hp, eX']
 rw [if_neg (by rw [hr]; simp)]
theorem vh' : cA' B0 [] r1 3 = .ok (.mk ⟨2, 1, 1⟩ [.mk ⟨3, 0, 1⟩ []], 3) := by
 unfold cA'
 rw [if_neg (by rw [vf']; simp)]
 have ht : tr r1 = x1 := cb' uo'
 rw [ht]
 have hg := mY'
 obtain ⟨g, hgj⟩ : ∃ g, GJ = g + 1 := ⟨GJ - 1, by omega⟩
 unfold de'
 rw [hgj]
 simp only [aK']
 unfold bL'
 rw [if_neg (by decide), if_pos (by decide)]
 rfl
theorem vi' : cA' B0 [] r2 3 = .error 12 := by
 unfold cA'
 rw [if_neg (by rw [vg']; simp)]
 have ht : tr r2 = x2 := cb' up'
 rw [ht]
 have hg := mY'
 obtain ⟨g, hgj⟩ : ∃ g, GJ = g + 1 + 1 := ⟨GJ - 2, by omega⟩
 unfold de'
 rw [hgj]
 simp only [aK']
 unfold bL'
 rw [if_neg (by decide), if_neg (by decide), if_neg (by decide), if_neg (by decide), if_neg (by decide), if_neg (by decide), if_neg (by decide), if_pos (by decide)]
 unfold sT'
 have h1 : aK' B0 (g + 1) (cxR []) (kidD x2 0) (aW' 3) = .ok (.mk ⟨2, 1, 1⟩ [.mk ⟨3, 0, 1⟩ []], 3) := by
  simp only [aK']
  unfold bL'
  rw [if_neg (by decide), if_pos (by decide)]
  rfl
 have h2 : ej' B0 (cxR []) (.mk ⟨2, 1, 1⟩ [.mk ⟨3, 0, 1⟩ []]) 3 = .ok (.mk ⟨2, 1, 1⟩ [.mk ⟨3, 0, 1⟩ []], 3) := by
  unfold ej'
  rw [if_neg (by decide), nh' (by rfl) (by rfl)]
  rfl
 show bdJ (aK' B0 (g + 1) (cxR []) (kidD x2 0) (aW' 3)) _ = _
 rw [h1, bD', h2, bD']
 rfl
theorem px' {w : World} {b T : Nat} {l : List Nd} (hb : Bk w.heap b (l.flatMap fun m => [.int .i64 m.op, .int .i64 m.a, .int .i64 m.b]) T) (hi : ∀ m ∈ l, I64 m.op ∧ I64 m.a ∧ I64 m.b) (hl : l.length ≤ 1000) : SV rNd (Im [] w) l (.slice (some ⟨b, 0, none⟩) l.length l.length) := by
 refine ⟨_, _, rfl, ⟨by omega, .inr ⟨b, 0, rfl, fun i m hm => ⟨_, ⟨rfl, hi m (List.mem_of_getElem? hm)⟩, fun j u hj => ⟨?_, by simp⟩⟩⟩⟩, Nat.le_refl _⟩
 rw [Nat.zero_add]
 refine hb.cl ?_
 have hlen : ∀ (l : List Nd), (l.flatMap fun m => [Value.int .i64 m.op, .int .i64 m.a, .int .i64 m.b]).length = l.length * 3 := by
  intro l
  induction l with
  | nil => rfl
  | cons a l ih => simp only [List.flatMap_cons, List.length_append, ih, List.length_cons, List.length_nil]; omega
 have : ∀ (l : List Nd) (i : Nat), l[i]? = some m → ∀ (j : Nat) u, [Value.int .i64 m.op, .int .i64 m.a, .int .i64 m.b][j]? = some u → (l.flatMap fun m => [Value.int .i64 m.op, .int .i64 m.a, .int .i64 m.b])[i * 3 + j]? = some u := by
  intro l
  induction l with
  | nil => intro i h; simp at h
  | cons a l ih =>
   intro i h j u hj
   have hj3 := al' hj
   cases i with
   | zero =>
    simp only [List.getElem?_cons_zero, Option.some.injEq] at h
    subst h
    rw [Nat.zero_mul, Nat.zero_add, List.flatMap_cons, List.getElem?_append_left (by simpa using hj3)]
    exact hj
   | succ i =>
    simp only [List.getElem?_cons_succ] at h
    have := ih i h j u hj
    rw [List.flatMap_cons, List.getElem?_append_right (by simp; omega)]
    rw [show (i + 1) * 3 + j - [Value.int .i64 a.op, .int .i64 a.a, .int .i64 a.b].length = i * 3 + j by simp; omega]
    exact this
 exact this l i hm j u hj
theorem b0_v {C : Mem} : BoV C B0 (.agg #[.int .i64 0, .slice none 0 0, .slice none 0 0, .int .i64 (-1), .slice none 0 0]) := ⟨_, _, _, rfl, SV.nil _ _, SV.nil _ _, SV.nil _ _⟩
set_option maxRecDepth 20000 in
theorem ri' (w : World) :
  ah' Tryz.prog 7 ∧ Calls Tryz.prog 7 #[] w (fun e w' => e = .returned (.bool true) ∧ Kp [] w w') := by
 refine ⟨⟨_, Tryz.func7, rfl, by decide⟩, ?_⟩
 refine af' (args := []) 45 [.tmp 0] τok Tryz.func7 rfl rfl rfl (Nat.le_of_ble_eq_true rfl) ?_
 refine fill [.int .i64 2, .int .i64 1, .int .i64 1, .int .i64 3, .int .i64 0, .int .i64 0] rfl ?_
 refine new fun b1 w1 hb1 h1 hs1 hk1 => ?_
 have hr1 : SV rNd (Im [] w1) r1 (.slice (some ⟨b1, 0, none⟩) 2 2) := px' h1 (by simp [r1, I64]) (by decide)
 refine ab' (fg' (X := []) (B := B0) (c := []) (t := r1) (fuel := 3) (by simp) b0_v (SV.nil _ _) hr1) ?_
 rintro e w2 ⟨he, hk2⟩
 rw [vh'] at he
 obtain ⟨u, rfl, hu⟩ := he
 obtain ⟨au, cu, rfl, hu1, hu2⟩ := hu
 have k02 := hk1.tr hk2
 refine fill [.int .i64 6, .int .i64 0, .int .i64 0, .int .i64 2, .int .i64 0, .int .i64 1, .int .i64 3, .int .i64 0, .int .i64 0, .int .i64 2, .int .i64 1, .int .i64 1, .int .i64 3, .int .i64 0, .int .i64 0] rfl ?_
 refine new fun b3 w3 hb3 h3 hs3 hk3 => ?_
 have hr2 : SV rNd (Im [] w3) r2 (.slice (some ⟨b3, 0, none⟩) 5 5) := px' h3 (by simp [r2, I64]) (by decide)
 refine ab' (fg' (X := []) (B := B0) (c := []) (t := r2) (fuel := 3) (by simp) b0_v (SV.nil _ _) hr2) ?_
 rintro e w4 ⟨he, hk4⟩
 rw [vi'] at he
 obtain rfl := he
 have k24 := hk3.tr hk4
 refine fill [.int .i64 2, .int .i64 1, .int .i64 1, .int .i64 3, .int .i64 0, .int .i64 1] rfl ?_
 refine new fun b5 w5 hb5 h5 hs5 hk5 => ?_
 have k25 := k24.tr hk5
 have hr3 : SV rNd (Im [] w5) [⟨2, 1, 1⟩, ⟨3, 0, 1⟩] (.slice (some ⟨b5, 0, none⟩) 2 2) := px' h5 (by simp [I64]) (by decide)
 obtain ⟨a3, c3, e3, hr3a, hr3b⟩ := hr3
 injection e3 with q1 q2 q3
 subst q1
 have hsm := gJ' (w := w5) (C := Im [] w5) (D := Im [] w5) (Im.sub _ _) (Im.sub _ _) (row (.mk ⟨2, 1, 1⟩ [.mk ⟨3, 0, 1⟩ []])) [⟨2, 1, 1⟩, ⟨3, 0, 1⟩] au _ cu c3 (hu1.mono fun _ _ _ h => h.tr k25) hr3a
 rw [← q3] at hsm
 refine ab' hsm ?_
 rintro e w6 ⟨rfl, hk6⟩
 exact ⟨rfl, k02.tr (k25.tr hk6)⟩
def Fue {α : Type} (F : Nat → Except Int (α × Nat)) : Prop := ∀ n a n', n ≤ 100000 → F n = .ok (a, n') → n' ≤ n ∧ ∀ m, m ≤ 100000 → (n - n' ≤ m → F m = .ok (a, m - (n - n'))) ∧ (m < n - n' → F m = .error 10)
theorem bw' {α : Type} {e : Int} : Fue (α := α) fun _ => .error e := fun n a n' hn h => by cases h
theorem aI' {α : Type} {a : α} : Fue fun n => .ok (a, n) := fun n b n' hn h => by
 injection h with h
 injection h with h1 h2
 subst h1 h2
 exact ⟨Nat.le_refl _, fun m hm => ⟨fun _ => by simp, fun h => by omega⟩⟩
theorem fP' {α : Type} {r : Except Int α} : Fue fun n => puJ r n := by
 cases r with
 | error e => exact bw'
 | ok a => exact aI'
theorem aC' {α β : Type} {F : Nat → Except Int (α × Nat)} {K : α → Nat → Except Int (β × Nat)} (hF : Fue F) (hK : ∀ a, Fue (K a)) : Fue fun n => bdJ (F n) K := fun n b n' hn h => by
 obtain ⟨⟨a, n1⟩, h1, h2⟩ := aq' h
 obtain ⟨l1, f1⟩ := hF n a n1 hn h1
 obtain ⟨l2, f2⟩ := hK a n1 b n' (by omega) h2
 refine ⟨by omega, fun m hm => ?_⟩
 obtain ⟨p1, p2⟩ := f1 m hm
 constructor
 ·intro hu
  simp only
  rw [p1 (by omega), bD']
  have := (f2 (m - (n - n1)) (by omega)).1 (by omega)
  simp only
  rw [this]
  congr 2
  omega
 ·intro hu
  simp only
  by_cases hq : m < n - n1
  ·rw [p2 hq]
   rfl
  ·rw [p1 (by omega), bD']
   exact (f2 (m - (n - n1)) (by omega)).2 (by omega)
theorem mC' {α : Type} {F : Nat → Except Int (α × Nat)} (hF : Fue F) : Fue fun n => if n = 0 then .error 10 else F (n - 1) := fun n a n' hn h => by
 simp only at h
 split at h
 ·cases h
 rename_i g
 obtain ⟨l1, f1⟩ := hF (n - 1) a n' (by omega) h
 refine ⟨by omega, fun m hm => ⟨fun hu => ?_, fun hu => ?_⟩⟩
 ·simp only
  rw [if_neg (by omega), (f1 (m - 1) (by omega)).1 (by omega)]
  congr 2
  omega
 ·simp only
  split
  ·rfl
  ·exact (f1 (m - 1) (by omega)).2 (by omega)
theorem as' {α : Type} {c : Prop} [Decidable c] {F G : Nat → Except Int (α × Nat)} (hF : Fue F) (hG : Fue G) : Fue fun n => if c then F n else G n := by
 by_cases h : c
 ·simpa [h] using hF
 ·simpa [h] using hG
theorem aU' {α : Type} {F G : Nat → Except Int (α × Nat)} (h : ∀ n, F n = G n) (hG : Fue G) : Fue F := by
 have : F = G := funext h
 rw [this]
 exact hG
theorem kE' {α : Type} {F : Nat → Except Int (α × Nat)} (hF : Fue F) : Fue fun n => F (aW' (n : Int)) := fun n a n' hn h => by
 have e : ∀ m : Nat, m ≤ 100000 → aW' (m : Int) = m := fun m hm => by unfold aW'; omega
 simp only at h
 rw [e n hn] at h
 obtain ⟨l1, f1⟩ := hF n a n' hn h
 exact ⟨l1, fun m hm => by simp only; rw [e m hm]; exact f1 m hm⟩
theorem te' (m : Except Int (Bool × Nat)) (k : Nat → Except Int (Bool × Nat)) : ft' m k = bdJ m fun b n => if b = true then k n else .ok (false, n) := by
 cases m with
 | error e => rfl
 | ok q => rfl
theorem fz' {F : Nat → Except Int (Bool × Nat)} {K : Nat → Except Int (Bool × Nat)} (hF : Fue F) (hK : Fue K) : Fue fun n => ft' (F n) K :=
 aU' (fun n => te' _ _) (aC' hF fun b => as' hK aI')
section
variable {B : BoT}
theorem kF' (cx : Ctx) : ∀ (g : Nat) (x : Tr) (room : Int), Fue (whnfG B cx g x room)
 | 0, x, room => bw'
 | g + 1, x, room => by
  have ih := kF' cx g
  have hpre : Fue (preW (whnfG B cx g) x room) := by
   unfold preW
   cases hp : eh' x with
   | none => exact aI'
   | some p =>
    exact aU' (G := fun n => bdJ (whnfG B cx g p (room - len x + len p) n) fun z n => .ok (dL' x z, n)) (fun n => by
     simp only
     cases whnfG B cx g p (room - len x + len p) n <;> rfl) (aC' (ih _ _) fun a => aI')
  have hpost : ∀ z, Fue fun n => eX' B cx (whnfG B cx g) room (z, n) := fun z => by
   unfold eX'
   simp only
   refine as' ?_ aI'
   refine aU' (G := fun n => if n = 0 then .error 10 else (fun n => match ownM B cx z with
    | .error e => .error e
    | .ok y => if room < len y then .error 9 else whnfG B cx g y room n) (n - 1)) (fun n => rfl) (mC' (F := fun n => match ownM B cx z with
    | .error e => .error e
    | .ok y => if room < len y then .error 9 else whnfG B cx g y room n) ?_)
   cases ownM B cx z with
   | error e => exact bw'
   | ok y => exact as' bw' (ih _ _)
  refine aU' (G := fun n => bdJ (preW (whnfG B cx g) x room n) fun z n => eX' B cx (whnfG B cx g) room (z, n)) (fun n => ?_) (aC' hpre hpost)
  simp only [whnfG]
  cases preW (whnfG B cx g) x room n <;> rfl
theorem eA' (cx : Ctx) (x : Tr) : Fue fun n => whnfTop B cx x (n : Int) := kE' (kF' cx GW x 4096)
abbrev uq' (rc : RcC) : Prop := ∀ cx x y u, Fue (rc cx x y u)
theorem js' {rc : RcC} (hr : uq' rc) (cx : Ctx) : ∀ (xs ys : List Tr), Fue (kh' rc cx xs ys)
 | x :: r, y :: s => aU' (fun n => rfl) (fz' (hr cx x y false) (js' hr cx r s))
 | [], ys => aU' (G := fun n => .ok (true, n)) (fun n => by simp [kh']) aI'
 | x :: r, [] => aU' (G := fun n => .ok (true, n)) (fun n => by simp [kh']) aI'
theorem mD' {rc : RcC} (hr : uq' rc) (cx cx' : Ctx) : ∀ (xs ys : List Tr), Fue (ii' rc cx cx' xs ys)
 | x :: a :: r, y :: b :: s => aU' (fun n => rfl) (fz' (hr cx x y false) (fz' (hr cx' a b false) (mD' hr cx cx' r s)))
 | [], ys => aU' (G := fun n => .ok (true, n)) (fun n => by simp [ii']) aI'
 | [x], ys => aU' (G := fun n => .ok (true, n)) (fun n => by simp [ii']) aI'
 | x :: a :: r, [] => aU' (G := fun n => .ok (true, n)) (fun n => by simp [ii']) aI'
 | x :: a :: r, [y] => aU' (G := fun n => .ok (true, n)) (fun n => by simp [ii']) aI'
theorem ni' {rc : RcC} (hr : uq' rc) (cx : Ctx) (f h : Tr) (u : Bool) : Fue (dM' B rc cx f h u) := by
 unfold dM'
 refine as' aI' (as' (fz' (hr _ _ _ _) (hr _ _ _ _)) (as' (fz' (hr _ _ _ _) (hr _ _ _ _)) (as' (as' ?_ aI') (as' (js' hr _ _ _) aI'))))
 unfold gK'
 exact as' (mD' hr _ _ _ _) aI'
theorem py' {rc : RcC} (hr : uq' rc) (cx : Ctx) (x y : Tr) (u : Bool) : Fue (ki' B rc cx x y u) := by
 unfold ki'
 exact as' aI' (fz' (ni' hr _ _ _ _) (js' hr _ _ _))
theorem mE' : ∀ (g : Nat), uq' (mn' B g)
 | 0 => fun cx x y u => bw'
 | g + 1 => fun cx x y u => by
  have ih := mE' g
  obtain ⟨H, hH⟩ : ∃ H : Nat → Except Int (Bool × Nat), H = fun (n : Nat) => if row x = row y then .ok (true, n) else if 256 < cx.length then .error 5 else bdJ (whnfTop B cx x (n : Int)) fun p n => bdJ (whnfTop B cx y (n : Int)) fun q n => ki' B (mn' B g) cx p q u n := ⟨_, rfl⟩
  have hf : Fue H := by
   rw [hH]
   exact as' aI' (as' bw' (aC' (eA' cx x) fun p => aC' (eA' cx y) fun q => py' ih cx p q u))
  refine aU' (G := fun n => if n = 0 then .error 10 else H (n - 1)) (fun n => ?_) (mC' hf)
  simp only [mn', hH]
  congr 1
  congr 1
  congr 1
  cases whnfTop B cx x ((n - 1 : Nat) : Int) with
  | error e => rfl
  | ok p =>
   simp only [bD']
   cases whnfTop B cx y (p.2 : Int) <;> rfl
theorem dQ' (cx : Ctx) (t : Tr) : Fue (ej' B cx t) := as' bw' (eA' cx t)
theorem kG' (cx : Ctx) (x y : Tr) (u : Bool) : Fue (en' B cx x y u) := as' bw' (kE' (mE' GC cx x y u))
abbrev RjFu (rc : RcJ) : Prop := ∀ cx t, Fue (rc cx t)
variable {rc : RcJ} (hr : RjFu rc)
include hr
theorem cM' (cx : Ctx) (t : Tr) : Fue (dx' B rc cx t) := aC' (hr cx t) fun ty => aC' (dQ' cx ty) fun z => as' bw' aI'
theorem dl' (cx : Ctx) (t ty : Tr) : Fue (cf' B rc cx t ty) := aC' (hr cx t) fun z => aC' (kG' cx z ty true) fun b => as' aI' bw'
omit hr in
theorem kH' (a : Int) (ps : List Tr) (ni : Nat) : ∀ (k i : Nat) (cx : Ctx) (m : Tr), Fue (kp' B a ps ni k i cx m)
 | 0, i, cx, m => aC' (dQ' cx m) fun f => as' bw' aI'
 | k + 1, i, cx, m => aC' (dQ' cx m) fun f => as' bw' (aC' fP' fun w => aC' (kG' cx _ w false) fun b => as' (kH' a ps ni k (i + 1) _ _) bw')
theorem kI' : ∀ (l : List Tr) (cx : Ctx), Fue (hC' B rc cx l)
 | [], cx => aI'
 | a :: r, cx => aC' (cM' hr cx a) fun q => as' aI' (kI' r _)
theorem ly' (a : Int) : Fue (cj' B rc a) := as' aI' (as' aI' (kI' hr _ _))
theorem fh' (cx : Ctx) (a : Int) (ps : List Tr) (mo : Tr) : ∀ (l : List Tr) (k : Nat), Fue (aH' B rc cx a ps mo k l)
 | [], k => aI'
 | b :: r, k => aC' fP' fun ty => aC' (dl' hr cx b ty) fun _ => fh' cx a ps mo r (k + 1)
theorem nj' (cx : Ctx) (nd : Nd) (ks : List Tr) : Fue (eo' B rc cx nd ks) := by
 unfold eo'
 simp only
 exact aC' (hr cx _) fun ty => aC' (dQ' cx ty) fun z => as' bw' (as' bw' (aC' (hr cx _) fun mt => aC' (kH' _ _ _ _ _ _ _) fun kind => aC' (as' (ly' hr _) aI') fun s => as' bw' (aC' (fh' hr cx _ _ _ _ _) fun _ => fP')))
theorem iu' (cx : Ctx) (t : Tr) : ∀ (k i : Nat), Fue (ep' B rc cx t k i)
 | 0, i => aI'
 | k + 1, i => aC' (cM' hr cx _) fun _ => iu' cx t k (i + 1)
theorem gW' (cx : Ctx) (t : Tr) (nb : Nat) : ∀ (k i : Nat), Fue (cK' B rc cx t nb k i)
 | 0, i => aI'
 | k + 1, i => aC' (dl' hr cx _ _) fun _ => gW' cx t nb k (i + 1)
theorem rj' (cx : Ctx) (t : Tr) : Fue (qM' B rc cx t) := aC' (iu' hr cx t _ _) fun _ => as' bw' (aC' (gW' hr _ t _ _ _) fun _ => aI')
theorem nk' (cx : Ctx) (t : Tr) : Fue (bL' B rc cx t) := by
 unfold bL'
 refine as' aI' (as' ?_ (as' aI' (as' fP' (as' fP' (as' ?_ (as' ?_ (as' ?_ (as' ?_ (as' (nj' hr cx _ _) (rj' hr cx t))))))))))
 ·exact as' bw' aI'
 ·exact aC' (cM' hr cx _) fun p => aC' (cM' hr _ _) fun q => as' bw' aI'
 ·exact aC' (cM' hr cx _) fun p => aC' (hr _ _) fun q => fP'
 ·exact aC' (hr cx _) fun ty => aC' (dQ' cx ty) fun z => as' bw' (aC' (dl' hr cx _ _) fun _ => fP')
 ·exact aC' (cM' hr cx _) fun p => aC' (dl' hr cx _ _) fun _ => aC' (hr _ _) fun z => fP'
omit hr in
theorem ef' : ∀ (g : Nat), RjFu (aK' B g)
 | 0 => fun cx t => bw'
 | g + 1 => fun cx t => nk' (ef' g) cx t
end
theorem rk' {B : BoT} {c : CxR} {t : List Nd} {f : Int} {er : Int} (h : cA' B c t f = .error er) : er ≠ 0 := by
 unfold cA' at h
 split at h
 ·rename_i g
  injection h with h
  rw [← h]
  exact g
 ·rename_i g
  obtain ⟨hB, _⟩ := da' (Decidable.not_not.1 g)
  exact (bm' hB GJ).er _ _ _ _ h
theorem bk5 {w : World} {b T : Nat} {x : CaT} {v1 v2 v3 vc vt vy : Value} (h : Bk w.heap b [.int .i64 x.book.vars, v1, v2, .int .i64 x.book.nat, v3, vc, vt, vy, .int .i64 x.fuel] T) : ∀ j u, [Value.int .i64 x.book.vars, v1, v2, .int .i64 x.book.nat, v3][j]? = some u → Cl w.heap b (0 + j) u := fun j u hj => by
 refine h.cl ?_
 rw [Nat.zero_add]
 match j, hj with
 | 0, hj => exact hj
 | 1, hj => exact hj
 | 2, hj => exact hj
 | 3, hj => exact hj
 | 4, hj => exact hj
 | j + 5, hj => cases hj
section
variable {w : World} {x : CaT}
end
section
variable {B : BoT}
theorem dm' {f : Int} (h0 : 0 ≤ f) (h1 : f ≤ 100000) : aW' f = f.toNat := by unfold aW'; omega
theorem gX' {c : CxR} {t : List Nd} {f : Int} {a : Tr} {n : Nat} (h : cA' B c t f = .ok (a, n)) : aQ' B c t = 0 ∧ c.length ≤ 256 ∧ aQ' B c (row a) = 0 ∧ Ok .tm a ∧ Ft (QB B) (c.length : Int) a ∧ GoodB B ∧ aT' B = 0 ∧ CxOk B (cxR c) ∧ c = (cxR c).map bdR ∧ Ft (QB B) (c.length : Int) (tr t) := by
 unfold cA' at h
 split at h
 ·cases h
 rename_i g
 have g := Decidable.not_not.1 g
 obtain ⟨hB, hr, hl, hce, hcx, hte, hft⟩ := da' g
 have hF := (bm' hB GJ).ft (cxR c) (tr t) (aW' f) (a, n) hcx (by rw [br']; omega) (by rw [br']; exact hft) h
 rw [br'] at hF
 have hff := ed' hr hcx (by rw [br']; exact hl) (x := a) (by rw [br']; exact hF)
 rw [← hce] at hff
 exact ⟨g, hl, hff, hF.ok, hF, hB, hr, hcx, hce, hft⟩
end
def RcLq (r s : RcJ) : Prop := ∀ cx t n q, r cx t n = .ok q → s cx t n = .ok q
theorem ay' {α β : Type} {m m' : Except Int (α × Nat)} {k k' : α → Nat → Except Int (β × Nat)} (hm : ∀ q, m = .ok q → m' = .ok q) (hk : ∀ a n q, k a n = .ok q → k' a n = .ok q) {q : β × Nat} (h : bdJ m k = .ok q) : bdJ m' k' = .ok q := by
 obtain ⟨p, h1, h2⟩ := aq' h
 rw [hm p h1]
 exact hk _ _ _ h2
section
variable {B : BoT} {r s : RcJ} (hl : RcLq r s)
include hl
theorem bT' {cx : Ctx} {t : Tr} {n : Nat} {q} (h : dx' B r cx t n = .ok q) : dx' B s cx t n = .ok q :=
 ay' (hl cx t n) (fun _ _ _ h => h) h
theorem cN' {cx : Ctx} {t ty : Tr} {n : Nat} {q} (h : cf' B r cx t ty n = .ok q) : cf' B s cx t ty n = .ok q :=
 ay' (hl cx t n) (fun _ _ _ h => h) h
theorem iv' : ∀ (l : List Tr) (cx : Ctx) (n : Nat) q, hC' B r cx l n = .ok q → hC' B s cx l n = .ok q
 | [], _, _, _, h => h
 | a :: l, cx, n, q, h => ay' (fun _ h => bT' hl h) (fun a n q h => by
   split at h
   ·rename_i g; refine (if_pos g).trans ?_; exact h
   ·rename_i g; refine (if_neg g).trans ?_; exact iv' l _ _ _ h) h
theorem kJ' {a : Int} {n : Nat} {q} (h : cj' B r a n = .ok q) : cj' B s a n = .ok q := by
 unfold cj' at h ⊢
 split at h
 ·rename_i g; refine (if_pos g).trans ?_; exact h
 rename_i g
 refine (if_neg g).trans ?_
 split at h
 ·rename_i g; refine (if_pos g).trans ?_; exact h
 rename_i g
 refine (if_neg g).trans ?_
 exact iv' hl _ _ _ _ h
theorem eq' {cx : Ctx} {a : Int} {ps : List Tr} {mo : Tr} : ∀ (l : List Tr) (k n : Nat) q, aH' B r cx a ps mo k l n = .ok q → aH' B s cx a ps mo k l n = .ok q
 | [], _, _, _, h => h
 | b :: l, k, n, q, h => ay' (fun _ h => h) (fun a n q h => ay' (fun _ h => cN' hl h) (fun _ n q h => eq' l _ _ _ h) h) h
theorem gY' {cx : Ctx} {t : Tr} : ∀ (k i n : Nat) q, ep' B r cx t k i n = .ok q → ep' B s cx t k i n = .ok q
 | 0, _, _, _, h => h
 | k + 1, i, n, q, h => ay' (fun _ h => bT' hl h) (fun _ n q h => gY' k _ _ _ h) h
theorem fQ' {cx : Ctx} {t : Tr} {nb : Nat} : ∀ (k i n : Nat) q, cK' B r cx t nb k i n = .ok q → cK' B s cx t nb k i n = .ok q
 | 0, _, _, _, h => h
 | k + 1, i, n, q, h => ay' (fun _ h => cN' hl h) (fun _ n q h => fQ' k _ _ _ h) h
theorem lz' : RcLq (bL' B r) (bL' B s) := fun cx t n q h => by
 unfold bL' at h ⊢
 split at h
 ·rename_i g; refine (if_pos g).trans ?_; exact h
 rename_i g; refine (if_neg g).trans ?_
 split at h
 ·rename_i g; refine (if_pos g).trans ?_; exact h
 rename_i g; refine (if_neg g).trans ?_
 split at h
 ·rename_i g; refine (if_pos g).trans ?_; exact h
 rename_i g; refine (if_neg g).trans ?_
 split at h
 ·rename_i g; refine (if_pos g).trans ?_; exact h
 rename_i g; refine (if_neg g).trans ?_
 split at h
 ·rename_i g; refine (if_pos g).trans ?_; exact h
 rename_i g; refine (if_neg g).trans ?_
 split at h
 ·rename_i g; refine (if_pos g).trans ?_
  exact ay' (fun _ h => bT' hl h) (fun _ n q h => ay' (fun _ h => bT' hl h) (fun _ _ _ h => h) h) h
 rename_i g; refine (if_neg g).trans ?_
 split at h
 ·rename_i g; refine (if_pos g).trans ?_
  exact ay' (fun _ h => bT' hl h) (fun _ n q h => ay' (hl _ _ _) (fun _ _ _ h => h) h) h
 rename_i g; refine (if_neg g).trans ?_
 split at h
 ·rename_i g; refine (if_pos g).trans ?_
  refine ay' (hl _ _ _) (fun _ n q h => ay' (fun _ h => h) (fun z n q h => ?_) h) h
  split at h
  ·rename_i g; refine (if_pos g).trans ?_; exact h
  rename_i g; refine (if_neg g).trans ?_
  exact ay' (fun _ h => cN' hl h) (fun _ _ _ h => h) h
 rename_i g; refine (if_neg g).trans ?_
 split at h
 ·rename_i g; refine (if_pos g).trans ?_
  exact ay' (fun _ h => bT' hl h) (fun _ n q h => ay' (fun _ h => cN' hl h) (fun _ _ _ h => ay' (hl _ _ _) (fun _ _ _ h => h) h) h) h
 rename_i g; refine (if_neg g).trans ?_
 split at h
 ·rename_i g; refine (if_pos g).trans ?_
  unfold eo' at h ⊢
  refine ay' (hl _ _ _) (fun _ n q h => ay' (fun _ h => h) (fun z n q h => ?_) h) h
  split at h
  ·rename_i g; refine (if_pos g).trans ?_; exact h
  rename_i g; refine (if_neg g).trans ?_
  split at h
  ·rename_i g; refine (if_pos g).trans ?_; exact h
  rename_i g; refine (if_neg g).trans ?_
  refine ay' (hl _ _ _) (fun _ n q h => ay' (fun _ h => h) (fun z n q h => ay' (fun q h => ?_) (fun b n q h => ?_) h) h) h
  ·split at h
   ·rename_i g; refine (if_pos g).trans ?_; exact kJ' hl h
   ·rename_i g; refine (if_neg g).trans ?_; exact h
  ·split at h
   ·rename_i g; refine (if_pos g).trans ?_; exact h
   rename_i g; refine (if_neg g).trans ?_
   exact ay' (fun _ h => eq' hl _ _ _ _ h) (fun _ _ _ h => h) h
 rename_i g; refine (if_neg g).trans ?_
 unfold qM' at h ⊢
 refine ay' (fun _ h => gY' hl _ _ _ _ h) (fun _ n q h => ?_) h
 split at h
 ·rename_i g; refine (if_pos g).trans ?_; exact h
 rename_i g; refine (if_neg g).trans ?_
 exact ay' (fun _ h => fQ' hl _ _ _ _ h) (fun _ _ _ h => h) h
omit hl in
theorem kK' : ∀ (g : Nat), RcLq (aK' B g) (aK' B (g + 1))
 | 0 => fun cx t n q h => by cases h
 | g + 1 => lz' (kK' g)
end
theorem RcLq.one {B : BoT} {g : Nat} (h : GJ = g + 1) : RcLq (aK' B g) (aK' B GJ) := by rw [h]; exact kK' g
theorem GJ_s : ∃ g, GJ = g + 1 := ⟨GJ - 1, by have := mY'; omega⟩
theorem Fue.all {α : Type} {F : Nat → Except Int (α × Nat)} (hF : Fue F) {n m : Nat} {a : α} {n' : Nat} (hn : n ≤ 100000) (hm : m ≤ 100000) (hnm : n ≤ m) (h : F n = .ok (a, n')) : ∃ m', F m = .ok (a, m') := by
 obtain ⟨l, f⟩ := hF n a n' hn h
 exact ⟨_, (f m hm).1 (by omega)⟩
theorem pz' {Q : Nd → Prop} {N : Int} {z : Tr} (hz : Ft Q N z) (h : ¬ 0 < (argsT z).length) : headT z = z := by
 have e := hz.spine
 have : argsT z = [] := List.length_eq_zero_iff.1 (by omega)
 rw [this] at e
 exact e
section
variable {B : BoT} {c : CxR} {t : List Nd}
theorem rl' {f : Int} (h0 : 0 ≤ f) (h1 : f ≤ 1000) {g n : Nat} (hg : GJ = g + 1) (hn : n ≤ f.toNat) {x : Tr} {q} (hf : aQ' B c (row x) = 0) (hx : Ok .tm x) (h : dx' B (aK' B g) (cxR c) x n = .ok q) : ∃ q', ne' B c (row x) f = .ok q' := by
 have h := bT' (RcLq.one hg) h
 obtain ⟨m', h2⟩ := (cM' (ef' GJ) (cxR c) x).all (m := f.toNat) (a := q.1) (n' := q.2) (by omega) (by omega) hn h
 refine ⟨(q.1, m'), ?_⟩
 unfold ne' gT'
 rw [if_neg (by rw [hf]; simp), cb' hx, dm' h0 (by omega), h2]
theorem pA' {f : Int} (h0 : 0 ≤ f) (h1 : f ≤ 1000) {g n : Nat} (hg : GJ = g + 1) (hn : n ≤ f.toNat) {x y : Tr} {q} (hf : aQ' B c (row x) = 0) (hx : Ok .tm x) (hf' : aQ' B c (row y) = 0) (hy : Ok .tm y) (h : cf' B (aK' B g) (cxR c) x y n = .ok q) : ∃ q', it' B c (row x) (row y) f = .ok q' := by
 have h := cN' (RcLq.one hg) h
 obtain ⟨m', h2⟩ := (dl' (ef' GJ) (cxR c) x y).all (m := f.toNat) (a := q.1) (n' := q.2) (by omega) (by omega) hn h
 refine ⟨(q.1, m'), ?_⟩
 unfold it' eb'
 rw [if_neg (by rw [hf]; simp), if_neg (by rw [hf']; simp), cb' hx, cb' hy, dm' h0 (by omega), h2]
theorem rm' {f : Int} (h0 : 0 ≤ f) (h1 : f ≤ 1000) {g n : Nat} (hg : GJ = g + 1) (hn : n ≤ f.toNat) {x a : Tr} {n' : Nat} (hf : aQ' B c (row x) = 0) (hx : Ok .tm x) (h : aK' B g (cxR c) x n = .ok (a, n')) : ∃ m', cA' B c (row x) f = .ok (a, m') := by
 have h := RcLq.one hg _ _ _ _ h
 obtain ⟨m', h2⟩ := (ef' GJ (cxR c) x).all (m := f.toNat) (a := a) (n' := n') (by omega) (by omega) hn h
 refine ⟨m', ?_⟩
 unfold cA' de'
 rw [if_neg (by rw [hf]; simp), cb' hx, dm' h0 (by omega), h2]
theorem pB' {c : CxR} {t : List Nd} (hr : aT' B = 0) (h : 256 < c.length) : aQ' B c t = 5 := by
 unfold aQ'
 rw [if_neg (by omega), if_pos h]
theorem pC' {f : Int} (h0 : 0 ≤ f) (h1 : f ≤ 1000) {a : Tr} {n : Nat} (h : cA' B c t f = .ok (a, n)) (h5 : (tr t).n.op = 5) :
  ∃ x y, kidsT (tr t) = [x, y] ∧ Ft (QB B) (c.length : Int) x ∧ Ft (QB B) ((c.length : Int) + 1) y ∧ (∃ q, ne' B c (row x) f = .ok q) ∧
   (c.length = 256 → cA' B (c ++ [(row x, [])]) (row y) f = .error 5) ∧ (c.length < 256 → ∃ z m, cA' B (c ++ [(row x, [])]) (row y) f = .ok (z, m) ∧ Ok .tm z ∧ bq' [x] z = .ok a) := by
 obtain ⟨g1, g2, g3, g4, gA, hB, hr, hcx, hce, hft⟩ := gX' h
 obtain ⟨l, k0, k1⟩ := cz' hft (.inr h5)
 obtain ⟨x, y, hk⟩ : ∃ x y, kidsT (tr t) = [x, y] := by
  match hh : kidsT (tr t), l with
  | [x, y], _ => exact ⟨x, y, rfl⟩
 have kx : kidD (tr t) 0 = x := by unfold kidD; rw [hk]; rfl
 have ky : kidD (tr t) 1 = y := by unfold kidD; rw [hk]; rfl
 rw [kx] at k0
 rw [ky] at k1
 obtain ⟨g, hg⟩ := GJ_s
 unfold cA' at h
 rw [if_neg (by rw [g1]; simp)] at h
 unfold de' at h
 rw [dm' h0 (by omega), hg] at h
 simp only [aK'] at h
 unfold bL' at h
 rw [if_neg (by omega), if_neg (by omega), if_neg (by omega), if_neg (by omega), if_neg (by omega), if_neg (by omega), if_pos h5] at h
 unfold tv' at h
 rw [kx, ky] at h
 obtain ⟨p, h2, h⟩ := aq' h
 obtain ⟨q, h3, h⟩ := aq' h
 obtain ⟨hb, _⟩ := cw' h
 have l2 := (bn' hB (bm' hB g) h2).2.1
 have hcl : (cxR c).length = c.length := br' c
 have fx : aQ' B c (row x) = 0 := by
  have := ed' hr hcx (by rw [hcl]; omega) (x := x) (by rw [hcl]; exact k0)
  rwa [← hce] at this
 refine ⟨x, y, hk, k0, k1, rl' h0 h1 hg (Nat.le_refl _) fx k0.ok h2, fun hl => ?_, fun hl => ?_⟩
 ·unfold cA'
  have e := pB' (c := c ++ [(row x, [])]) (t := row y) hr (by simp; omega)
  rw [e]
  rfl
 ·have hcx' : CxOk B (cxR c ++ [(x, none)]) := hcx.snoc (by rw [hcl]; exact k0) (fun x hx => by cases hx)
  have ce : cxR (c ++ [(row x, [])]) = cxR c ++ [(x, none)] := by simp [cxR, cb' k0.ok]
  have hf := ed' hr hcx' (by simp [hcl]; omega) (x := y) (by rw [bz', hcl]; exact k1.mono (by omega))
  have e2 : (cxR c ++ [(x, none)]).map bdR = c ++ [(row x, [])] := by rw [List.map_append, ← hce]; simp [bdR, mP']
  rw [e2] at hf
  obtain ⟨m', h4⟩ := rm' (c := c ++ [(row x, [])]) h0 h1 hg l2 hf k1.ok (by rw [ce]; exact h3)
  have hz := (bm' hB g).ft _ _ _ q hcx' (by simp [hcl]; omega) (by rw [bz', hcl]; exact k1.mono (by omega)) h3
  exact ⟨q.1, m', h4, hz.ok, hb⟩
theorem pD' {f : Int} (h0 : 0 ≤ f) (h1 : f ≤ 1000) {a : Tr} {n : Nat} (h : cA' B c t f = .ok (a, n)) (h6 : (tr t).n.op = 6) :
  ∃ x y ty l z l2 d cod, kidsT (tr t) = [x, y] ∧ Ft (QB B) (c.length : Int) x ∧ Ft (QB B) (c.length : Int) y ∧ cA' B c (row x) f = .ok (ty, l) ∧ Ft (QB B) (c.length : Int) ty ∧ nf' B c (row ty) l = .ok (z, l2) ∧
   Ft (QB B) (c.length : Int) z ∧ z.n.op = 4 ∧ kidsT z = [d, cod] ∧ Ft (QB B) (c.length : Int) d ∧ Ft (QB B) ((c.length : Int) + 1) cod ∧ (∃ q, it' B c (row y) (row d) f = .ok q) ∧ aE' cod y 0 = .ok a := by
 obtain ⟨g1, g2, g3, g4, gA, hB, hr, hcx, hce, hft⟩ := gX' h
 obtain ⟨l, k0, k1⟩ := jg' hft h6
 obtain ⟨x, y, hk⟩ : ∃ x y, kidsT (tr t) = [x, y] := by
  match hh : kidsT (tr t), l with
  | [x, y], _ => exact ⟨x, y, rfl⟩
 have kx : kidD (tr t) 0 = x := by unfold kidD; rw [hk]; rfl
 have ky : kidD (tr t) 1 = y := by unfold kidD; rw [hk]; rfl
 rw [kx] at k0
 rw [ky] at k1
 obtain ⟨g, hg⟩ := GJ_s
 unfold cA' at h
 rw [if_neg (by rw [g1]; simp)] at h
 unfold de' at h
 rw [dm' h0 (by omega), hg] at h
 simp only [aK'] at h
 unfold bL' at h
 rw [if_neg (by omega), if_neg (by omega), if_neg (by omega), if_neg (by omega), if_neg (by omega), if_neg (by omega), if_neg (by omega), if_pos h6] at h
 unfold sT' at h
 rw [kx, ky] at h
 obtain ⟨p, h2, h⟩ := aq' h
 obtain ⟨q, h3, h⟩ := aq' h
 split at h
 ·cases h
 rename_i gg
 obtain ⟨u, h4, h⟩ := aq' h
 obtain ⟨hb, _⟩ := cw' h
 have hcl : (cxR c).length = c.length := br' c
 have fits : ∀ {x : Tr}, Ft (QB B) (c.length : Int) x → aQ' B c (row x) = 0 := fun {x} hx => by
  have := ed' hr hcx (by rw [hcl]; omega) (x := x) (by rw [hcl]; exact hx)
  rwa [← hce] at this
 have fp := (bm' hB g).ft _ _ _ p hcx (by omega) (by rw [hcl]; exact k0) h2
 rw [hcl] at fp
 obtain ⟨_, q2, q3⟩ := dy' h3
 obtain ⟨_, q4, q5⟩ := dN' hB hcx (by rw [hcl]; exact fp) h3
 rw [hcl] at q5
 have hz : headT q.1 = q.1 := pz' q5 (by omega)
 rw [hz] at gg h4 hb
 have g4' : q.1.n.op = 4 := by omega
 obtain ⟨l', z0, z1⟩ := cz' q5 (.inl g4')
 obtain ⟨d, cod, hk'⟩ : ∃ x y, kidsT q.1 = [x, y] := by
  match hh : kidsT q.1, l' with
  | [x, y], _ => exact ⟨x, y, rfl⟩
 have kd : kidD q.1 0 = d := by unfold kidD; rw [hk']; rfl
 have kc : kidD q.1 1 = cod := by unfold kidD; rw [hk']; rfl
 rw [kd] at z0 h4
 rw [kc] at z1 hb
 have l1 := (bm' hB g).le _ _ _ _ h2
 have hty : cA' B c (row x) f = .ok (p.1, p.2) := by
  unfold cA' de'
  rw [if_neg (by rw [fits k0]; simp), cb' k0.ok, dm' h0 (by omega)]
  exact RcLq.one hg _ _ _ _ h2
 have hwh : nf' B c (row p.1) p.2 = .ok (q.1, q.2) := by
  unfold nf'
  rw [if_neg (by rw [fits fp]; simp), cb' fp.ok]
  exact q2
 exact ⟨x, y, p.1, p.2, q.1, q.2, d, cod, hk, k0, k1, hty, fp, hwh, q5, g4', hk', z0, z1, pA' h0 h1 hg (by omega) (fits k1) k1.ok (fits z0) z0.ok h4, hb⟩
end
end Go.Proofs.YtededhgpckkmkaaGreat
