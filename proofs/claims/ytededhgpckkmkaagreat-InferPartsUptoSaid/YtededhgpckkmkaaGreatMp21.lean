import Derived.Test.YtededhgpckkmkaaGreatMp20
set_option linter.unusedVariables false
set_option linter.unusedSimpArgs false
namespace Go.Proofs.YtededhgpckkmkaaGreat
open Go.Wx Cd Tm Lv
def Ones (g : G) : Prop := ∀ x y v, g x y = some v → v = 1
theorem Ones.bd {g : G} (h : Ones g) (x y : Int) : 0 ≤ (g x y).getD 0 ∧ (g x y).getD 0 ≤ 1 := by
 cases hg : g x y with
 | none => simp
 | some v => have := h x y v hg; simp [this]
theorem Ones.put {g : G} (h : Ones g) (x y : Int) : Ones (putG g x y 1) := fun a b v hv => by
 unfold putG at hv
 split at hv
 ·exact (Option.some.inj hv).symm
 ·exact h a b v hv
section
variable {C : Mem} {w : World} {B : BoT}
set_option maxRecDepth 20000 in
set_option maxHeartbeats 4000000 in
theorem jq' (hS : Sub C w) {vb : Value} (hvb : BoV C B vb) :
  ah' Tryz.prog 40 ∧ Calls Tryz.prog 40 #[vb] w (fun e w' => e = .returned (.bool (qX' B)) ∧ Kp [] w w') := by
 refine ⟨⟨_, Tryz.func40, rfl, by decide⟩, ?_⟩
 obtain ⟨RES, hRES⟩ : ∃ r, qX' B = r := ⟨_, rfl⟩
 rw [hRES]
 unfold qX' at hRES
 have hvb' := hvb
 obtain ⟨v1, v2, v3, rfl, hO, hE, hP⟩ := hvb
 obtain ⟨ae, ce, rfl, hE1, _⟩ := id hE
 obtain ⟨ap, cp, rfl, hP1, _⟩ := id hP
 have lP := hP1.1
 have no : ∀ {w'}, Kp [] w w' → RES = false → Ending.returned (Go.Wx.one [.bool false]) = .returned (.bool RES) ∧ Kp [] w w' := fun k h => by subst h; exact ⟨rfl, k⟩
 refine dS' (args := [_]) 89 [.tmp 2] Tryz.func40 rfl rfl rfl (Nat.le_of_ble_eq_true rfl) ?_
 refine be' τok ?_
 refine new fun b1 w1 hb1 h1 hs1 hk1 => ?_
 have h1 : Bk w1.heap b1 [.int .i64 B.vars, v1, .slice ae B.ents.length ce, .int .i64 B.nat, .slice ap B.prims.length cp] 26 := h1
 refine fD' τok (σ := Unit) (fun _ => [(1, pt b1)]) (fun _ w' => Kp [] w w' ∧ Bk w'.heap b1 [.int .i64 B.vars, v1, .slice ae B.ents.length ce, .int .i64 B.nat, .slice ap B.prims.length cp] 26 ∧ mZ' B B.prims (fun _ _ => none) = RES) ?_ ?_
 ·refine ld (Cl.cell (h1.cl rfl)) ?_
  refine ac' (fun g1 => ?_) (fun g1 => ?_)
  ·have g1 : B.nat ≠ -1 := g1
   refine ldN [.int .i64 B.vars, v1, .slice ae B.ents.length ce, .int .i64 B.nat, .slice ap B.prims.length cp] rfl (fun j u hj => by rw [Nat.zero_add]; exact h1.cl hj) ?_
   refine ld (Cl.cell (h1.cl rfl)) ?_
   refine ab' (nd' (hS.tr hk1) hvb' B.nat) ?_
   rintro e w2 ⟨rfl, hk2⟩
   have k02 := hk1.tr hk2
   cases hn : un' B B.nat with
   | false =>
    rw [if_pos (.inl ⟨g1, hn⟩)] at hRES
    exact no k02 hRES.symm
   | true =>
    rw [if_neg (by
     rintro (h | h)
     ·rw [hn] at h
      cases h.2
     ·exact g1 h.1)] at hRES
    have h1 := h1.kp hk2 (by simp)
    refine ld (Cl.cell (h1.cl rfl)) ?_
    refine cE' (p := B.nat = -1) g1 ?_
    exact ⟨(), rfl, ⟨rfl, trivial⟩, k02, h1, hRES⟩
  ·have g1 : ¬ B.nat ≠ -1 := g1
   refine ld (Cl.cell (h1.cl rfl)) ?_
   refine aA' (p := B.nat = -1) (by omega) ?_
   refine ld (Cl.cell (h1.cl rfl)) ?_
   refine ac' (fun g2 => ?_) (fun g2 => ?_)
   ·have g2 : (0 : Int) < (B.prims.length : Int) := g2
    rw [if_pos (.inr ⟨by omega, by omega⟩)] at hRES
    exact no hk1 hRES.symm
   have g2 : ¬ (0 : Int) < (B.prims.length : Int) := g2
   rw [if_neg (by
    rintro (h | h)
    ·exact g1 h.1
    ·omega)] at hRES
   exact ⟨(), rfl, ⟨rfl, trivial⟩, hk1, h1, hRES⟩
 ·rintro _ w2 ⟨k02, h1, hRES⟩
  have hb1l := h1.lt
  refine fS' τok ?_
  refine tb' fun bm w3 hbm hG hs3 hk3 => ?_
  have k03 := k02.tr hk3
  have h1 := h1.kp hk3 (by simp)
  have hbml : w.heap.size ≤ bm ∧ b1 < bm := by
   have q1 := k02.size
   have q2 : bm = (w2).heap.size := hbm
   have q3 := h1.lt
   have q4 := hb1l
   omega
  refine ld (Cl.cell (h1.cl rfl)) ?_
  refine lp τok (σ := Nat × G) (fun q => [(1, pt b1), (3, .map (some bm)), (31, .slice ap B.prims.length cp), (32, .int .i64 (B.prims.length : Int)), (33, .int .i64 (q.1 : Int))])
   (fun q w' => q.1 ≤ B.prims.length ∧ Ones q.2 ∧ GrP w'.heap bm q.2 ∧ Bk w'.heap b1 [.int .i64 B.vars, v1, .slice ae B.ents.length ce, .int .i64 B.nat, .slice ap B.prims.length cp] 26 ∧ Kp [] w w' ∧ mZ' B (B.prims.drop q.1) q.2 = RES) (fun q => B.prims.length - q.1) (0, fun _ _ => none) rfl
   ⟨rfl, rfl, rfl, rfl, rfl, trivial⟩ ⟨Nat.zero_le _, (fun x y v h => by cases h), hG, h1, k03, hRES⟩ ?_
  clear hRES hG h1 k03
  rintro ⟨i, gm⟩ w4 ⟨hi, hones, hG4, h14, k04, hres⟩
  simp only at hi hones hG4 hres
  refine ac' (fun g => ?_) (fun g => ?_)
  ·have g : (i : Int) < (B.prims.length : Int) := g
   obtain ⟨p, hp, hd⟩ := ag' (l := B.prims) (k := i) (by omega)
   rw [hd] at hres
   simp only [mZ'] at hres
   obtain ⟨bp, op, cp', pp, hpat⟩ := hP.at hp
   obtain ⟨cs, ⟨rfl, hi1, hi2⟩, hpc⟩ := hpat
   injection pp with q1 q2 q3
   subst q1 q3
   refine ix i rfl (by omega) ?_
   refine ldN [.int .i64 p.1, .int .i64 p.2] rfl (fun j u hj => hS.tr k04 _ _ _ (hpc j u hj)) ?_
   refine new fun b5 wb hb5 h5 hs5 hk5 => ?_
   refine stN (vs := [.int .i64 p.1, .int .i64 p.2]) h5 rfl (by simp [Value.oneCell']) fun w5 h5 hs6 hk6 => ?_
   have k45 := hk5.newSt hb5 hk6
   have h5 : Bk w5.heap b5 [.int .i64 p.1, .int .i64 p.2] 117 := h5
   have hG5 := hG4.kp k45 (by simp)
   have h14 := h14.kp k45 (by simp)
   have k04 := k04.tr k45
   have o1 : ∀ v ∈ [Value.int .i64 p.1, .int .i64 (-1)], v.oneCell' = true := fun v hv => by simp at hv; rcases hv with rfl | rfl <;> rfl
   have o2 : ∀ v ∈ [Value.int .i64 (-1), .int .i64 p.2], v.oneCell' = true := fun v hv => by simp at hv; rcases hv with rfl | rfl <;> rfl
   refine ax' τok (fun z => Kp [] w5 z) ?_
   refine rV τok [0, 1, 2, 3, 4, 5] 4 (mB 10 [6, 7, 8, 9]) ((Kp.refl [] w5).dr _) ?_
   refine ldK (h5.cl rfl) ?_
   refine ldK (h5.cl rfl) ?_
   refine fl' τok 6 7 3 (mB 10 [7, 8, 9]) (mB 10 [6, 8, 9]) rfl rfl rfl rfl rfl (by kernel_rfl) ?_ ?_
   ·refine new fun b6 wc hb6 h6 hs7 hk7 => ?_
    have hk7 : Kp [] w5 wc := hk7.rd
    have lb6 : w5.heap.size ≤ b6 := by
     have : b6 = w5.heap.size := hb6
     omega
    refine ⟨.inl hk7, ?_⟩
    refine nV τok 7 2 (mB 10 [8, 9]) ?_
    refine new fun b7 wd hb7 h7 hs8 hk8 => ?_
    have k36 := hk7.tr hk8
    have n67 : b6 ≠ b7 := by have := h6.lt; omega
    have lb7 : w5.heap.size ≤ b7 := by have := hk7.size; omega
    refine ⟨.inl k36, ?_⟩
    refine nV τok 8 1 (mB 10 [9]) ?_
    refine stN (vs := [.int .i64 p.1, .int .i64 (-1)]) (h6.kp hk8 (by simp)) rfl o1 fun we h6' hs9 hk9 => ?_
    have k37 : Kp [] w5 we := k36.trans hk9 fun y hy hl => by simp at hy; omega
    refine ⟨.inl k37, ?_⟩
    refine nV τok 9 0 (mB 10 []) ?_
    refine stN (vs := [.int .i64 (-1), .int .i64 p.2]) (h7.kp hk9 (by simpa using Ne.symm n67)) rfl o2 fun w8 h7' hs10 hk10 => ?_
    refine ⟨.inr (by kernel_rfl), ?_⟩
    refine dV ?_
    have k48 : Kp [] w5 w8 := k37.trans hk10 fun y hy hl => by simp at hy; omega
    have k08 := k04.tr k48
    have h68 : Bk w8.heap b6 [.int .i64 p.1, .int .i64 (-1)] 117 := (h6'.kp hk10 (by simpa using n67))
    have h78 : Bk w8.heap b7 [.int .i64 (-1), .int .i64 p.2] 117 := h7'
    have h58 := h5.kp k48 (by simp)
    have h1w := h14.kp k48 (by simp)
    have hG8 := hG5.kp k48 (by simp)
    have kd : Kp [] w8 { w8 with drawn := w8.drawn + 1 } := (Kp.refl [] w8).dr _
    refine ax' τok (fun z => Kp [] w8 z) ?_
    refine rV τok [0, 1, 2, 3, 4, 5, 6, 7, 8, 9, 10, 11, 12, 13, 14, 15, 16, 17, 18, 19, 20, 21, 22, 23, 24, 25, 26, 27, 28, 29, 30, 31, 32, 33, 35, 36] 5 (mB 41 [34, 37, 38, 39, 40]) kd ?_
    refine ldK (h58.cl rfl) ?_
    refine ac' (fun y1 => ?_) (fun y1 => ?_)
    ·have y1 : p.1 < 0 := y1
     rw [if_pos (.inl y1)] at hres
     refine fl' τok 34 37 4 (mB 41 [37, 38, 39, 40]) (mB 41 [34, 38, 39, 40]) rfl rfl rfl rfl rfl (by kernel_rfl) ?_ ?_
     ·refine ⟨.inl kd, ?_⟩
      refine nV τok 37 3 (mB 41 [38, 39, 40]) ?_
      refine ⟨.inl kd, ?_⟩
      refine rV τok [38, 39, 40] 0 (mB 41 []) kd ?_
      refine dV ?_
      exact no (k08.dr _) hres.symm
     ·refine ⟨.inl kd, ?_⟩
      refine nV τok 34 3 (mB 41 [38, 39, 40]) ?_
      refine ⟨.inl kd, ?_⟩
      refine rV τok [38, 39, 40] 0 (mB 41 []) kd ?_
      refine dV ?_
      exact no (k08.dr _) hres.symm
    have y1 : ¬ p.1 < 0 := y1
    refine ldK (h58.cl rfl) ?_
    refine ldK (h1w.cl rfl) ?_
    refine ac' (fun y2 => ?_) (fun y2 => ?_)
    ·have y2 : (B.ents.length : Int) ≤ p.1 := y2
     rw [if_pos (.inr (.inl y2))] at hres
     refine fl' τok 34 37 4 (mB 41 [37, 38, 39, 40]) (mB 41 [34, 38, 39, 40]) rfl rfl rfl rfl rfl (by kernel_rfl) ?_ ?_
     ·refine ⟨.inl kd, ?_⟩
      refine nV τok 37 3 (mB 41 [38, 39, 40]) ?_
      refine ⟨.inl kd, ?_⟩
      refine rV τok [38, 39, 40] 0 (mB 41 []) kd ?_
      refine dV ?_
      exact no (k08.dr _) hres.symm
     ·refine ⟨.inl kd, ?_⟩
      refine nV τok 34 3 (mB 41 [38, 39, 40]) ?_
      refine ⟨.inl kd, ?_⟩
      refine rV τok [38, 39, 40] 0 (mB 41 []) kd ?_
      refine dV ?_
      exact no (k08.dr _) hres.symm
    have y2 : ¬ (B.ents.length : Int) ≤ p.1 := y2
    obtain ⟨n, hn⟩ : ∃ n : Nat, p.1 = (n : Int) := ⟨p.1.toNat, by omega⟩
    obtain ⟨be, oe, ce', ae', cc', pe, hc1, hc2⟩ := kA' hS hE (a := n) (by omega)
    injection pe with q1 q2 q3
    subst q1 q3
    refine ldK (h1w.cl rfl) ?_
    refine ldK (h58.cl rfl) ?_
    refine ix n hn (by omega) ?_
    refine ldK (hS.tr k08 _ _ _ hc1) ?_
    refine ac' (fun y3 => ?_) (fun y3 => ?_)
    ·have y3 : (cJ' B (n : Int)).kind ≠ 2 := y3
     rw [if_pos (.inr (.inr (.inl (by rw [hn]; exact y3))))] at hres
     refine fl' τok 34 37 4 (mB 41 [37, 38, 39, 40]) (mB 41 [34, 38, 39, 40]) rfl rfl rfl rfl rfl (by kernel_rfl) ?_ ?_
     ·refine ⟨.inl kd, ?_⟩
      refine nV τok 37 3 (mB 41 [38, 39, 40]) ?_
      refine ⟨.inl kd, ?_⟩
      refine rV τok [38, 39, 40] 0 (mB 41 []) kd ?_
      refine dV ?_
      exact no (k08.dr _) hres.symm
     ·refine ⟨.inl kd, ?_⟩
      refine nV τok 34 3 (mB 41 [38, 39, 40]) ?_
      refine ⟨.inl kd, ?_⟩
      refine rV τok [38, 39, 40] 0 (mB 41 []) kd ?_
      refine dV ?_
      exact no (k08.dr _) hres.symm
    have y3 : ¬ (cJ' B (n : Int)).kind ≠ 2 := y3
    refine ldK (h58.cl rfl) ?_
    refine ac' (fun y4 => ?_) (fun y4 => ?_)
    ·have y4 : p.2 < 1 := y4
     rw [if_pos (.inr (.inr (.inr (.inl y4))))] at hres
     refine fl' τok 34 37 4 (mB 41 [37, 38, 39, 40]) (mB 41 [34, 38, 39, 40]) rfl rfl rfl rfl rfl (by kernel_rfl) ?_ ?_
     ·refine ⟨.inl kd, ?_⟩
      refine nV τok 37 3 (mB 41 [38, 39, 40]) ?_
      refine ⟨.inl kd, ?_⟩
      refine rV τok [38, 39, 40] 0 (mB 41 []) kd ?_
      refine dV ?_
      exact no (k08.dr _) hres.symm
     ·refine ⟨.inl kd, ?_⟩
      refine nV τok 34 3 (mB 41 [38, 39, 40]) ?_
      refine ⟨.inl kd, ?_⟩
      refine rV τok [38, 39, 40] 0 (mB 41 []) kd ?_
      refine dV ?_
      exact no (k08.dr _) hres.symm
    have y4 : ¬ p.2 < 1 := y4
    refine ldK (h58.cl rfl) ?_
    refine ac' (fun y5 => ?_) (fun y5 => ?_)
    ·have y5 : 3 < p.2 := y5
     rw [if_pos (.inr (.inr (.inr (.inr (.inl y5)))))] at hres
     refine fl' τok 34 37 4 (mB 41 [37, 38, 39, 40]) (mB 41 [34, 38, 39, 40]) rfl rfl rfl rfl rfl (by kernel_rfl) ?_ ?_
     ·refine ⟨.inl kd, ?_⟩
      refine nV τok 37 3 (mB 41 [38, 39, 40]) ?_
      refine ⟨.inl kd, ?_⟩
      refine rV τok [38, 39, 40] 0 (mB 41 []) kd ?_
      refine dV ?_
      exact no (k08.dr _) hres.symm
     ·refine ⟨.inl kd, ?_⟩
      refine nV τok 34 3 (mB 41 [38, 39, 40]) ?_
      refine ⟨.inl kd, ?_⟩
      refine rV τok [38, 39, 40] 0 (mB 41 []) kd ?_
      refine dV ?_
      exact no (k08.dr _) hres.symm
    have y5 : ¬ 3 < p.2 := y5
    rw [← hn] at y3
    refine dr' [.int .i64 p.1, .int .i64 (-1)] rfl (fun j u hj => by rw [Nat.zero_add]; exact h68.cl hj) ?_
    refine dr' [.int .i64 (-1), .int .i64 p.2] rfl (fun j u hj => by rw [Nat.zero_add]; exact h78.cl hj) ?_
    have hG8d : GrP ({ w8 with drawn := w8.drawn + 1 } : World).heap bm gm := hG8
    have bd1 := hones.bd p.1 (-1)
    have bd2 := hones.bd (-1) p.2
    refine fl' τok 34 37 4 (mB 41 [37, 38, 39, 40]) (mB 41 [34, 38, 39, 40]) rfl rfl rfl rfl rfl (by kernel_rfl) ?_ ?_
    ·refine run (db' hG8d p.1 (-1) false) ?_
     refine ⟨.inl kd, ?_⟩
     refine nV τok 37 3 (mB 41 [38, 39, 40]) ?_
     refine run (db' hG8d (-1) p.2 false) ?_
     refine ⟨.inl kd, ?_⟩
     refine rV τok [38, 39, 40] 0 (mB 41 []) kd ?_
     refine ai' (by omega) (by omega) ?_
     refine dV ?_
     refine ac' (fun y6 => ?_) (fun y6 => ?_)
     ·have y6 : (0 : Int) < (gm p.1 (-1)).getD 0 + (gm (-1) p.2).getD 0 := y6
      rw [if_pos (.inr (.inr (.inr (.inr (.inr y6)))))] at hres
      exact no (k08.dr _) hres.symm
     have y6 : ¬ (0 : Int) < (gm p.1 (-1)).getD 0 + (gm (-1) p.2).getD 0 := y6
     rw [if_neg (by omega)] at hres
     have kd0 : Kp [] w8 { w8 with drawn := w8.drawn + 1 } := (Kp.refl [] w8).dr _
     have hbmlt := hG5.lt
     have n6 : b6 ∉ [bm] := by simp; omega
     have n7 : b7 ∉ [bm] := by simp; omega
     refine ax' τok (fun z => Kp [bm] w8 z) ?_
     refine rV τok [0, 1, 2, 3] 2 (mB 6 [4, 5]) ((kd0.dr _).weak (by simp)) ?_
     refine no' [.int .i64 p.1, .int .i64 (-1)] rfl (fun z hz j u hj => by rw [Nat.zero_add]; exact (h68.kp hz n6).cl hj) ?_
     refine no' [.int .i64 (-1), .int .i64 p.2] rfl (fun z hz j u hj => by rw [Nat.zero_add]; exact (h78.kp hz n7).cl hj) ?_
     refine nV τok 4 1 (mB 6 [5]) ?_
     have hG8' : GrP ({ w8 with drawn := w8.drawn + 1 + 1 } : World).heap bm gm := hG8
     refine dP' hG8' p.1 (-1) 1 fun w9 hG9 hs9 hk9 => ?_
     refine ⟨.inl hk9.rd.rd, ?_⟩
     refine nV τok 5 0 (mB 6 []) ?_
     refine dP' hG9 (-1) p.2 1 fun wa hGa hsa hka => ?_
     refine ⟨.inr (by kernel_rfl), ?_⟩
     refine dV ?_
     refine ai' (by omega) (by omega) ?_
     have hk9 : Kp [bm] w8 w9 := hk9.rd.rd
     have k8a : Kp [bm] w8 wa := hk9.trans hka fun x hx _ => hx
     have k0a : Kp [] w wa := k08.trans k8a fun y hy hl => by
      obtain rfl : y = bm := by simpa using hy
      omega
     exact ⟨(i + 1, putG (putG gm p.1 (-1) 1) (-1) p.2 1), by simp only; omega, rfl, ⟨rfl, rfl, rfl, rfl, rfl, trivial⟩, by show i + 1 ≤ _; omega, (hones.put _ _).put _ _, hGa, h1w.kp k8a (by simp; omega), k0a, hres⟩
    ·refine run (db' hG8d (-1) p.2 false) ?_
     refine ⟨.inl kd, ?_⟩
     refine nV τok 34 3 (mB 41 [38, 39, 40]) ?_
     refine run (db' hG8d p.1 (-1) false) ?_
     refine ⟨.inl kd, ?_⟩
     refine rV τok [38, 39, 40] 0 (mB 41 []) kd ?_
     refine ai' (by omega) (by omega) ?_
     refine dV ?_
     refine ac' (fun y6 => ?_) (fun y6 => ?_)
     ·have y6 : (0 : Int) < (gm p.1 (-1)).getD 0 + (gm (-1) p.2).getD 0 := y6
      rw [if_pos (.inr (.inr (.inr (.inr (.inr y6)))))] at hres
      exact no (k08.dr _) hres.symm
     have y6 : ¬ (0 : Int) < (gm p.1 (-1)).getD 0 + (gm (-1) p.2).getD 0 := y6
     rw [if_neg (by omega)] at hres
     have kd0 : Kp [] w8 { w8 with drawn := w8.drawn + 1 } := (Kp.refl [] w8).dr _
     have hbmlt := hG5.lt
     have n6 : b6 ∉ [bm] := by simp; omega
     have n7 : b7 ∉ [bm] := by simp; omega
     refine ax' τok (fun z => Kp [bm] w8 z) ?_
     refine rV τok [0, 1, 2, 3] 2 (mB 6 [4, 5]) ((kd0.dr _).weak (by simp)) ?_
     refine no' [.int .i64 p.1, .int .i64 (-1)] rfl (fun z hz j u hj => by rw [Nat.zero_add]; exact (h68.kp hz n6).cl hj) ?_
     refine no' [.int .i64 (-1), .int .i64 p.2] rfl (fun z hz j u hj => by rw [Nat.zero_add]; exact (h78.kp hz n7).cl hj) ?_
     refine nV τok 4 1 (mB 6 [5]) ?_
     have hG8' : GrP ({ w8 with drawn := w8.drawn + 1 + 1 } : World).heap bm gm := hG8
     refine dP' hG8' p.1 (-1) 1 fun w9 hG9 hs9 hk9 => ?_
     refine ⟨.inl hk9.rd.rd, ?_⟩
     refine nV τok 5 0 (mB 6 []) ?_
     refine dP' hG9 (-1) p.2 1 fun wa hGa hsa hka => ?_
     refine ⟨.inr (by kernel_rfl), ?_⟩
     refine dV ?_
     refine ai' (by omega) (by omega) ?_
     have hk9 : Kp [bm] w8 w9 := hk9.rd.rd
     have k8a : Kp [bm] w8 wa := hk9.trans hka fun x hx _ => hx
     have k0a : Kp [] w wa := k08.trans k8a fun y hy hl => by
      obtain rfl : y = bm := by simpa using hy
      omega
     exact ⟨(i + 1, putG (putG gm p.1 (-1) 1) (-1) p.2 1), by simp only; omega, rfl, ⟨rfl, rfl, rfl, rfl, rfl, trivial⟩, by show i + 1 ≤ _; omega, (hones.put _ _).put _ _, hGa, h1w.kp k8a (by simp; omega), k0a, hres⟩
   ·refine new fun b7 wc hb7 h7 hs7 hk7 => ?_
    have hk7 : Kp [] w5 wc := hk7.rd
    have lb7 : w5.heap.size ≤ b7 := by
     have : b7 = w5.heap.size := hb7
     omega
    refine ⟨.inl hk7, ?_⟩
    refine nV τok 6 2 (mB 10 [8, 9]) ?_
    refine new fun b6 wd hb6 h6 hs8 hk8 => ?_
    have k36 := hk7.tr hk8
    have n67 : b6 ≠ b7 := by have := h7.lt; omega
    have lb6 : w5.heap.size ≤ b6 := by have := hk7.size; omega
    refine ⟨.inl k36, ?_⟩
    refine nV τok 8 1 (mB 10 [9]) ?_
    refine stN (vs := [.int .i64 p.1, .int .i64 (-1)]) h6 rfl o1 fun we h6' hs9 hk9 => ?_
    have k37 : Kp [] w5 we := k36.trans hk9 fun y hy hl => by simp at hy; omega
    refine ⟨.inl k37, ?_⟩
    refine nV τok 9 0 (mB 10 []) ?_
    refine stN (vs := [.int .i64 (-1), .int .i64 p.2]) ((h7.kp hk8 (by simp)).kp hk9 (by simpa using Ne.symm n67)) rfl o2 fun w8 h7' hs10 hk10 => ?_
    refine ⟨.inr (by kernel_rfl), ?_⟩
    refine dV ?_
    have k48 : Kp [] w5 w8 := k37.trans hk10 fun y hy hl => by simp at hy; omega
    have k08 := k04.tr k48
    have h68 : Bk w8.heap b6 [.int .i64 p.1, .int .i64 (-1)] 117 := (h6'.kp hk10 (by simpa using n67))
    have h78 : Bk w8.heap b7 [.int .i64 (-1), .int .i64 p.2] 117 := h7'
    have h58 := h5.kp k48 (by simp)
    have h1w := h14.kp k48 (by simp)
    have hG8 := hG5.kp k48 (by simp)
    have kd : Kp [] w8 { w8 with drawn := w8.drawn + 1 } := (Kp.refl [] w8).dr _
    refine ax' τok (fun z => Kp [] w8 z) ?_
    refine rV τok [0, 1, 2, 3, 4, 5, 6, 7, 8, 9, 10, 11, 12, 13, 14, 15, 16, 17, 18, 19, 20, 21, 22, 23, 24, 25, 26, 27, 28, 29, 30, 31, 32, 33, 35, 36] 5 (mB 41 [34, 37, 38, 39, 40]) kd ?_
    refine ldK (h58.cl rfl) ?_
    refine ac' (fun y1 => ?_) (fun y1 => ?_)
    ·have y1 : p.1 < 0 := y1
     rw [if_pos (.inl y1)] at hres
     refine fl' τok 34 37 4 (mB 41 [37, 38, 39, 40]) (mB 41 [34, 38, 39, 40]) rfl rfl rfl rfl rfl (by kernel_rfl) ?_ ?_
     ·refine ⟨.inl kd, ?_⟩
      refine nV τok 37 3 (mB 41 [38, 39, 40]) ?_
      refine ⟨.inl kd, ?_⟩
      refine rV τok [38, 39, 40] 0 (mB 41 []) kd ?_
      refine dV ?_
      exact no (k08.dr _) hres.symm
     ·refine ⟨.inl kd, ?_⟩
      refine nV τok 34 3 (mB 41 [38, 39, 40]) ?_
      refine ⟨.inl kd, ?_⟩
      refine rV τok [38, 39, 40] 0 (mB 41 []) kd ?_
      refine dV ?_
      exact no (k08.dr _) hres.symm
    have y1 : ¬ p.1 < 0 := y1
    refine ldK (h58.cl rfl) ?_
    refine ldK (h1w.cl rfl) ?_
    refine ac' (fun y2 => ?_) (fun y2 => ?_)
    ·have y2 : (B.ents.length : Int) ≤ p.1 := y2
     rw [if_pos (.inr (.inl y2))] at hres
     refine fl' τok 34 37 4 (mB 41 [37, 38, 39, 40]) (mB 41 [34, 38, 39, 40]) rfl rfl rfl rfl rfl (by kernel_rfl) ?_ ?_
     ·refine ⟨.inl kd, ?_⟩
      refine nV τok 37 3 (mB 41 [38, 39, 40]) ?_
      refine ⟨.inl kd, ?_⟩
      refine rV τok [38, 39, 40] 0 (mB 41 []) kd ?_
      refine dV ?_
      exact no (k08.dr _) hres.symm
     ·refine ⟨.inl kd, ?_⟩
      refine nV τok 34 3 (mB 41 [38, 39, 40]) ?_
      refine ⟨.inl kd, ?_⟩
      refine rV τok [38, 39, 40] 0 (mB 41 []) kd ?_
      refine dV ?_
      exact no (k08.dr _) hres.symm
    have y2 : ¬ (B.ents.length : Int) ≤ p.1 := y2
    obtain ⟨n, hn⟩ : ∃ n : Nat, p.1 = (n : Int) := ⟨p.1.toNat, by omega⟩
    obtain ⟨be, oe, ce', ae', cc', pe, hc1, hc2⟩ := kA' hS hE (a := n) (by omega)
    injection pe with q1 q2 q3
    subst q1 q3
    refine ldK (h1w.cl rfl) ?_
    refine ldK (h58.cl rfl) ?_
    refine ix n hn (by omega) ?_
    refine ldK (hS.tr k08 _ _ _ hc1) ?_
    refine ac' (fun y3 => ?_) (fun y3 => ?_)
    ·have y3 : (cJ' B (n : Int)).kind ≠ 2 := y3
     rw [if_pos (.inr (.inr (.inl (by rw [hn]; exact y3))))] at hres
     refine fl' τok 34 37 4 (mB 41 [37, 38, 39, 40]) (mB 41 [34, 38, 39, 40]) rfl rfl rfl rfl rfl (by kernel_rfl) ?_ ?_
     ·refine ⟨.inl kd, ?_⟩
      refine nV τok 37 3 (mB 41 [38, 39, 40]) ?_
      refine ⟨.inl kd, ?_⟩
      refine rV τok [38, 39, 40] 0 (mB 41 []) kd ?_
      refine dV ?_
      exact no (k08.dr _) hres.symm
     ·refine ⟨.inl kd, ?_⟩
      refine nV τok 34 3 (mB 41 [38, 39, 40]) ?_
      refine ⟨.inl kd, ?_⟩
      refine rV τok [38, 39, 40] 0 (mB 41 []) kd ?_
      refine dV ?_
      exact no (k08.dr _) hres.symm
    have y3 : ¬ (cJ' B (n : Int)).kind ≠ 2 := y3
    refine ldK (h58.cl rfl) ?_
    refine ac' (fun y4 => ?_) (fun y4 => ?_)
    ·have y4 : p.2 < 1 := y4
     rw [if_pos (.inr (.inr (.inr (.inl y4))))] at hres
     refine fl' τok 34 37 4 (mB 41 [37, 38, 39, 40]) (mB 41 [34, 38, 39, 40]) rfl rfl rfl rfl rfl (by kernel_rfl) ?_ ?_
     ·refine ⟨.inl kd, ?_⟩
      refine nV τok 37 3 (mB 41 [38, 39, 40]) ?_
      refine ⟨.inl kd, ?_⟩
      refine rV τok [38, 39, 40] 0 (mB 41 []) kd ?_
      refine dV ?_
      exact no (k08.dr _) hres.symm
     ·refine ⟨.inl kd, ?_⟩
      refine nV τok 34 3 (mB 41 [38, 39, 40]) ?_
      refine ⟨.inl kd, ?_⟩
      refine rV τok [38, 39, 40] 0 (mB 41 []) kd ?_
      refine dV ?_
      exact no (k08.dr _) hres.symm
    have y4 : ¬ p.2 < 1 := y4
    refine ldK (h58.cl rfl) ?_
    refine ac' (fun y5 => ?_) (fun y5 => ?_)
    ·have y5 : 3 < p.2 := y5
     rw [if_pos (.inr (.inr (.inr (.inr (.inl y5)))))] at hres
     refine fl' τok 34 37 4 (mB 41 [37, 38, 39, 40]) (mB 41 [34, 38, 39, 40]) rfl rfl rfl rfl rfl (by kernel_rfl) ?_ ?_
     ·refine ⟨.inl kd, ?_⟩
      refine nV τok 37 3 (mB 41 [38, 39, 40]) ?_
      refine ⟨.inl kd, ?_⟩
      refine rV τok [38, 39, 40] 0 (mB 41 []) kd ?_
      refine dV ?_
      exact no (k08.dr _) hres.symm
     ·refine ⟨.inl kd, ?_⟩
      refine nV τok 34 3 (mB 41 [38, 39, 40]) ?_
      refine ⟨.inl kd, ?_⟩
      refine rV τok [38, 39, 40] 0 (mB 41 []) kd ?_
      refine dV ?_
      exact no (k08.dr _) hres.symm
    have y5 : ¬ 3 < p.2 := y5
    rw [← hn] at y3
    refine dr' [.int .i64 p.1, .int .i64 (-1)] rfl (fun j u hj => by rw [Nat.zero_add]; exact h68.cl hj) ?_
    refine dr' [.int .i64 (-1), .int .i64 p.2] rfl (fun j u hj => by rw [Nat.zero_add]; exact h78.cl hj) ?_
    have hG8d : GrP ({ w8 with drawn := w8.drawn + 1 } : World).heap bm gm := hG8
    have bd1 := hones.bd p.1 (-1)
    have bd2 := hones.bd (-1) p.2
    refine fl' τok 34 37 4 (mB 41 [37, 38, 39, 40]) (mB 41 [34, 38, 39, 40]) rfl rfl rfl rfl rfl (by kernel_rfl) ?_ ?_
    ·refine run (db' hG8d p.1 (-1) false) ?_
     refine ⟨.inl kd, ?_⟩
     refine nV τok 37 3 (mB 41 [38, 39, 40]) ?_
     refine run (db' hG8d (-1) p.2 false) ?_
     refine ⟨.inl kd, ?_⟩
     refine rV τok [38, 39, 40] 0 (mB 41 []) kd ?_
     refine ai' (by omega) (by omega) ?_
     refine dV ?_
     refine ac' (fun y6 => ?_) (fun y6 => ?_)
     ·have y6 : (0 : Int) < (gm p.1 (-1)).getD 0 + (gm (-1) p.2).getD 0 := y6
      rw [if_pos (.inr (.inr (.inr (.inr (.inr y6)))))] at hres
      exact no (k08.dr _) hres.symm
     have y6 : ¬ (0 : Int) < (gm p.1 (-1)).getD 0 + (gm (-1) p.2).getD 0 := y6
     rw [if_neg (by omega)] at hres
     have kd0 : Kp [] w8 { w8 with drawn := w8.drawn + 1 } := (Kp.refl [] w8).dr _
     have hbmlt := hG5.lt
     have n6 : b6 ∉ [bm] := by simp; omega
     have n7 : b7 ∉ [bm] := by simp; omega
     refine ax' τok (fun z => Kp [bm] w8 z) ?_
     refine rV τok [0, 1, 2, 3] 2 (mB 6 [4, 5]) ((kd0.dr _).weak (by simp)) ?_
     refine no' [.int .i64 p.1, .int .i64 (-1)] rfl (fun z hz j u hj => by rw [Nat.zero_add]; exact (h68.kp hz n6).cl hj) ?_
     refine no' [.int .i64 (-1), .int .i64 p.2] rfl (fun z hz j u hj => by rw [Nat.zero_add]; exact (h78.kp hz n7).cl hj) ?_
     refine nV τok 4 1 (mB 6 [5]) ?_
     have hG8' : GrP ({ w8 with drawn := w8.drawn + 1 + 1 } : World).heap bm gm := hG8
     refine dP' hG8' p.1 (-1) 1 fun w9 hG9 hs9 hk9 => ?_
     refine ⟨.inl hk9.rd.rd, ?_⟩
     refine nV τok 5 0 (mB 6 []) ?_
     refine dP' hG9 (-1) p.2 1 fun wa hGa hsa hka => ?_
     refine ⟨.inr (by kernel_rfl), ?_⟩
     refine dV ?_
     refine ai' (by omega) (by omega) ?_
     have hk9 : Kp [bm] w8 w9 := hk9.rd.rd
     have k8a : Kp [bm] w8 wa := hk9.trans hka fun x hx _ => hx
     have k0a : Kp [] w wa := k08.trans k8a fun y hy hl => by
      obtain rfl : y = bm := by simpa using hy
      omega
     exact ⟨(i + 1, putG (putG gm p.1 (-1) 1) (-1) p.2 1), by simp only; omega, rfl, ⟨rfl, rfl, rfl, rfl, rfl, trivial⟩, by show i + 1 ≤ _; omega, (hones.put _ _).put _ _, hGa, h1w.kp k8a (by simp; omega), k0a, hres⟩
    ·refine run (db' hG8d (-1) p.2 false) ?_
     refine ⟨.inl kd, ?_⟩
     refine nV τok 34 3 (mB 41 [38, 39, 40]) ?_
     refine run (db' hG8d p.1 (-1) false) ?_
     refine ⟨.inl kd, ?_⟩
     refine rV τok [38, 39, 40] 0 (mB 41 []) kd ?_
     refine ai' (by omega) (by omega) ?_
     refine dV ?_
     refine ac' (fun y6 => ?_) (fun y6 => ?_)
     ·have y6 : (0 : Int) < (gm p.1 (-1)).getD 0 + (gm (-1) p.2).getD 0 := y6
      rw [if_pos (.inr (.inr (.inr (.inr (.inr y6)))))] at hres
      exact no (k08.dr _) hres.symm
     have y6 : ¬ (0 : Int) < (gm p.1 (-1)).getD 0 + (gm (-1) p.2).getD 0 := y6
     rw [if_neg (by omega)] at hres
     have kd0 : Kp [] w8 { w8 with drawn := w8.drawn + 1 } := (Kp.refl [] w8).dr _
     have hbmlt := hG5.lt
     have n6 : b6 ∉ [bm] := by simp; omega
     have n7 : b7 ∉ [bm] := by simp; omega
     refine ax' τok (fun z => Kp [bm] w8 z) ?_
     refine rV τok [0, 1, 2, 3] 2 (mB 6 [4, 5]) ((kd0.dr _).weak (by simp)) ?_
     refine no' [.int .i64 p.1, .int .i64 (-1)] rfl (fun z hz j u hj => by rw [Nat.zero_add]; exact (h68.kp hz n6).cl hj) ?_
     refine no' [.int .i64 (-1), .int .i64 p.2] rfl (fun z hz j u hj => by rw [Nat.zero_add]; exact (h78.kp hz n7).cl hj) ?_
     refine nV τok 4 1 (mB 6 [5]) ?_
     have hG8' : GrP ({ w8 with drawn := w8.drawn + 1 + 1 } : World).heap bm gm := hG8
     refine dP' hG8' p.1 (-1) 1 fun w9 hG9 hs9 hk9 => ?_
     refine ⟨.inl hk9.rd.rd, ?_⟩
     refine nV τok 5 0 (mB 6 []) ?_
     refine dP' hG9 (-1) p.2 1 fun wa hGa hsa hka => ?_
     refine ⟨.inr (by kernel_rfl), ?_⟩
     refine dV ?_
     refine ai' (by omega) (by omega) ?_
     have hk9 : Kp [bm] w8 w9 := hk9.rd.rd
     have k8a : Kp [bm] w8 wa := hk9.trans hka fun x hx _ => hx
     have k0a : Kp [] w wa := k08.trans k8a fun y hy hl => by
      obtain rfl : y = bm := by simpa using hy
      omega
     exact ⟨(i + 1, putG (putG gm p.1 (-1) 1) (-1) p.2 1), by simp only; omega, rfl, ⟨rfl, rfl, rfl, rfl, rfl, trivial⟩, by show i + 1 ≤ _; omega, (hones.put _ _).put _ _, hGa, h1w.kp k8a (by simp; omega), k0a, hres⟩
  ·have g : ¬ (i : Int) < (B.prims.length : Int) := g
   rw [List.drop_eq_nil_of_le (by omega)] at hres
   simp only [mZ'] at hres
   subst hres
   exact ⟨rfl, k04⟩
end
theorem kB' {a b : Int} (h : a ≠ 0) : bb' a b = a := by unfold bb'; rw [if_pos h]
section
variable {C : Mem} {w : World} {B : BoT}
set_option maxRecDepth 20000 in
theorem kC' (hS : Sub C w) (hold : ∀ b o v, C b o v → b < w.heap.size) {vb : Value} (hvb : BoV C B vb) :
  ah' Tryz.prog 21 ∧ Calls Tryz.prog 21 #[vb] w (fun e w' => e = .returned (.int .i64 (aT' B)) ∧ Kp [] w w') := by
 refine ⟨⟨_, Tryz.func21, rfl, by decide⟩, ?_⟩
 obtain ⟨RES, hRES⟩ : ∃ r, aT' B = r := ⟨_, rfl⟩
 rw [hRES]
 unfold aT' at hRES
 have hvb' := hvb
 obtain ⟨v1, v2, v3, rfl, hO, hE, hP⟩ := hvb
 obtain ⟨ao, co, rfl, hO1, _⟩ := id hO
 obtain ⟨ae, ce, rfl, hE1, _⟩ := id hE
 obtain ⟨ap, cp, rfl, hP1, _⟩ := id hP
 have lE := hE1.1
 refine af' (args := [_]) 39 [.tmp 2] τok Tryz.func21 rfl rfl rfl (Nat.le_of_ble_eq_true rfl) ?_
 refine new fun b1 w1 hb1 h1 hs1 hk1 => ?_
 have h1 : Bk w1.heap b1 [.int .i64 B.vars, .slice ao B.orders.length co, .slice ae B.ents.length ce, .int .i64 B.nat, .slice ap B.prims.length cp] 26 := h1
 refine ld (Cl.cell (h1.cl rfl)) ?_
 refine ld (Cl.cell (h1.cl rfl)) ?_
 refine ab' (qr' B.vars B.orders ao co w1 (Sl.ordV hO1 (hS.tr hk1))) ?_
 rintro e w2 ⟨rfl, hk2⟩
 have k02 := hk1.tr hk2
 have h1 := h1.kp hk2 (by simp)
 refine ac' (fun g1 => ?_) (fun g1 => ?_)
 ·have g1 : gA' B.vars B.orders ≠ 0 := g1
  rw [if_pos g1] at hRES
  subst hRES
  exact ⟨rfl, k02⟩
 have g1 : ¬ gA' B.vars B.orders ≠ 0 := g1
 rw [if_neg g1] at hRES
 refine ld (Cl.cell (h1.cl rfl)) ?_
 refine ac' (fun g2 => ?_) (fun g2 => ?_)
 ·have g2 : (64 : Int) < (B.ents.length : Int) := g2
  rw [if_pos (by omega)] at hRES
  subst hRES
  exact ⟨rfl, k02⟩
 have g2 : ¬ (64 : Int) < (B.ents.length : Int) := g2
 rw [if_neg (by omega)] at hRES
 refine ld (Cl.cell (h1.cl rfl)) ?_
 refine lp τok (σ := Nat) (fun i => [(1, pt b1), (20, .slice ae B.ents.length ce), (21, .int .i64 (B.ents.length : Int)), (22, .int .i64 (i : Int))])
  (fun i w' => i ≤ B.ents.length ∧ Bk w'.heap b1 [.int .i64 B.vars, .slice ao B.orders.length co, .slice ae B.ents.length ce, .int .i64 B.nat, .slice ap B.prims.length cp] 26 ∧ Kp [] w w' ∧ bb' (bW' B (B.ents.drop i) i) (if qX' B = true then 0 else 22) = RES) (fun i => B.ents.length - i) 0 rfl
  ⟨rfl, rfl, rfl, rfl, trivial⟩ ⟨Nat.zero_le _, h1, k02, hRES⟩ ?_
 clear hRES h1 k02
 rintro i w3 ⟨hi, h1, k03, hres⟩
 refine ac' (fun g => ?_) (fun g => ?_)
 ·have g : (i : Int) < (B.ents.length : Int) := g
  obtain ⟨x, hx, hd⟩ := ag' (l := B.ents) (k := i) (by omega)
  rw [hd] at hres
  simp only [bW'] at hres
  obtain ⟨be, oe, ce', pe, hat⟩ := hE.at hx
  obtain ⟨w1e, w2e, w3e, w4e, w5e, w6e, hcs, hki, hso, hpa, hin, hct, hty, hbo⟩ := eu' hat
  injection pe with q1 q2 q3
  subst q1 q3
  have hone : ∀ v ∈ [Value.int .i64 x.kind, w1e, w2e, w3e, w4e, w5e, w6e], v.oneCell' = true := fun v hv => by
   simp at hv
   rcases hv with rfl | rfl | rfl | rfl | rfl | rfl | rfl
   ·rfl
   ·exact hso.one
   ·exact hpa.one
   ·exact hin.one
   ·exact hct.one
   ·exact hty.one
   ·exact hbo.one
  refine ix i rfl (by omega) ?_
  refine ldN _ rfl (fun j u hj => (hS.tr k03) _ _ _ (hcs j u hj)) ?_
  refine new fun b5 w4 hb5 h5 hs4 hk4 => ?_
  refine stN (vs := [.int .i64 x.kind, w1e, w2e, w3e, w4e, w5e, w6e]) h5 rfl hone fun w5 h5 hs5 hk5 => ?_
  have k35 := hk4.newSt hb5 hk5
  have k05 := k03.tr k35
  have h1 := h1.kp k35 (by simp)
  have h5 : Bk w5.heap b5 [.int .i64 x.kind, w1e, w2e, w3e, w4e, w5e, w6e] 74 := h5
  refine ldN [.int .i64 B.vars, .slice ao B.orders.length co, .slice _ B.ents.length _, .int .i64 B.nat, .slice ap B.prims.length cp] rfl (fun j u hj => by rw [Nat.zero_add]; exact h1.cl hj) ?_
  refine ldN [.int .i64 x.kind, w1e, w2e, w3e, w4e, w5e, w6e] rfl (fun j u hj => by rw [Nat.zero_add]; exact h5.cl hj) ?_
  refine ab' (nc' (known := i) (hS.tr k05) (fun b o v h => Nat.lt_of_lt_of_le (hold b o v h) k05.size) ⟨_, _, _, rfl, hO, hE, hP, by omega⟩ ⟨w1e, w2e, w3e, w4e, w5e, w6e, rfl, hso, hpa, hin, hct, hty, hbo⟩) ?_
  rintro e w6 ⟨rfl, hk6⟩
  refine ac' (fun g3 => ?_) (fun g3 => ?_)
  ·have g3 : cZ' B i x ≠ 0 := g3
   have e : bb' (cZ' B i x) (bW' B (B.ents.drop (i + 1)) (i + 1)) = cZ' B i x := by unfold bb'; rw [if_pos g3]
   rw [e] at hres
   have e : bb' (cZ' B i x) (if qX' B = true then 0 else 22) = cZ' B i x := by unfold bb'; rw [if_pos g3]
   rw [e] at hres
   subst hres
   exact ⟨rfl, k05.tr hk6⟩
  ·have g3 : ¬ cZ' B i x ≠ 0 := g3
   have e : bb' (cZ' B i x) (bW' B (B.ents.drop (i + 1)) (i + 1)) = bW' B (B.ents.drop (i + 1)) (i + 1) := by unfold bb'; rw [if_neg g3]
   rw [e] at hres
   refine ai' (by omega) (by omega) ?_
   exact ⟨i + 1, by omega, rfl, ⟨rfl, rfl, rfl, rfl, trivial⟩, by omega, h1.kp hk6 (by simp), k05.tr hk6, hres⟩
 ·have g : ¬ (i : Int) < (B.ents.length : Int) := g
  rw [List.drop_eq_nil_of_le (by omega)] at hres
  have e : bb' (bW' B [] i) (if qX' B = true then 0 else 22) = if qX' B = true then 0 else 22 := by unfold bb' bW'; rw [if_neg (by simp)]
  rw [e] at hres
  refine ldN [.int .i64 B.vars, .slice ao B.orders.length co, .slice ae B.ents.length ce, .int .i64 B.nat, .slice ap B.prims.length cp] rfl (fun j u hj => by rw [Nat.zero_add]; exact h1.cl hj) ?_
  refine ab' (jq' (hS.tr k03) hvb') ?_
  rintro e w4 ⟨rfl, hk4⟩
  cases hg : qX' B with
  | true =>
   rw [hg] at hres
   simp only [if_true] at hres
   subst hres
   exact ⟨rfl, k03.tr hk4⟩
  | false =>
   rw [hg] at hres
   simp only [Bool.false_eq_true, if_false] at hres
   subst hres
   exact ⟨rfl, k03.tr hk4⟩
set_option maxRecDepth 20000 in
theorem jr' (hS : Sub C w) (hold : ∀ b o v, C b o v → b < w.heap.size) {vb vt : Value} (hvb : BoV C B vb) {t : List Nd} (hvt : SV rNd C t vt) {below : Int} (hb : I64 below) :
  ah' Tryz.prog 22 ∧ Calls Tryz.prog 22 #[vb, .int .i64 below, vt] w (fun e w' => e = .returned (.int .i64 (bF' B below t)) ∧ Kp [] w w') := by
 refine ⟨⟨_, Tryz.func22, rfl, by decide⟩, ?_⟩
 obtain ⟨RES, hRES⟩ : ∃ r, bF' B below t = r := ⟨_, rfl⟩
 rw [hRES]
 unfold bF' at hRES
 have hvb' := hvb
 obtain ⟨v1, v2, v3, rfl, hO, hE, hP⟩ := hvb
 obtain ⟨ae, ce, rfl, hE1, _⟩ := id hE
 obtain ⟨at_, ct_, rfl, _, _⟩ := id hvt
 refine af' (args := [_, _, _]) 23 [.tmp 6] τok Tryz.func22 rfl rfl rfl (Nat.le_of_ble_eq_true rfl) ?_
 refine new fun b3 w1 hb1 h3 hs1 hk1 => ?_
 have h3 : Bk w1.heap b3 [.int .i64 B.vars, v1, .slice ae B.ents.length ce, .int .i64 B.nat, v3] 26 := h3
 refine ldN [.int .i64 B.vars, v1, .slice ae B.ents.length ce, .int .i64 B.nat, v3] rfl (fun j u hj => by rw [Nat.zero_add]; exact h3.cl hj) ?_
 refine ab' (kC' (hS.tr hk1) (fun b o v h => Nat.lt_of_lt_of_le (hold b o v h) hk1.size) hvb') ?_
 rintro e w2 ⟨rfl, hk2⟩
 have k02 := hk1.tr hk2
 have h3 := h3.kp hk2 (by simp)
 refine ac' (fun g1 => ?_) (fun g1 => ?_)
 ·have g1 : aT' B ≠ 0 := g1
  rw [if_pos g1] at hRES
  subst hRES
  exact ⟨rfl, k02⟩
 have g1 : ¬ aT' B ≠ 0 := g1
 rw [if_neg g1] at hRES
 refine ac' (fun g2 => ?_) (fun g2 => ?_)
 ·have g2 : below < 0 := g2
  rw [if_pos g2] at hRES
  subst hRES
  exact ⟨rfl, k02⟩
 have g2 : ¬ below < 0 := g2
 rw [if_neg g2] at hRES
 refine ldN [.int .i64 B.vars, v1, .slice ae B.ents.length ce, .int .i64 B.nat, v3] rfl (fun j u hj => by rw [Nat.zero_add]; exact h3.cl hj) ?_
 refine ld (Cl.cell (h3.cl rfl)) ?_
 refine ab' (jp' (known := B.ents.length) (self := -1) (hS.tr k02) (fun b o v h => Nat.lt_of_lt_of_le (hold b o v h) k02.size) ⟨_, _, _, rfl, hO, hE, hP, Nat.le_refl _⟩ hvt hb) ?_
 rintro e w3 ⟨rfl, hk3⟩
 subst hRES
 exact ⟨rfl, k02.tr hk3⟩
set_option maxRecDepth 20000 in
theorem ee' (hS : Sub C w) (hold : ∀ b o v, C b o v → b < w.heap.size) {vb vc vt : Value} (hvb : BoV C B vb) {c : List (List Nd × List Nd)} (hvc : SV rBd C c vc) {t : List Nd} (hvt : SV rNd C t vt) :
  ah' Tryz.prog 9 ∧ Calls Tryz.prog 9 #[vb, vc, vt] w (fun e w' => e = .returned (.int .i64 (aQ' B c t)) ∧ Kp [] w w') := by
 refine ⟨⟨_, Tryz.func9, rfl, by decide⟩, ?_⟩
 obtain ⟨RES, hRES⟩ : ∃ r, aQ' B c t = r := ⟨_, rfl⟩
 rw [hRES]
 unfold aQ' at hRES
 have hvb' := hvb
 obtain ⟨v1, v2, v3, rfl, hO, hE, hP⟩ := hvb
 obtain ⟨at_, ct_, rfl, _, _⟩ := id hvt
 obtain ⟨ac, cc, rfl, hc1, _⟩ := id hvc
 have lC := hc1.1
 refine af' (args := [_, _, _]) 53 [.tmp 6] τok Tryz.func9 rfl rfl rfl (Nat.le_of_ble_eq_true rfl) ?_
 refine new fun b3 w1 hb1 h3 hs1 hk1 => ?_
 have h3 : Bk w1.heap b3 [.int .i64 B.vars, v1, v2, .int .i64 B.nat, v3] 26 := h3
 refine ldN [.int .i64 B.vars, v1, v2, .int .i64 B.nat, v3] rfl (fun j u hj => by rw [Nat.zero_add]; exact h3.cl hj) ?_
 refine ab' (kC' (hS.tr hk1) (fun b o v h => Nat.lt_of_lt_of_le (hold b o v h) hk1.size) hvb') ?_
 rintro e w2 ⟨rfl, hk2⟩
 have k02 := hk1.tr hk2
 have h3 := h3.kp hk2 (by simp)
 refine ac' (fun g1 => ?_) (fun g1 => ?_)
 ·have g1 : aT' B ≠ 0 := g1
  rw [if_pos g1] at hRES
  subst hRES
  exact ⟨rfl, k02⟩
 have g1 : ¬ aT' B ≠ 0 := g1
 rw [if_neg g1] at hRES
 refine ac' (fun g2 => ?_) (fun g2 => ?_)
 ·have g2 : (256 : Int) < (c.length : Int) := g2
  rw [if_pos (by omega)] at hRES
  subst hRES
  exact ⟨rfl, k02⟩
 have g2 : ¬ (256 : Int) < (c.length : Int) := g2
 rw [if_neg (by omega)] at hRES
 refine lp τok (σ := Nat) (fun i => [(1, .slice ac c.length cc), (2, .slice at_ t.length ct_), (3, pt b3), (20, .slice ac c.length cc), (21, .int .i64 (c.length : Int)), (22, .int .i64 (i : Int))])
  (fun i w' => i ≤ c.length ∧ Bk w'.heap b3 [.int .i64 B.vars, v1, v2, .int .i64 B.nat, v3] 26 ∧ Kp [] w w' ∧ bb' (dD' B (c.drop i) i) (bF' B c.length t) = RES) (fun i => c.length - i) 0 rfl
  ⟨rfl, rfl, rfl, rfl, rfl, rfl, trivial⟩ ⟨Nat.zero_le _, h3, k02, hRES⟩ ?_
 clear hRES h3 k02
 rintro i w3 ⟨hi, h3, k03, hres⟩
 refine ac' (fun g => ?_) (fun g => ?_)
 ·have g : (i : Int) < (c.length : Int) := g
  obtain ⟨x, hx, hd⟩ := ag' (l := c) (k := i) (by omega)
  rw [hd] at hres
  simp only [dD'] at hres
  obtain ⟨bc, oc, cc', pc, hat⟩ := hvc.at hx
  obtain ⟨vty, vva, hbc, hbt, hbv⟩ := oy' hat
  injection pc with q1 q2 q3
  subst q1 q3
  obtain ⟨aty, cty, rfl, _, _⟩ := id hbt
  obtain ⟨ava, cva, rfl, _, _⟩ := id hbv
  refine ix i rfl (by omega) ?_
  refine ldN [.slice aty x.1.length cty, .slice ava x.2.length cva] rfl (fun j u hj => (hS.tr k03) _ _ _ (hbc j u hj)) ?_
  refine new fun b9 w4 hb9 h9 hs4 hk4 => ?_
  refine stN (vs := [.slice aty x.1.length cty, .slice ava x.2.length cva]) h9 rfl (by simp [Value.oneCell']) fun w5 h9 hs5 hk5 => ?_
  have k35 := hk4.newSt hb9 hk5
  have k05 := k03.tr k35
  have h3 := h3.kp k35 (by simp)
  have h9 : Bk w5.heap b9 [.slice aty x.1.length cty, .slice ava x.2.length cva] 35 := h9
  refine ldN [.int .i64 B.vars, v1, v2, .int .i64 B.nat, v3] rfl (fun j u hj => by rw [Nat.zero_add]; exact h3.cl hj) ?_
  refine ld (Cl.cell (h9.cl rfl)) ?_
  refine ab' (jr' (hS.tr k05) (fun b o v h => Nat.lt_of_lt_of_le (hold b o v h) k05.size) hvb' hbt (by constructor <;> omega)) ?_
  rintro e w6 ⟨rfl, hk6⟩
  have k06 := k05.tr hk6
  have h3 := h3.kp hk6 (by simp)
  have h9 := h9.kp hk6 (by simp)
  refine ac' (fun y1 => ?_) (fun y1 => ?_)
  ·have y1 : bF' B (i : Int) x.1 ≠ 0 := y1
   rw [if_pos y1, kB' y1] at hres
   subst hres
   exact ⟨rfl, k06⟩
  have y1 : ¬ bF' B (i : Int) x.1 ≠ 0 := y1
  rw [if_neg y1] at hres
  refine ld (Cl.cell (h9.cl rfl)) ?_
  refine ac' (fun y2 => ?_) (fun y2 => ?_)
  ·have y2 : (x.2.length : Int) = 0 := y2
   rw [if_pos (by omega)] at hres
   refine ai' (by omega) (by omega) ?_
   exact ⟨i + 1, by omega, rfl, ⟨rfl, rfl, rfl, rfl, rfl, rfl, trivial⟩, by omega, h3, k06, hres⟩
  have y2 : ¬ (x.2.length : Int) = 0 := y2
  rw [if_neg (by omega)] at hres
  refine ldN [.int .i64 B.vars, v1, v2, .int .i64 B.nat, v3] rfl (fun j u hj => by rw [Nat.zero_add]; exact h3.cl hj) ?_
  refine ld (Cl.cell (h9.cl rfl)) ?_
  refine ab' (jr' (hS.tr k06) (fun b o v h => Nat.lt_of_lt_of_le (hold b o v h) k06.size) hvb' hbv (by constructor <;> omega)) ?_
  rintro e w7 ⟨rfl, hk7⟩
  refine ac' (fun y3 => ?_) (fun y3 => ?_)
  ·have y3 : bF' B (i : Int) x.2 ≠ 0 := y3
   rw [if_pos y3, kB' y3] at hres
   subst hres
   exact ⟨rfl, k06.tr hk7⟩
  have y3 : ¬ bF' B (i : Int) x.2 ≠ 0 := y3
  rw [if_neg y3] at hres
  refine ai' (by omega) (by omega) ?_
  exact ⟨i + 1, by omega, rfl, ⟨rfl, rfl, rfl, rfl, rfl, rfl, trivial⟩, by omega, h3.kp hk7 (by simp), k06.tr hk7, hres⟩
 ·have g : ¬ (i : Int) < (c.length : Int) := g
  rw [List.drop_eq_nil_of_le (by omega)] at hres
  simp only [dD'] at hres
  have hres : bF' B c.length t = RES := hres
  refine ldN [.int .i64 B.vars, v1, v2, .int .i64 B.nat, v3] rfl (fun j u hj => by rw [Nat.zero_add]; exact h3.cl hj) ?_
  refine ab' (jr' (hS.tr k03) (fun b o v h => Nat.lt_of_lt_of_le (hold b o v h) k03.size) hvb' hvt (by constructor <;> omega)) ?_
  rintro e w4 ⟨rfl, hk4⟩
  subst hres
  exact ⟨rfl, k03.tr hk4⟩
end
abbrev CxR := List (List Nd × List Nd)
def cA' (B : BoT) (c : CxR) (t : List Nd) (fuel : Int) : Except Int (Tr × Nat) := if aQ' B c t ≠ 0 then .error (aQ' B c t) else de' B (cxR c) (tr t) fuel
def it' (B : BoT) (c : CxR) (t ty : List Nd) (fuel : Int) : Except Int (Unit × Nat) := if aQ' B c t ≠ 0 then .error (aQ' B c t) else if aQ' B c ty ≠ 0 then .error (aQ' B c ty) else eb' B (cxR c) (tr t) (tr ty) fuel
def ne' (B : BoT) (c : CxR) (t : List Nd) (fuel : Int) : Except Int ((Int × List Atom) × Nat) := if aQ' B c t ≠ 0 then .error (aQ' B c t) else gT' B (cxR c) (tr t) fuel
def nf' (B : BoT) (c : CxR) (t : List Nd) (fuel : Int) : Except Int (Tr × Nat) := if aQ' B c t ≠ 0 then .error (aQ' B c t) else whnfTop B (cxR c) (tr t) fuel
theorem br' (c : CxR) : (cxR c).length = c.length := by simp [cxR]
section
variable {B : BoT} {X : List Nat} {w : World} {c : CxR} {t ty : List Nd}
set_option maxRecDepth 20000 in
theorem fg' (hX : ∀ b ∈ X, b < w.heap.size) {fuel : Int} {vb vc v : Value} (hb : BoV (Im X w) B vb) (hc : SV rBd (Im X w) c vc) (hv : SV rNd (Im X w) t v) :
  ah' Tryz.prog 11 ∧ Calls Tryz.prog 11 #[vb, vc, v, .int .i64 fuel] w (qV' X w (cA' B c t fuel)) := by
 refine ⟨⟨_, Tryz.func11, rfl, by decide⟩, ?_⟩
 obtain ⟨RES, hRES⟩ : ∃ r, cA' B c t fuel = r := ⟨_, rfl⟩
 rw [hRES]
 unfold cA' at hRES
 have hbb := hb
 obtain ⟨v1, v2, v3, rfl, _, _, _⟩ := hbb
 obtain ⟨av, cv, rfl, _, _⟩ := id hv
 obtain ⟨ac, cc, rfl, _, _⟩ := id hc
 refine af' (args := [_, _, _, _]) 27 [.tmp 8, .tmp 9, .tmp 10] τok Tryz.func11 rfl rfl rfl (Nat.le_of_ble_eq_true rfl) ?_
 refine new fun b4 w1 hb4 h4 hs1 hk1 => ?_
 have h4 : Bk w1.heap b4 [.int .i64 B.vars, v1, v2, .int .i64 B.nat, v3] 26 := h4
 have up1 : ∀ b o v, Im X w b o v → Im X w1 b o v := fun b o v h => h.tr hk1
 refine ldN [.int .i64 B.vars, v1, v2, .int .i64 B.nat, v3] rfl (fun j u hj => by rw [Nat.zero_add]; exact h4.cl hj) ?_
 refine ab' (ee' (Im.sub X w1) (fun _ _ _ h => h.hold) (hb.mono up1) (hc.mono up1) (hv.mono up1)) ?_
 rintro e w2 ⟨rfl, hk2⟩
 have k02 := hk1.tr hk2
 have h4 := h4.kp hk2 (by simp)
 refine ac' (fun g1 => ?_) (fun g1 => ?_)
 ·have g1 : aQ' B c t ≠ 0 := g1
  rw [if_pos g1] at hRES
  subst hRES
  exact ⟨rfl, k02⟩
 have g1 : ¬ aQ' B c t ≠ 0 := g1
 rw [if_neg g1] at hRES
 obtain ⟨hB, hr, hl, hce, hcx, hte, hft⟩ := da' (Decidable.not_not.1 g1)
 have up2 : ∀ b o v, Im X w b o v → Im X w2 b o v := fun b o v h => h.tr k02
 have hX2 : ∀ b ∈ X, b < w2.heap.size := fun b hb => Nat.lt_of_lt_of_le (hX b hb) k02.size
 refine ldN [.int .i64 B.vars, v1, v2, .int .i64 B.nat, v3] rfl (fun j u hj => by rw [Nat.zero_add]; exact h4.cl hj) ?_
 refine ab' (sX' (cx := cxR c) (t := tr t) (fuel := fuel) hB hcx (by rw [br']; omega) hX2 (by rw [br']; exact hft) (hb.mono up2) (by rw [← hce]; exact hc.mono up2) (by unfold TmV; rw [← hte]; exact hv.mono up2)) ?_
 rintro e w3 ⟨he, hk3⟩
 rw [hRES] at he
 cases RES with
 | error er =>
  obtain rfl := he
  exact ⟨rfl, k02.tr hk3⟩
 | ok q =>
  obtain ⟨u, rfl, hu⟩ := he
  exact ⟨⟨u, rfl, hu⟩, k02.tr hk3⟩
set_option maxRecDepth 20000 in
theorem rb' (hX : ∀ b ∈ X, b < w.heap.size) {fuel : Int} {vb vc v : Value} (hb : BoV (Im X w) B vb) (hc : SV rBd (Im X w) c vc) (hv : SV rNd (Im X w) t v) :
  ah' Tryz.prog 15 ∧ Calls Tryz.prog 15 #[vb, vc, v, .int .i64 fuel] w (fun e w' => pI' (ne' B c t fuel) (fun q => ∃ a c, e = .returned (.tuple #[.int .i64 q.1.1, .slice a q.1.2.length c, .int .i64 (q.2 : Int), .int .i64 0]) ∧ Sl rAt (Im X w') a q.1.2) (fun er => e = .returned (.tuple #[.int .i64 0, .slice none 0 0, .int .i64 0, .int .i64 er])) ∧ Kp [] w w') := by
 refine ⟨⟨_, Tryz.func15, rfl, by decide⟩, ?_⟩
 obtain ⟨RES, hRES⟩ : ∃ r, ne' B c t fuel = r := ⟨_, rfl⟩
 rw [hRES]
 unfold ne' at hRES
 have hbb := hb
 obtain ⟨v1, v2, v3, rfl, _, _, _⟩ := hbb
 obtain ⟨av, cv, rfl, _, _⟩ := id hv
 obtain ⟨ac, cc, rfl, _, _⟩ := id hc
 refine af' (args := [_, _, _, _]) 29 [.tmp 8, .tmp 9, .tmp 10, .tmp 11] τok Tryz.func15 rfl rfl rfl (Nat.le_of_ble_eq_true rfl) ?_
 refine new fun b4 w1 hb4 h4 hs1 hk1 => ?_
 have h4 : Bk w1.heap b4 [.int .i64 B.vars, v1, v2, .int .i64 B.nat, v3] 26 := h4
 have up1 : ∀ b o v, Im X w b o v → Im X w1 b o v := fun b o v h => h.tr hk1
 refine ldN [.int .i64 B.vars, v1, v2, .int .i64 B.nat, v3] rfl (fun j u hj => by rw [Nat.zero_add]; exact h4.cl hj) ?_
 refine ab' (ee' (Im.sub X w1) (fun _ _ _ h => h.hold) (hb.mono up1) (hc.mono up1) (hv.mono up1)) ?_
 rintro e w2 ⟨rfl, hk2⟩
 have k02 := hk1.tr hk2
 have h4 := h4.kp hk2 (by simp)
 refine ac' (fun g1 => ?_) (fun g1 => ?_)
 ·have g1 : aQ' B c t ≠ 0 := g1
  rw [if_pos g1] at hRES
  subst hRES
  exact ⟨rfl, k02⟩
 have g1 : ¬ aQ' B c t ≠ 0 := g1
 rw [if_neg g1] at hRES
 obtain ⟨hB, hr, hl, hce, hcx, hte, hft⟩ := da' (Decidable.not_not.1 g1)
 have up2 : ∀ b o v, Im X w b o v → Im X w2 b o v := fun b o v h => h.tr k02
 have hX2 : ∀ b ∈ X, b < w2.heap.size := fun b hb => Nat.lt_of_lt_of_le (hX b hb) k02.size
 refine ldN [.int .i64 B.vars, v1, v2, .int .i64 B.nat, v3] rfl (fun j u hj => by rw [Nat.zero_add]; exact h4.cl hj) ?_
 refine ab' (sY' (cx := cxR c) (t := tr t) (fuel := fuel) hB hcx (by rw [br']; omega) hX2 (by rw [br']; exact hft) (hb.mono up2) (by rw [← hce]; exact hc.mono up2) (by unfold TmV; rw [← hte]; exact hv.mono up2)) ?_
 rintro e w3 ⟨he, hk3⟩
 rw [hRES] at he
 cases RES with
 | error er =>
  obtain rfl := he
  exact ⟨rfl, k02.tr hk3⟩
 | ok q =>
  obtain ⟨a, c, rfl, hu⟩ := he
  exact ⟨⟨a, c, rfl, hu⟩, k02.tr hk3⟩
set_option maxRecDepth 20000 in
theorem rc' (hX : ∀ b ∈ X, b < w.heap.size) {fuel : Int} {vb vc v : Value} (hb : BoV (Im X w) B vb) (hc : SV rBd (Im X w) c vc) (hv : SV rNd (Im X w) t v) :
  ah' Tryz.prog 17 ∧ Calls Tryz.prog 17 #[vb, vc, v, .int .i64 fuel] w (qV' X w (nf' B c t fuel)) := by
 refine ⟨⟨_, Tryz.func17, rfl, by decide⟩, ?_⟩
 obtain ⟨RES, hRES⟩ : ∃ r, nf' B c t fuel = r := ⟨_, rfl⟩
 rw [hRES]
 unfold nf' at hRES
 have hbb := hb
 obtain ⟨v1, v2, v3, rfl, _, _, _⟩ := hbb
 obtain ⟨av, cv, rfl, _, _⟩ := id hv
 obtain ⟨ac, cc, rfl, _, _⟩ := id hc
 have hrun : ∀ w0, Kp [] w w0 → ah' Tryz.prog 30 ∧ Calls Tryz.prog 30 #[.func (.func 31) #[] #[], .agg #[.int .i64 B.vars, v1, v2, .int .i64 B.nat, v3], .slice ac c.length cc, .slice av t.length cv, .int .i64 fuel] w0 (qV' X w0 RES) := fun w0 k0 => by
  refine ⟨⟨_, Tryz.func30, rfl, by decide⟩, ?_⟩
  refine af' (args := [_, _, _, _, _]) 30 [.tmp 10, .tmp 11, .tmp 12] τok Tryz.func30 rfl rfl rfl (Nat.le_of_ble_eq_true rfl) ?_
  refine new fun b4 w1 hb4 h4 hs1 hk1 => ?_
  have h4 : Bk w1.heap b4 [.int .i64 B.vars, v1, v2, .int .i64 B.nat, v3] 26 := h4
  have up1 : ∀ b o v, Im X w b o v → Im X w1 b o v := fun b o v h => h.tr (k0.tr hk1)
  refine ldN [.int .i64 B.vars, v1, v2, .int .i64 B.nat, v3] rfl (fun j u hj => by rw [Nat.zero_add]; exact h4.cl hj) ?_
  refine ab' (ee' (Im.sub X w1) (fun _ _ _ h => h.hold) (hb.mono up1) (hc.mono up1) (hv.mono up1)) ?_
  rintro e w2 ⟨rfl, hk2⟩
  have k02 := hk1.tr hk2
  have h4 := h4.kp hk2 (by simp)
  refine ac' (fun g1 => ?_) (fun g1 => ?_)
  ·have g1 : aQ' B c t ≠ 0 := g1
   rw [if_pos g1] at hRES
   subst hRES
   exact ⟨rfl, k02⟩
  have g1 : ¬ aQ' B c t ≠ 0 := g1
  rw [if_neg g1] at hRES
  obtain ⟨hB, hr, hl, hce, hcx, hte, hft⟩ := da' (Decidable.not_not.1 g1)
  have up2 : ∀ b o v, Im X w b o v → Im X w2 b o v := fun b o v h => h.tr (k0.tr k02)
  have hX2 : ∀ b ∈ X, b < w2.heap.size := fun b hb => Nat.lt_of_lt_of_le (hX b hb) (k0.tr k02).size
  refine ldN [.int .i64 B.vars, v1, v2, .int .i64 B.nat, v3] rfl (fun j u hj => by rw [Nat.zero_add]; exact h4.cl hj) ?_
  refine ab' (iX' (cx := cxR c) (x := tr t) (fuel := fuel) hB hcx (by rw [br']; omega) hX2 (by rw [br']; exact hft) (hb.mono up2) (by rw [← hce]; exact hc.mono up2) (by unfold TmV; rw [← hte]; exact hv.mono up2)) ?_
  rintro e w3 ⟨he, hk3⟩
  rw [hRES] at he
  cases RES with
  | error er =>
   obtain rfl := he
   exact ⟨rfl, k02.tr hk3⟩
  | ok q =>
   obtain ⟨u, rfl, hu⟩ := he
   exact ⟨⟨u, rfl, hu⟩, k02.tr hk3⟩
 refine af' (args := [_, _, _, _]) 19 [.tmp 8, .tmp 9, .tmp 10] τok Tryz.func17 rfl rfl rfl (Nat.le_of_ble_eq_true rfl) ?_
 refine new fun b4 w1 hb4 h4 hs1 hk1 => ?_
 have h4 : Bk w1.heap b4 [.int .i64 B.vars, v1, v2, .int .i64 B.nat, v3] 26 := h4
 refine ldN [.int .i64 B.vars, v1, v2, .int .i64 B.nat, v3] rfl (fun j u hj => by rw [Nat.zero_add]; exact h4.cl hj) ?_
 refine ab' (hrun w1 hk1) ?_
 rintro e w3 ⟨he, hk3⟩
 cases RES with
 | error er =>
  obtain rfl := he
  exact ⟨rfl, hk1.tr hk3⟩
 | ok q =>
  obtain ⟨u, rfl, hu⟩ := he
  exact ⟨⟨u, rfl, hu⟩, hk1.tr hk3⟩
set_option maxRecDepth 20000 in
theorem pw' (hX : ∀ b ∈ X, b < w.heap.size) {fuel : Int} {vb vc v vt : Value} (hb : BoV (Im X w) B vb) (hc : SV rBd (Im X w) c vc) (hv : SV rNd (Im X w) t v) (hvt : SV rNd (Im X w) ty vt) :
  ah' Tryz.prog 13 ∧ Calls Tryz.prog 13 #[vb, vc, v, vt, .int .i64 fuel] w (fun e w' => pI' (it' B c t ty fuel) (fun q => e = .returned (.tuple #[.int .i64 (q.2 : Int), .int .i64 0])) (fun er => e = .returned (.tuple #[.int .i64 0, .int .i64 er])) ∧ Kp [] w w') := by
 refine ⟨⟨_, Tryz.func13, rfl, by decide⟩, ?_⟩
 obtain ⟨RES, hRES⟩ : ∃ r, it' B c t ty fuel = r := ⟨_, rfl⟩
 rw [hRES]
 unfold it' at hRES
 have hbb := hb
 obtain ⟨v1, v2, v3, rfl, _, _, _⟩ := hbb
 obtain ⟨av, cv, rfl, _, _⟩ := id hv
 obtain ⟨at_, ct_, rfl, _, _⟩ := id hvt
 obtain ⟨ac, cc, rfl, _, _⟩ := id hc
 refine af' (args := [_, _, _, _, _]) 39 [.tmp 10, .tmp 11] τok Tryz.func13 rfl rfl rfl (Nat.le_of_ble_eq_true rfl) ?_
 refine new fun b5 w1 hb5 h5 hs1 hk1 => ?_
 have h5 : Bk w1.heap b5 [.int .i64 B.vars, v1, v2, .int .i64 B.nat, v3] 26 := h5
 refine fill [.slice av t.length cv, .slice at_ ty.length ct_] rfl ?_
 refine new fun b6 w2 hb6 h6 hs2 hk2 => ?_
 have k02 := hk1.tr hk2
 have h5 := h5.kp hk2 (by simp)
 refine lp τok (σ := Nat) (fun i => [(1, .slice ac c.length cc), (2, .slice av t.length cv), (3, .slice at_ ty.length ct_), (4, .int .i64 fuel), (5, pt b5), (17, .slice (some ⟨b6, 0, none⟩) 2 2), (18, .int .i64 2), (19, .int .i64 (i : Int))])
  (fun i w' => i ≤ 2 ∧ (0 < i → aQ' B c t = 0) ∧ (1 < i → aQ' B c ty = 0) ∧ Kp [] w2 w') (fun i => 2 - i) 0 rfl
  ⟨rfl, rfl, rfl, rfl, rfl, rfl, rfl, rfl, trivial⟩ ⟨Nat.zero_le _, fun h => absurd h (by omega), fun h => absurd h (by omega), Kp.refl _ _⟩ ?_
 rintro i w3 ⟨hi, hf1, hf2, hk3⟩
 have k03 := k02.tr hk3
 have h53 := h5.kp hk3 (by simp)
 have h63 := h6.kp hk3 (by simp)
 have up3 : ∀ b o v, Im X w b o v → Im X w3 b o v := fun b o v h => h.tr k03
 refine ac' (fun g => ?_) (fun g => ?_)
 ·have g : (i : Int) < 2 := g
  have h01 : i = 0 ∨ i = 1 := by omega
  rcases h01 with rfl | rfl
  ·refine ix 0 rfl (by omega) ?_
   refine ld (Cl.cell (h63.cl rfl)) ?_
   refine ldN [.int .i64 B.vars, v1, v2, .int .i64 B.nat, v3] rfl (fun j u hj => by rw [Nat.zero_add]; exact h53.cl hj) ?_
   refine ab' (ee' (Im.sub X w3) (fun _ _ _ h => h.hold) (hb.mono up3) (hc.mono up3) (hv.mono up3)) ?_
   rintro e w4 ⟨rfl, hk4⟩
   refine ac' (fun g1 => ?_) (fun g1 => ?_)
   ·have g1 : aQ' B c t ≠ 0 := g1
    rw [if_pos g1] at hRES
    subst hRES
    exact ⟨rfl, k03.tr hk4⟩
   have g1 : ¬ aQ' B c t ≠ 0 := g1
   refine ai' (by omega) (by omega) ?_
   exact ⟨1, by omega, rfl, ⟨rfl, rfl, rfl, rfl, rfl, rfl, rfl, rfl, trivial⟩, by omega, fun _ => Decidable.not_not.1 g1, fun h => absurd h (by omega), hk3.tr hk4⟩
  ·refine ix 1 rfl (by omega) ?_
   refine ld (Cl.cell (h63.cl rfl)) ?_
   refine ldN [.int .i64 B.vars, v1, v2, .int .i64 B.nat, v3] rfl (fun j u hj => by rw [Nat.zero_add]; exact h53.cl hj) ?_
   refine ab' (ee' (Im.sub X w3) (fun _ _ _ h => h.hold) (hb.mono up3) (hc.mono up3) (hvt.mono up3)) ?_
   rintro e w4 ⟨rfl, hk4⟩
   refine ac' (fun g1 => ?_) (fun g1 => ?_)
   ·have g1 : aQ' B c ty ≠ 0 := g1
    rw [if_neg (by rw [hf1 (by omega)]; simp), if_pos g1] at hRES
    subst hRES
    exact ⟨rfl, k03.tr hk4⟩
   have g1 : ¬ aQ' B c ty ≠ 0 := g1
   refine ai' (by omega) (by omega) ?_
   exact ⟨2, by omega, rfl, ⟨rfl, rfl, rfl, rfl, rfl, rfl, rfl, rfl, trivial⟩, by omega, fun _ => hf1 (by omega), fun _ => Decidable.not_not.1 g1, hk3.tr hk4⟩
 have g : ¬ (i : Int) < 2 := g
 have hf1 := hf1 (by omega)
 have hf2 := hf2 (by omega)
 rw [if_neg (by rw [hf1]; simp), if_neg (by rw [hf2]; simp)] at hRES
 obtain ⟨hB, hr, hl, hce, hcx, hte, hft⟩ := da' hf1
 obtain ⟨_, _, _, _, _, htye, htyft⟩ := da' hf2
 have hX3 : ∀ b ∈ X, b < w3.heap.size := fun b hb => Nat.lt_of_lt_of_le (hX b hb) k03.size
 refine ldN [.int .i64 B.vars, v1, v2, .int .i64 B.nat, v3] rfl (fun j u hj => by rw [Nat.zero_add]; exact h53.cl hj) ?_
 refine ab' (qW' (cx := cxR c) (t := tr t) (ty := tr ty) (fuel := fuel) hB hcx (by rw [br']; omega) hX3 (by rw [br']; exact hft) (by rw [br']; exact htyft) (hb.mono up3) (by rw [← hce]; exact hc.mono up3) (by unfold TmV; rw [← hte]; exact hv.mono up3) (by unfold TmV; rw [← htye]; exact hvt.mono up3)) ?_
 rintro e w4 ⟨he, hk4⟩
 rw [hRES] at he
 cases RES with
 | error er =>
  obtain rfl := he
  exact ⟨rfl, k03.tr hk4⟩
 | ok q =>
  obtain rfl := he
  exact ⟨rfl, k03.tr hk4⟩
end
end Go.Proofs.YtededhgpckkmkaaGreat
