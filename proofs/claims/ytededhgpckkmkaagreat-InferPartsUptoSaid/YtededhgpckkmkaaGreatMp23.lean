import Derived.Test.YtededhgpckkmkaaGreatMp22
import Derived.Test.YtededhgpckkmkaaGreatRows
import Derived.ProofKit
import Derived.OpenShut
import Derived.Deep.Slices
import Derived.JoinedCond
set_option linter.unusedVariables false
set_option linter.unusedSimpArgs false
namespace Go.Wx
theorem vj' {P : Program} {n : Nat} {S : World → Prop} {l : List Oper} {K : Exit → St → World → Prop} {fuel : Nat} {listed : Array Bool} {s : St} {w : World} (T : St → World → Prop) (fuel' : Nat) (listed' : Array Bool)
  (tail : ∀ s w, T s w → EvAnyV P n S l K fuel' listed' s w) (main : (∀ s w, T s w → EvAnyV P n S l K fuel' listed' s w) → EvAnyV P n S l K fuel listed s w) : EvAnyV P n S l K fuel listed s w := main tail
theorem nl' {w : World} {base e sz n : Nat} {v : Value} {xs : List Value} (h : w.ownsRow base e sz v n xs) : ∀ g ∈ v.ownBlock.toList, base ≤ g := fun g hg => by
 rcases h.2 with ⟨rfl, _⟩ | ⟨g', cap, cur, rfl, hb, hc, _⟩
 ·cases hg
 ·simp [Value.ownBlock] at hg
  omega
end Go.Wx
namespace Go.Proofs.YtededhgpckkmkaaGreat
open Go.Wx Cd Tm Lv
theorem rT' {X : List Nat} {w : World} {b T : Nat} {z : Value} {x : Tr} (hB : Bk w.heap b [z] T) (hb : b ∉ X) (hz : TmV (Im X w) x z) : TmsV (Im X w) [x] (.slice (some ⟨b, 0, none⟩) 1 1) := by
 refine ⟨some ⟨b, 0, none⟩, 1, rfl, ⟨by simp, .inr ⟨b, 0, rfl, fun i q hq => ?_⟩⟩, by simp⟩
 match i, hq with
 | 0, hq =>
  obtain rfl : row x = q := by simpa using hq
  obtain ⟨a, c, rfl, h2, h3⟩ := hz
  refine ⟨[.slice a (row x).length c], ⟨a, c, rfl, h3, h2⟩, fun j u hj => ⟨?_, hb⟩⟩
  rw [Nat.zero_mul, Nat.add_zero, Nat.zero_add]
  exact hB.cl hj
 | i + 1, hq => simp at hq
theorem ur' {α : Type} {R : Rd α} {C : Mem} {w : World} {a : Option Addr} {l : List α} (h : Sl R C a l) (hS : Sub C w) (hp : 0 < R.sz) : ∃ css : List (List Value), All2 (R.den C) css l ∧ (l.length = 0 ∨ ∃ b o, a = some ⟨b, o, none⟩ ∧ ∀ j u, css.flatten[j]? = some u → Cl w.heap b (o + j) u) := by
 rcases h.2 with h0 | ⟨b, o, rfl, h2⟩
 ·have : l = [] := List.length_eq_zero_iff.1 h0
  subst this
  exact ⟨[], trivial, .inl rfl⟩
 ·obtain ⟨css, h3, h4⟩ := eJ' l o h2
  exact ⟨css, h3, .inr ⟨b, o, rfl, fun j u hj => Cl.of (fv' h3 hp h4 hS j u hj)⟩⟩
section
variable {w : World} {x : CaT}
set_option maxRecDepth 20000 in
set_option maxHeartbeats 4000000 in
theorem jt' {v : Value} (hv : CaV (Im [] w) x v) :
  ah' Tryz.prog 6 ∧ Calls Tryz.prog 6 #[v] w (fun e w' => e = .returned (.bool true) ∧ Kp [] w w') := by
 refine ⟨⟨_, Tryz.func6, rfl, by decide⟩, ?_⟩
 have hvv := hv
 obtain ⟨v1, v2, v3, vc, vt, vy, rfl, hO, hE, hP, hC, hT, hY, hf⟩ := hv
 obtain ⟨ac, cc, rfl, hC1, _⟩ := id hC
 obtain ⟨at_, ct_, rfl, ht1, _⟩ := id hT
 obtain ⟨ay, cy, rfl, hy1, _⟩ := id hY
 have hbo : BoV (Im [] w) x.book (.agg #[.int .i64 x.book.vars, v1, v2, .int .i64 x.book.nat, v3]) := ⟨v1, v2, v3, rfl, hO, hE, hP⟩
 refine af' (args := [_]) 223 [.tmp 2] τok Tryz.func6 rfl rfl rfl (Nat.le_of_ble_eq_true rfl) ?_
 refine new fun b2 w1 hb2 h2 hs1 hk1 => ?_
 have h2 : Bk w1.heap b2 [.int .i64 x.book.vars, v1, v2, .int .i64 x.book.nat, v3, .slice ac x.ctx.length cc, .slice at_ x.term.length ct_, .slice ay x.type.length cy, .int .i64 x.fuel] 31 := h2
 refine ab' (ri' w1) ?_
 rintro e w2 ⟨rfl, hk2⟩
 have k02 := hk1.tr hk2
 have h2 := h2.kp hk2 (by simp)
 refine ldN [.int .i64 x.book.vars, v1, v2, .int .i64 x.book.nat, v3, .slice ac x.ctx.length cc, .slice at_ x.term.length ct_, .slice ay x.type.length cy, .int .i64 x.fuel] rfl (fun j u hj => by rw [Nat.zero_add]; exact h2.cl hj) ?_
 refine ab' (rh' (C := Im [] w) ((Im.sub [] w).tr k02) hvv) ?_
 rintro e w3 ⟨rfl, hk3⟩
 have k03 := k02.tr hk3
 have h2 := h2.kp hk3 (by simp)
 have up3 : ∀ b o v, Im [] w b o v → Im [] w3 b o v := fun b o v h => h.tr k03
 cases hh : kD' x with
 | true => exact ⟨rfl, k03⟩
 | false =>
  have hfu : x.fuel ≤ 300 := by
   unfold kD' at hh
   simp only [Bool.or_eq_false_iff, decide_eq_false_iff_not] at hh
   omega
  refine ld (Cl.cell (h2.cl rfl)) ?_
  refine ac' (fun g1 => ?_) (fun g1 => ?_)
  ·exact ⟨rfl, k03⟩
  have g1 : ¬ x.fuel < 0 := g1
  refine ldN [.int .i64 x.book.vars, v1, v2, .int .i64 x.book.nat, v3] rfl (bk5 h2) ?_
  refine ld (Cl.cell (h2.cl rfl)) ?_
  refine ld (Cl.cell (h2.cl rfl)) ?_
  refine ld (Cl.cell (h2.cl rfl)) ?_
  refine ab' (fg' (X := []) (B := x.book) (c := x.ctx) (t := x.term) (fuel := x.fuel) (by simp) (hbo.mono up3) (hC.mono up3) (hT.mono up3)) ?_
  rintro e w4 ⟨he, hk4⟩
  have k04 := k03.tr hk4
  cases hr : cA' x.book x.ctx x.term x.fuel with
  | error er =>
   rw [hr] at he
   obtain rfl := he
   refine aA' (p := er ≠ 0) (rk' hr) ?_
   exact ⟨rfl, k04⟩
  | ok q =>
   obtain ⟨a, n⟩ := q
   obtain ⟨f1, f2, f3, f4, f5, hB, hri, hcx, hce, hft⟩ := gX' hr
   obtain ⟨_, _, _, _, _, hte, _⟩ := da' f1
   rw [hr] at he
   obtain ⟨u, rfl, hu⟩ := he
   have huu := hu
   obtain ⟨au, cu, rfl, hu1, hu2⟩ := hu
   have h2 := h2.kp hk4 (by simp)
   have up4 : ∀ b o v, Im [] w b o v → Im [] w4 b o v := fun b o v h => h.tr k04
   refine ldN [.int .i64 x.book.vars, v1, v2, .int .i64 x.book.nat, v3] rfl (bk5 h2) ?_
   refine ld (Cl.cell (h2.cl rfl)) ?_
   refine ab' (ee' (C := Im [] w4) (Im.sub [] w4) (fun _ _ _ h => h.hold) (hbo.mono up4) (hC.mono up4) (TmV.sv.1 huu)) ?_
   rintro e w5 ⟨rfl, hk5⟩
   have k05 := k04.tr hk5
   have h2 := h2.kp hk5 (by simp)
   have up5 : ∀ b o v, Im [] w b o v → Im [] w5 b o v := fun b o v h => h.tr k05
   refine cE' (p := aQ' x.book x.ctx (row a) ≠ 0) (fun h => h f3) ?_
   have hTt : TmV (Im [] w5) (tr x.term) (.slice at_ x.term.length ct_) := by unfold TmV; rw [← hte]; exact hT.mono up5
   obtain ⟨bt, ot, ct', pt, _, _, _, hhc⟩ := hTt.hd
   injection pt with q1 q2 q3
   subst q1
   refine ld (Cl.cell (h2.cl rfl)) ?_
   refine ab' (di' (Im.sub [] w5) (fun _ _ _ h => h.hold) hft hTt) ?_
   rintro e w6 ⟨uk, rfl, hks, hk6⟩
   have hks : TmsV (Im [] w6) (kidsT (tr x.term)) uk := hks.tv (by simp)
   have k06 := k05.tr hk6
   have h2 := h2.kp hk6 (by simp)
   have up6 : ∀ b o v, Im [] w b o v → Im [] w6 b o v := fun b o v h => h.tr k06
   have huu := (TmV.sv.1 huu).mono fun _ _ _ h => h.tr (hk5.tr hk6)
   obtain ⟨ak, ck0, rfl, _, _⟩ := id hks
   refine ld (Cl.cell (h2.cl rfl)) ?_
   refine ix 0 rfl (by rw [hte]; exact aj' _) ?_
   refine ld (Cl.cell ((hhc 0 _ rfl).tr hk6).1) ?_
   refine ac' (fun h5 => ?_) (fun h5 => ?_)
   ·have h5 : (tr x.term).n.op = 5 := h5
    obtain ⟨X0, Y0, hk, fx, fy, ⟨qs, hqs⟩, hlong, hshort⟩ := pC' (by omega) (by omega) hr h5
    rw [hk] at hks ⊢
    obtain ⟨bk, ok, ck, pk, z0, hz0, hz0T⟩ := hks.get (i := 0) rfl
    obtain ⟨bk1, ok1, ck1, pk1, z1, hz1, hz1T⟩ := hks.get (i := 1) rfl
    injection pk with q1 _ q2
    subst q1 q2
    injection pk1 with q1 _ q3
    injection q1 with q1
    injection q1 with q1 q4
    subst q1 q4 q3
    obtain ⟨a0, c0, rfl, _, _⟩ := id hz0T
    obtain ⟨a1, c1, rfl, _, _⟩ := id hz1T
    refine ax' τok (fun z => Kp [] w6 z) ?_
    refine rV τok [0, 1, 2, 3, 4, 5, 6, 7, 8] 7 (mB 16 [9, 10, 11, 12, 13, 14, 15]) ((Kp.refl [] w6).dr _) ?_
    refine dr' [.int .i64 x.book.vars, v1, v2, .int .i64 x.book.nat, v3] rfl (bk5 h2) ?_
    refine ldK (h2.cl rfl) ?_
    refine ix 0 rfl (by simp) ?_
    refine ldK hz0.1 ?_
    refine ldK (h2.cl rfl) ?_
    refine nV τok 9 6 (mB 16 [10, 11, 12, 13, 14, 15]) ?_
    refine ab' (rb' (w := { w6 with drawn := w6.drawn + 1 }) (X := []) (B := x.book) (c := x.ctx) (t := row X0) (fuel := x.fuel) (by simp) (hbo.mono up6) (hC.mono up6) (TmV.sv.1 hz0T)) ?_
    rintro e w7 ⟨he, hk7⟩
    have hk7 : Kp [] w6 w7 := hk7.rd
    rw [hqs] at he
    obtain ⟨la, lc, rfl, hla⟩ := he
    refine ⟨.inl hk7, ?_⟩
    refine rV τok [10, 11, 12, 13, 14, 15] 0 (mB 16 []) hk7 ?_
    refine dV ?_
    have k07 := k06.tr hk7
    have h2 := h2.kp hk7 (by simp)
    have up7 : ∀ b o v, Im [] w b o v → Im [] w7 b o v := fun b o v h => h.tr k07
    have hz0 := hz0.tr hk7
    have hz1 := hz1.tr hk7
    have hz0T := hz0T.mono fun _ _ _ h => h.tr hk7
    have hz1T := hz1T.mono fun _ _ _ h => h.tr hk7
    have huu := huu.mono fun _ _ _ h => h.tr hk7
    obtain ⟨css, hcd, hcc⟩ := ur' (R := rBd) (hC1.mono up7) (Im.sub [] w7) (by decide)
    obtain ⟨hcf1, hcf2⟩ := eY' hcd
    refine ax' τok (fun z => Kp [] w7 z) ?_
    refine rV τok [0, 1, 3, 4, 6, 7, 8, 9, 12, 13, 14, 15, 16] 12 (mB 25 [2, 5, 10, 11, 17, 18, 19, 20, 21, 22, 23, 24]) ((Kp.refl [] w7).dr _) ?_
    refine dr' [.int .i64 x.book.vars, v1, v2, .int .i64 x.book.nat, v3] rfl (bk5 h2) ?_
    refine ldK (h2.cl rfl) ?_
    refine ix 0 rfl (by simp) ?_
    refine ldK hz0.1 ?_
    refine ix 1 rfl (by simp) ?_
    refine ldK hz1.1 ?_
    refine ldK (h2.cl rfl) ?_
    refine vj' (fun s w' => ∃ v b, s = ⟨[(1, pt b2), (3, .slice au (row a).length cu), (5, .int .i64 0), (6, .slice (some ⟨bk, ok, none⟩) 2 ck0), (84, .agg #[.int .i64 x.book.vars, v1, v2, .int .i64 x.book.nat, v3]), (88, v), (93, .slice (some ⟨b, 0, none⟩) 1 1), (97, .slice a1 (row Y0).length c1), (99, .int .i64 x.fuel)], []⟩ ∧ w'.ownsRow w7.heap.size 35 2 v x.ctx.length css.flatten ∧ Bk w'.heap b [.slice a0 (row X0).length c0, .slice none 0 0] 35 ∧ Kp [] w7 w') 9 (mB 25 [11, 17, 18, 19, 20, 21, 22, 23, 24]) ?_ ?_
    ·rintro s w8 ⟨vr, b8, rfl, hr8, h8, hk8⟩
     refine nV τok 11 8 (mB 25 [17, 18, 19, 20, 21, 22, 23, 24]) ?_
     refine ap τok rfl rfl (by decide) w7.heap.size hr8 (m := 1) [.slice a0 (row X0).length c0, .slice none 0 0] rfl (.inr ⟨b8, 0, rfl, fun j u hj => by rw [Nat.zero_add]; exact h8.cl hj⟩) (fun u hu => by simp at hu; rcases hu with rfl | rfl <;> rfl) (by omega) (by simp only [maxLen]; omega) hk8.size fun v9 w9 hr9 hk9 => ?_
     have k79 : Kp [] w7 w9 := hk8.trans hk9 fun y hy hl => by have := nl' hr8 y hy; omega
     refine ⟨.inl k79, ?_⟩
     have k09 := k07.tr k79
     have hcx9 : SV rBd (Im [] w9) (x.ctx ++ [(row X0, [])]) v9 := by
      have := oS' (w := w7) (C := Im [] w7) (R := rBd) (l := x.ctx ++ [(row X0, [])]) (css := css ++ [[.slice a0 (row X0).length c0, .slice none 0 0]]) (by simpa [show rBd.sz = 2 from rfl] using hr9) (hcd.append ⟨⟨_, _, rfl, TmV.sv.1 hz0T, SV.nil _ _⟩, trivial⟩) (by simp; omega)
      exact this.mono (Im.cn (by simp) k79)
     obtain ⟨a9, c9, rfl, _, _⟩ := id hcx9
     refine nV τok 17 7 (mB 25 [18, 19, 20, 21, 22, 23, 24]) ?_
     refine ab' (fg' (w := w9) (X := []) (B := x.book) (c := x.ctx ++ [(row X0, [])]) (t := row Y0) (fuel := x.fuel) (by simp) (hbo.mono fun _ _ _ h => h.tr k09) hcx9 (TmV.sv.1 (hz1T.mono fun _ _ _ h => h.tr k79))) ?_
     rintro e wA ⟨he, hkA⟩
     have k7A := k79.tr hkA
     have hz0A := hz0.tr k7A
     rcases Nat.lt_or_ge x.ctx.length 256 with hl | hl
     ·obtain ⟨z, m, hz, hzo, hb⟩ := hshort hl
      rw [hz] at he
      obtain ⟨uz, rfl, huz⟩ := he
      obtain ⟨az, cz, rfl, _, _⟩ := id huz
      unfold bq' at hb
      split at hb
      ·cases hb
      rename_i g
      injection hb with hb
      refine ⟨.inl k7A, ?_⟩
      refine rV τok [18, 19, 20, 21, 22, 23, 24] 0 (mB 25 []) k7A ?_
      refine dV ?_
      refine ix 0 rfl (by simp) ?_
      refine ld (Cl.cell hz0A.1) ?_
      refine fill [.slice a0 (row X0).length c0] rfl ?_
      refine new fun bd wB hbd hBd hsB hkB => ?_
      have hBd : Bk wB.heap bd [.slice a0 (row X0).length c0] 29 := hBd
      have k7B := k7A.tr hkB
      refine ab' (rB' (op := 4) (C := Im [] wB) (Im.sub [] wB) (.inl rfl) (ys := [X0]) hzo (by rw [iM', List.length_append] at g; omega) (fun y hy => (by simpa using hy : y = X0) ▸ ⟨fx.ok, fx.len⟩) (by simp) (huz.mono fun _ _ _ h => h.tr hkB) (rT' hBd (by simp) (hz0T.mono fun _ _ _ h => h.tr k7B))) ?_
      rintro e wC ⟨he, hkC⟩
      rw [if_neg g, hb] at he
      obtain ⟨zv, rfl, hzv⟩ := he
      obtain ⟨au', cu', rfl, hu1', _⟩ := hzv.tv (X := []) (by simp)
      have k7C := k7B.tr hkC
      refine ab' (gJ' (w := wC) (C := Im [] wC) (D := Im [] wC) (Im.sub _ _) (Im.sub _ _) (row a) (row a) au au' cu cu' (hu1.mono fun _ _ _ h => h.tr ((hk5.tr hk6).tr (hk7.tr k7C))) hu1') ?_
      rintro e wD ⟨rfl, hkD⟩
      rw [decide_eq_true (rfl : row a = row a)]
      exact ⟨rfl, k07.tr (k7C.tr hkD)⟩
     ·rw [hlong (by omega)] at he
      obtain rfl := he
      refine ⟨.inl k7A, ?_⟩
      refine rV τok [18, 19, 20, 21, 22, 23, 24] 0 (mB 25 []) k7A ?_
      refine dV ?_
      refine ix 0 rfl (by simp) ?_
      refine ld (Cl.cell hz0A.1) ?_
      refine fill [.slice a0 (row X0).length c0] rfl ?_
      refine new fun bd wB hbd hBd hsB hkB => ?_
      have hBd : Bk wB.heap bd [.slice a0 (row X0).length c0] 29 := hBd
      have k7B := k7A.tr hkB
      obtain ⟨a', c', e', h', _⟩ := rT' (X := []) hBd (by simp) (hz0T.mono fun _ _ _ h => h.tr k7B)
      injection e' with q1 q2 q3
      subst q1
      refine ab' (jR' (C := Im [] wB) (Im.sub [] wB) 4 (.inl rfl) [X0] [] (fun y hy => (by simpa using hy : y = X0) ▸ ⟨fx.ok, fx.len⟩) (by simp) none _ 0 1 (Sl.nil _ _ _) (by simp) h') ?_
      rintro e wC ⟨he, hkC⟩
      rw [if_pos (show bt' [] ≠ 0 by decide)] at he
      obtain rfl := he
      have k7C := k7B.tr hkC
      refine ld (Cl.cell ((h2.kp k7C (by simp)).cl rfl)) ?_
      refine aA' (p := (255 : Int) < (x.ctx.length : Int)) (by omega) ?_
      exact ⟨rfl, k07.tr k7C⟩
    ·intro tail
     refine fl' τok 2 10 11 (mB 25 [5, 10, 11, 17, 18, 19, 20, 21, 22, 23, 24]) (mB 25 [2, 5, 11, 17, 18, 19, 20, 21, 22, 23, 24]) rfl rfl rfl rfl rfl (by kernel_rfl) ?_ ?_
     ·
      refine fill [] rfl ?_
      refine new fun ba wa hba hA hsa hka => ?_
      have hka : Kp [] w7 wa := by first | exact hka | exact hka.rd
      have hba : ba = (w7).heap.size := hba
      have hbw : w7.heap.size ≤ ba := by rw [hba]; first | exact Nat.le_refl _ | exact hk8.size
      have hA : Bk (wa).heap ba [] 35 := hA
      refine ⟨.inl hka, ?_⟩
      refine fl' τok 5 10 10 (mB 25 [10, 11, 17, 18, 19, 20, 21, 22, 23, 24]) (mB 25 [5, 11, 17, 18, 19, 20, 21, 22, 23, 24]) rfl rfl rfl rfl rfl (by kernel_rfl) ?_ ?_
      ·
       refine ap τok rfl rfl (by decide) w7.heap.size (v := .slice (some ⟨ba, 0, none⟩) 0 0) (n := 0) (xs := []) (gi' (n := 0) hA (by omega) (by simp) (by simp [maxLen])) css.flatten hcf1 (hcc.imp_right fun ⟨b, o, h1, h3⟩ => ⟨b, o, h1, fun j u hj => (h3 j u hj).kp hka (by simp)⟩) hcf2 (by omega) (by simp only [maxLen]; omega) (by omega) fun vr wb hr8 hkr => ?_
       rw [Nat.zero_add, List.nil_append] at hr8
       have hkr : Kp [ba] wa wb := by first | exact hkr | exact hkr.rd
       have k7b : Kp [] w7 wb := hka.trans hkr fun y hy hl => by simp at hy; omega
       refine ⟨.inl k7b, ?_⟩
       refine nV τok 10 9 (mB 25 [11, 17, 18, 19, 20, 21, 22, 23, 24]) ?_
       refine fill [.slice a0 (row X0).length c0, .slice none 0 0] rfl ?_
       refine new fun b8 wc hb8 h8 hs8 hk8 => ?_
       have hk8 : Kp [] wb wc := by first | exact hk8 | exact hk8.rd
       have hb8 : b8 = (wb).heap.size := hb8
       have h8 : Bk (wc).heap b8 [.slice a0 (row X0).length c0, .slice none 0 0] 35 := h8
       refine ⟨.inl (k7b.tr hk8), ?_⟩
       refine sj' [(1, pt b2), (3, .slice au (row a).length cu), (5, .int .i64 0), (6, .slice (some ⟨bk, ok, none⟩) 2 ck0), (84, .agg #[.int .i64 x.book.vars, v1, v2, .int .i64 x.book.nat, v3]), (88, vr), (93, .slice (some ⟨b8, 0, none⟩) 1 1), (97, .slice a1 (row Y0).length c1), (99, .int .i64 x.fuel)] ⟨rfl, rfl, rfl, rfl, rfl, rfl, rfl, rfl, rfl, trivial⟩ ?_
       exact tail _ _ ⟨vr, b8, rfl, (nA' hr8 hk8 (by simp)), h8, (k7b.tr hk8)⟩
      ·
       refine fill [.slice a0 (row X0).length c0, .slice none 0 0] rfl ?_
       refine new fun b8 wb hb8 h8 hs8 hk8 => ?_
       have hk8 : Kp [] wa wb := by first | exact hk8 | exact hk8.rd
       have hb8 : b8 = (wa).heap.size := hb8
       have h8 : Bk (wb).heap b8 [.slice a0 (row X0).length c0, .slice none 0 0] 35 := h8
       refine ⟨.inl (hka.tr hk8), ?_⟩
       have hA := hA.kp hk8 (by simp)
       refine nV τok 5 9 (mB 25 [11, 17, 18, 19, 20, 21, 22, 23, 24]) ?_
       refine ap τok rfl rfl (by decide) w7.heap.size (v := .slice (some ⟨ba, 0, none⟩) 0 0) (n := 0) (xs := []) (gi' (n := 0) hA (by omega) (by simp) (by simp [maxLen])) css.flatten hcf1 (hcc.imp_right fun ⟨b, o, h1, h3⟩ => ⟨b, o, h1, fun j u hj => (h3 j u hj).kp (hka.tr hk8) (by simp)⟩) hcf2 (by omega) (by simp only [maxLen]; omega) (by omega) fun vr wc hr8 hkr => ?_
       rw [Nat.zero_add, List.nil_append] at hr8
       have hkr : Kp [ba] wb wc := by first | exact hkr | exact hkr.rd
       have k7c : Kp [] w7 wc := (hka.tr hk8).trans hkr fun y hy hl => by simp at hy; omega
       refine ⟨.inl k7c, ?_⟩
       refine sj' [(1, pt b2), (3, .slice au (row a).length cu), (5, .int .i64 0), (6, .slice (some ⟨bk, ok, none⟩) 2 ck0), (84, .agg #[.int .i64 x.book.vars, v1, v2, .int .i64 x.book.nat, v3]), (88, vr), (93, .slice (some ⟨b8, 0, none⟩) 1 1), (97, .slice a1 (row Y0).length c1), (99, .int .i64 x.fuel)] ⟨rfl, rfl, rfl, rfl, rfl, rfl, rfl, rfl, rfl, trivial⟩ ?_
       exact tail _ _ ⟨vr, b8, rfl, hr8, (h8.kp hkr (by simp; omega)), k7c⟩
     ·
      refine fill [.slice a0 (row X0).length c0, .slice none 0 0] rfl ?_
      refine new fun b8 wa hb8 h8 hs8 hk8 => ?_
      have hk8 : Kp [] w7 wa := by first | exact hk8 | exact hk8.rd
      have hb8 : b8 = (w7).heap.size := hb8
      have h8 : Bk (wa).heap b8 [.slice a0 (row X0).length c0, .slice none 0 0] 35 := h8
      refine ⟨.inl hk8, ?_⟩
      refine nV τok 2 10 (mB 25 [5, 11, 17, 18, 19, 20, 21, 22, 23, 24]) ?_
      refine fill [] rfl ?_
      refine new fun ba wb hba hA hsa hka => ?_
      have hka : Kp [] wa wb := by first | exact hka | exact hka.rd
      have hba : ba = (wa).heap.size := hba
      have hbw : w7.heap.size ≤ ba := by rw [hba]; first | exact Nat.le_refl _ | exact hk8.size
      have hA : Bk (wb).heap ba [] 35 := hA
      refine ⟨.inl (hk8.tr hka), ?_⟩
      refine nV τok 5 9 (mB 25 [11, 17, 18, 19, 20, 21, 22, 23, 24]) ?_
      refine ap τok rfl rfl (by decide) w7.heap.size (v := .slice (some ⟨ba, 0, none⟩) 0 0) (n := 0) (xs := []) (gi' (n := 0) hA (by omega) (by simp) (by simp [maxLen])) css.flatten hcf1 (hcc.imp_right fun ⟨b, o, h1, h3⟩ => ⟨b, o, h1, fun j u hj => (h3 j u hj).kp (hk8.tr hka) (by simp)⟩) hcf2 (by omega) (by simp only [maxLen]; omega) (by omega) fun vr wc hr8 hkr => ?_
      rw [Nat.zero_add, List.nil_append] at hr8
      have hkr : Kp [ba] wb wc := by first | exact hkr | exact hkr.rd
      have k7c : Kp [] w7 wc := (hk8.tr hka).trans hkr fun y hy hl => by simp at hy; omega
      refine ⟨.inl k7c, ?_⟩
      refine sj' [(1, pt b2), (3, .slice au (row a).length cu), (5, .int .i64 0), (6, .slice (some ⟨bk, ok, none⟩) 2 ck0), (84, .agg #[.int .i64 x.book.vars, v1, v2, .int .i64 x.book.nat, v3]), (88, vr), (93, .slice (some ⟨b8, 0, none⟩) 1 1), (97, .slice a1 (row Y0).length c1), (99, .int .i64 x.fuel)] ⟨rfl, rfl, rfl, rfl, rfl, rfl, rfl, rfl, rfl, trivial⟩ ?_
      exact tail _ _ ⟨vr, b8, rfl, hr8, ((h8.kp hka (by simp)).kp hkr (by simp; omega)), k7c⟩
   ·have h5 : ¬ (tr x.term).n.op = 5 := h5
    refine ac' (fun h6 => ?_) (fun h6 => ?_)
    ·have h6 : (tr x.term).n.op = 6 := h6
     obtain ⟨X0, Y0, ty, l, z, l2, d, cod, hk, fx, fy, hty, fty, hwh, fz, z4, hkz, fd, fcod, ⟨qc, hqc⟩, hsb⟩ := pD' (by omega) (by omega) hr h6
     rw [hk] at hks ⊢
     obtain ⟨bk, ok, ck, pk, z0, hz0, hz0T⟩ := hks.get (i := 0) rfl
     obtain ⟨bk1, ok1, ck1, pk1, z1, hz1, hz1T⟩ := hks.get (i := 1) rfl
     injection pk with q1 _ q2
     subst q1 q2
     injection pk1 with q1 _ q3
     injection q1 with q1
     injection q1 with q1 q4
     subst q1 q4 q3
     obtain ⟨a0, c0, rfl, _, _⟩ := id hz0T
     obtain ⟨a1, c1, rfl, _, _⟩ := id hz1T
     refine ax' τok (fun z => Kp [] w6 z) ?_
     refine rV τok [0, 1, 2, 3, 4, 5, 6, 7, 8] 8 (mB 17 [9, 10, 11, 12, 13, 14, 15, 16]) ((Kp.refl [] w6).dr _) ?_
     refine dr' [.int .i64 x.book.vars, v1, v2, .int .i64 x.book.nat, v3] rfl (bk5 h2) ?_
     refine ldK (h2.cl rfl) ?_
     refine ix 0 rfl (by simp) ?_
     refine ldK hz0.1 ?_
     refine ldK (h2.cl rfl) ?_
     refine nV τok 9 7 (mB 17 [10, 11, 12, 13, 14, 15, 16]) ?_
     refine ab' (fg' (w := { w6 with drawn := w6.drawn + 1 }) (X := []) (B := x.book) (c := x.ctx) (t := row X0) (fuel := x.fuel) (by simp) (hbo.mono up6) (hC.mono up6) (TmV.sv.1 hz0T)) ?_
     rintro e w7 ⟨he, hk7⟩
     have hk7 : Kp [] w6 w7 := hk7.rd
     rw [hty] at he
     obtain ⟨uf, rfl, huf⟩ := he
     obtain ⟨af, cf, rfl, _, _⟩ := id huf
     refine ⟨.inl hk7, ?_⟩
     refine rV τok [10, 11, 12, 13, 14, 15, 16] 0 (mB 17 []) hk7 ?_
     refine dV ?_
     have k07 := k06.tr hk7
     have h2 := h2.kp hk7 (by simp)
     have up7 : ∀ b o v, Im [] w b o v → Im [] w7 b o v := fun b o v h => h.tr k07
     refine ldN [.int .i64 x.book.vars, v1, v2, .int .i64 x.book.nat, v3] rfl (bk5 h2) ?_
     refine ld (Cl.cell (h2.cl rfl)) ?_
     refine ab' (rc' (X := []) (B := x.book) (c := x.ctx) (t := row ty) (fuel := (l : Int)) (by simp) (hbo.mono up7) (hC.mono up7) (TmV.sv.1 huf)) ?_
     rintro e w8 ⟨he, hk8⟩
     rw [hwh] at he
     obtain ⟨uz, rfl, huz⟩ := he
     have huz : TmV (Im [] w8) z uz := huz
     obtain ⟨bz, oz, cz, rfl, _, _, _, hzc⟩ := huz.hd
     refine ab' (di' (Im.sub [] w8) (fun _ _ _ h => h.hold) fz huz) ?_
     rintro e w9 ⟨uk2, rfl, hks2, hk9⟩
     have hks2 : TmsV (Im [] w9) (kidsT z) uk2 := hks2.tv (by simp)
     rw [hkz] at hks2
     obtain ⟨bj, oj, cj, pj, y0, hy0, hy0T⟩ := hks2.get (i := 0) rfl
     obtain ⟨bj1, oj1, cj1, pj1, y1, hy1', hy1T⟩ := hks2.get (i := 1) rfl
     subst pj
     injection pj1 with q1 q2 q3
     injection q1 with q1
     injection q1 with q1 q4
     subst q1 q4 q3
     obtain ⟨a3, c3, rfl, _, _⟩ := id hy0T
     obtain ⟨a4, c4, rfl, _, _⟩ := id hy1T
     have k69 : Kp [] w6 w9 := hk7.tr (hk8.tr hk9)
     have k09 := k06.tr k69
     have h2 := h2.kp (hk8.tr hk9) (by simp)
     have up9 : ∀ b o v, Im [] w b o v → Im [] w9 b o v := fun b o v h => h.tr k09
     have hz0 := hz0.tr k69
     have hz1 := hz1.tr k69
     have hz1T := hz1T.mono fun _ _ _ h => h.tr k69
     refine ix 0 rfl (aj' _) ?_
     refine ld (Cl.cell ((hzc 0 _ rfl).tr hk9).1) ?_
     refine cE' (p := z.n.op ≠ 4) (by omega) ?_
     refine ax' τok (fun z => Kp [] w9 z) ?_
     refine rV τok [0, 1, 2, 3, 4, 5, 6, 7, 8, 9, 10, 11] 5 (mB 17 [12, 13, 14, 15, 16]) ((Kp.refl [] w9).dr _) ?_
     refine dr' [.int .i64 x.book.vars, v1, v2, .int .i64 x.book.nat, v3] rfl (bk5 h2) ?_
     refine ldK (h2.cl rfl) ?_
     refine ix 1 rfl (by simp) ?_
     refine ldK hz1.1 ?_
     refine ix 0 rfl (by simp) ?_
     refine ldK hy0.1 ?_
     refine ldK (h2.cl rfl) ?_
     refine nV τok 12 4 (mB 17 [13, 14, 15, 16]) ?_
     refine ab' (pw' (w := { w9 with drawn := w9.drawn + 1 }) (X := []) (B := x.book) (c := x.ctx) (t := row Y0) (ty := row d) (fuel := x.fuel) (by simp) (hbo.mono up9) (hC.mono up9) (TmV.sv.1 hz1T) (TmV.sv.1 hy0T)) ?_
     rintro e wA ⟨he, hkA⟩
     have hkA : Kp [] w9 wA := hkA.rd
     rw [hqc] at he
     obtain rfl := he
     refine ⟨.inl hkA, ?_⟩
     refine rV τok [13, 14, 15, 16] 0 (mB 17 []) hkA ?_
     refine dV ?_
     have hy1A := hy1'.tr hkA
     have hz1A := hz1.tr hkA
     refine ax' τok (fun z => Kp [] wA z) ?_
     refine rV τok [0, 1, 2, 3, 4, 5] 6 (mB 12 [6, 7, 8, 9, 10, 11]) ((Kp.refl [] wA).dr _) ?_
     refine ix 1 rfl (by simp) ?_
     refine ldK hy1A.1 ?_
     refine ix 1 rfl (by simp) ?_
     refine ldK hz1A.1 ?_
     refine nV τok 6 5 (mB 12 [7, 8, 9, 10, 11]) ?_
     refine ab' (gB' (w := { wA with drawn := wA.drawn + 1 }) (C := Im [] wA) (Q := QB x.book) (N := (x.ctx.length : Int)) (Im.sub [] wA) (fun _ _ _ h => h.hold) (x := cod) (u := Y0) (v := 0) (by rw [Int.add_zero]; exact fcod) fy (by omega) (hy1T.mono fun _ _ _ h => h.tr hkA) (hz1T.mono fun _ _ _ h => h.tr hkA) (by omega)) ?_
     unfold aE' at hsb
     split at hsb
     ·cases hsb
     rename_i g
     injection hsb with hsb
     rintro e wB ⟨he, hkB⟩
     rw [if_neg g, hsb] at he
     obtain ⟨zv, rfl, hzv⟩ := he
     have hzv : IsTm a wA wB zv := hzv
     have hkB : Kp [] wA wB := hkB.rd
     obtain ⟨au', cu', rfl, hu1', _⟩ := hzv.tv (X := []) (by simp)
     refine ⟨.inl hkB, ?_⟩
     refine rV τok [7, 8, 9, 10, 11] 0 (mB 12 []) hkB ?_
     refine dV ?_
     have k9B := hkA.tr hkB
     refine ab' (gJ' (w := wB) (C := Im [] wB) (D := Im [] wB) (Im.sub _ _) (Im.sub _ _) (row a) (row a) au au' cu cu' (hu1.mono fun _ _ _ h => h.tr ((hk5.tr hk6).tr (k69.tr k9B))) hu1') ?_
     rintro e wC ⟨rfl, hkC⟩
     rw [decide_eq_true (rfl : row a = row a)]
     exact ⟨rfl, k09.tr (k9B.tr hkC)⟩
    ·exact ⟨rfl, k06⟩
end
end Go.Proofs.YtededhgpckkmkaaGreat
namespace Go.Wx
open Go.ChangeShapes Go.WideShapes Go.ChangeAt Go.RowKit
theorem kL' {H : Type} {enc : TypeId × Value → H} {P : Program} (hl : laidOutB P = true) {W W' : World} (hb : Below W.heap.size W W') :
  ∀ (ts : List TypeId) (vs : List Value) (ds : List (DataW H)) (ps : List MemPlace), (ts.all fun t => P.readableRec t && Nat.blt t P.types.size) = true → DataW.TrodAll enc P W 0 (fun _ => true) true ts vs ds ps →
   (∀ x ∈ ps, x.block < W.heap.size) → ∀ sp : Nat → Bool, (∀ p ∈ ps, sp p.block = true) → DataW.TrodAll enc P W' 0 sp true ts vs ds ps
 | [], vs, ds, ps, _, h, _, sp, _ => by
  obtain ⟨rfl, rfl, rfl⟩ := trodAll_nil h
  rfl
 | t :: ts, vs, ds, ps, hts, h, hlt, sp, hsp => by
  obtain ⟨v, vs', d, ds', p, q, rfl, rfl, rfl, h0, h1⟩ := trodAll_cons h
  simp only [List.all_cons, Bool.and_eq_true] at hts
  refine ⟨p, q, ?_, kL' hl hb ts _ _ _ hts.2 h1 (fun x hx => hlt x (by simp [hx])) sp (fun x hx => hsp x (by simp [hx])), rfl⟩
  exact WideElems.Trod_stays hl hts.1.1 (by simpa [Nat.blt_eq] using hts.1.2) h0 (fun x hx => hb.same (hlt x (by simp [hx]))) (fun x hx => hsp x (by simp [hx]))
theorem pE' {H : Type} {enc : TypeId × Value → H} {P : Program} {f : Func} {s : ChangeSpec} {apart fresh handsOn : Bool} {W W' : World} {args : Array Value} {ds gs : List (DataW H)} {before : List MemPlace} {tb : TypeId}
  (hl : laidOutB P = true) (hts : (f.params.toList.all fun t => P.readableRec t && Nat.blt t P.types.size) = true) (hrt : f.resultTypes = #[tb]) (hb : P.underlying tb = some .bool)
  (hW : DataW.Whole enc P f.params.toList s.vars apart W args.toList ds gs before) (hs : s.vars = []) (hres : (s.fn H ds).results = [.lit (.bool true)]) (hargs : (s.fn H ds).args = ds) (hvars : (s.fn H ds).vars = [])
  (hk : Kp [] W W') : s.post enc P f apart fresh handsOn false W args (.bool true) W' := by
 have hW' := hW
 obtain ⟨p, q, hA, hV, rfl, hfz, hnd⟩ := hW
 rw [hs] at hV
 obtain ⟨rfl, rfl⟩ := trodVars_none hV
 have hbl := hk.below
 have hlt : ∀ x ∈ p, x.block < W.heap.size := fun x hx => hW'.lt x (by simp [hx])
 refine ⟨ds, [], p ++ [], [], p, [], hW', ?_, ?_, ?_, ?_, fun h => by cases h⟩
 ·rw [List.append_nil, hres, hrt]
  exact trodAll_mk1 (shut_bool hb true)
 ·rw [List.append_nil, hargs]
  exact kL' hl hbl _ _ _ _ hts hA hlt _ fun x hx => by simpa using hlt x hx
 ·rw [List.append_nil, hvars, hs]
  rfl
 ·exact hbl.frame _
end Go.Wx
set_option maxRecDepth 100000
namespace Go.Proofs.YtededhgpckkmkaaGreat
open Go.Wx Go.ChangeShapes Go.WideShapes Go.ChangeAt Go.RowKit
theorem rn' {H : Type} (d : DataW H) : 1 ≤ Rows.uptoBulk d := by
 cases d with
 | lit l => cases l <;> simp [Rows.uptoBulk]
 | nil => simp [Rows.uptoBulk]
 | ptr d => simp [Rows.uptoBulk]
 | slice elems spare => simp [Rows.uptoBulk]
 | agg parts => simp [Rows.uptoBulk]
 | iface t d => simp [Rows.uptoBulk]
 | map entries => simp [Rows.uptoBulk]
 | held h => simp [Rows.uptoBulk]
theorem gZ' {H : Type} {d : DataW H} {l : List (DataW H)} (h : d ∈ l) : Rows.uptoBulk d ≤ Rows.uptoBulkAll l := by
 induction l with
 | nil => cases h
 | cons x r ih =>
  simp only [Rows.uptoBulkAll]
  cases List.mem_cons.1 h with
  | inl e => subst e; omega
  | inr e => have := ih e; omega
theorem ro' {H : Type} (l : List (DataW H)) : l.length ≤ Rows.uptoBulkAll l := by
 induction l with
 | nil => simp [Rows.uptoBulkAll]
 | cons x r ih => have := rn' x; simp only [Rows.uptoBulkAll, List.length_cons]; omega
theorem tf' {H : Type} {l : List (DataW H)} (hk : Rows.uptoSmall H l = true) : Rows.uptoBulkAll l ≤ 1048576 := of_decide_eq_true hk
theorem rp' {H : Type} (l r : List (DataW H)) : Rows.uptoBulkAll (l ++ r) = Rows.uptoBulkAll l + Rows.uptoBulkAll r := by
 induction l with
 | nil => simp [Rows.uptoBulkAll]
 | cons x l ih => simp only [List.cons_append, Rows.uptoBulkAll, ih]; omega
theorem aP' {H : Type} {xs : List (DataW H × List MemPlace)} {x : DataW H × List MemPlace} (hx : x ∈ xs) (hB : Rows.uptoBulk (.agg (xs.map (·.1))) ≤ 1048576) : Rows.uptoBulk x.1 ≤ 1048576 := by
 have := gZ' (List.mem_map_of_mem (f := (·.1)) hx)
 simp only [Rows.uptoBulk] at hB
 omega
section
variable {H : Type} {enc : TypeId × Value → H} {w : World} {spare : Nat → Bool} {held : Bool}
theorem lA' {a : Addr} {v : Value} (h : w.cell? a = some v) : ∃ b o, a = ⟨b, o, none⟩ := by
 obtain ⟨b, o, s⟩ := a
 unfold World.cell? at h
 split at h
 ·rename_i c T fz hb
  cases s with
  | none => exact ⟨b, o, rfl⟩
  | some _ => simp at h
 ·cases h
theorem rq' {α : Type} [Inhabited α] {t e : TypeId} (R : Rd α) (hk : 0 < R.sz) (ht : Tryz.prog.underlying t = some (.slice e)) (hc : Tryz.prog.cellsOf e = R.sz) (ok : DataW H → Prop)
  (one : ∀ (cs : List Value) (n : Nat) (y : DataW H × List MemPlace), cs.length = R.sz → DataW.trod enc Tryz.prog w 0 spare held n e cs = some y → ok y.1 → ∃ x : α, R.den (Old w) cs x)
  {fuel : Nat} {v : Value} {x : DataW H × List MemPlace} (h : DataW.trod enc Tryz.prog w 0 spare held fuel t [v] = some x) (hok : ∀ es sp, x.1 = .slice es sp → ∀ d ∈ es, ok d) :
  ∃ (a : Option Addr) (l : List α) (cap : Nat), v = .slice a l.length cap ∧ (l.length ≤ 1099511627776 → Sl R (Old w) a l) ∧ (l.length = 0 ∨ ∃ es sp, x.1 = .slice es sp ∧ es.length = l.length) := by
 rcases Go.Deep.open_slice ht h with ⟨h1, rfl⟩ | ⟨a, len, cap, m, n, D, Pl, h1, hb, hl, hm, hmm, rfl, hx⟩
 ·simp only [List.cons.injEq, and_true] at h1
  subst h1
  exact ⟨none, [], 0, rfl, fun _ => Sl.nil _ _ _, .inl rfl⟩
 simp only [List.cons.injEq, and_true] at h1
 subst h1
 have hlm : len ≤ m := by rw [hmm]; split <;> omega
 rw [hc] at hx
 have each : ∀ i, i < len → ∃ q : α × List Value, R.den (Old w) q.2 q.1 ∧ ∀ j u, q.2[j]? = some u → w.cell? (a.add (i * R.sz + j)) = some u := by
  intro i hi
  obtain ⟨cs', h1, h2⟩ := hx i (by omega)
  obtain ⟨_, hlen, hcell⟩ := World.cells?_some h1
  obtain ⟨x, hx⟩ := one cs' n _ hlen h2 (hok _ _ rfl _ (List.mem_map.2 ⟨i, by simpa using hi, rfl⟩))
  refine ⟨(x, cs'), hx, fun j u hu => ?_⟩
  have hj : j < R.sz := by rw [← hlen]; exact al' hu
  rw [← Go.Deep.add_add, hcell j hj]
  exact hu
 obtain ⟨q, hq⟩ := Go.Deep.choose_lt each
 refine ⟨some a, (List.range len).map fun i => (q i).1, cap, by simp, fun hbig => ⟨hbig, ?_⟩, .inr ⟨_, _, rfl, by simp⟩⟩
 by_cases h0 : len = 0
 ·exact .inl (by simp [h0])
 obtain ⟨hd0, hz⟩ := hq 0 (by omega)
 have hl0 := R.len hd0
 obtain ⟨u0, hu0⟩ : ∃ u, (q 0).2[0]? = some u := ⟨(q 0).2[0]'(by omega), by simp⟩
 have hz0 := hz 0 u0 hu0
 rw [Nat.zero_mul, Nat.add_zero] at hz0
 have hz' : w.cell? a = some u0 := by simpa [Addr.add] using hz0
 obtain ⟨b, o, rfl⟩ := lA' hz'
 refine .inr ⟨b, o, rfl, fun i x hi => ?_⟩
 rw [List.getElem?_map] at hi
 have hil : i < len := by
  rcases Nat.lt_or_ge i len with h | h
  ·exact h
  ·rw [List.getElem?_eq_none (by simpa using h)] at hi; cases hi
 rw [List.getElem?_range hil] at hi
 have hi := Option.some.inj hi
 subst hi
 obtain ⟨hdi, hci⟩ := hq i hil
 refine ⟨(q i).2, hdi, fun j u hj => Cl.of ?_⟩
 have := hci j u hj
 rw [dF'] at this
 rw [Nat.add_assoc]
 exact this
theorem tg' {α : Type} [Inhabited α] {t e : TypeId} (R : Rd α) (hk : 0 < R.sz) (ht : Tryz.prog.underlying t = some (.slice e)) (hc : Tryz.prog.cellsOf e = R.sz)
  (one : ∀ (cs : List Value) (n : Nat) (y : DataW H × List MemPlace), cs.length = R.sz → DataW.trod enc Tryz.prog w 0 spare held n e cs = some y → Rows.uptoBulk y.1 ≤ 1048576 → ∃ x : α, R.den (Old w) cs x)
  {fuel : Nat} {v : Value} {x : DataW H × List MemPlace} (h : DataW.trod enc Tryz.prog w 0 spare held fuel t [v] = some x) (hB : Rows.uptoBulk x.1 ≤ 1048576) : ∃ l, (rSl R).den (Old w) [v] l := by
 obtain ⟨a, l, cap, h1, h2, h3⟩ := rq' R hk ht hc (fun d => Rows.uptoBulk d ≤ 1048576) one h (fun es sp e d hd => by
  rw [e] at hB
  have := gZ' hd
  simp only [Rows.uptoBulk] at hB
  omega)
 refine ⟨l, a, cap, by rw [h1], h2 ?_⟩
 rcases h3 with h3 | ⟨es, sp, e, hl⟩
 ·omega
 ·rw [e] at hB
  have := ro' es
  simp only [Rows.uptoBulk] at hB
  omega
end
end Go.Proofs.YtededhgpckkmkaaGreat
set_option maxRecDepth 100000
namespace Go.Proofs.YtededhgpckkmkaaGreat
open Go.Wx Cd Tm Lv Go.ChangeShapes Go.WideShapes Go.ChangeAt Go.RowKit
instance : Inhabited Nd := ⟨⟨0, 0, 0⟩⟩
instance : Inhabited aY' := ⟨⟨0, 0, 0⟩⟩
instance : Inhabited BoT := ⟨⟨0, [], [], -1, []⟩⟩
section
variable {H : Type} {enc : TypeId × Value → H} {w : World} {spare : Nat → Bool} {held : Bool}
theorem th' {z : Int} (h : (Lit.int .i64 z).wf = true) : I64 z := by
 simpa [I64, Lit.wf, IntKind.min, IntKind.max, IntKind.signed, IntKind.bits] using h
theorem eB' {α : Type} [Inhabited α] {t e : TypeId} (R : Rd α) (hk : 0 < R.sz) (ht : Tryz.prog.underlying t = some (.slice e)) (hc : Tryz.prog.cellsOf e = R.sz)
  (one : ∀ (cs : List Value) (n : Nat) (y : DataW H × List MemPlace), cs.length = R.sz → DataW.trod enc Tryz.prog w 0 spare held n e cs = some y → Rows.uptoBulk y.1 ≤ 1048576 → ∃ x : α, R.den (Old w) cs x)
  {fuel : Nat} {v : Value} {x : DataW H × List MemPlace} (h : DataW.trod enc Tryz.prog w 0 spare held fuel t [v] = some x) (hB : Rows.uptoBulk x.1 ≤ 1048576) : ∃ l, SV R (Old w) l v := by
 obtain ⟨l, a, c, e, hs⟩ := tg' R hk ht hc one h hB
 have e : v = .slice a l.length c := by simpa using e
 refine ⟨l, a, c, e, hs, ?_⟩
 rcases Go.Deep.open_slice ht h with ⟨h1, rfl⟩ | ⟨a', len, cap, m, k, D, Pl, h1, hb, hl, _⟩
 ·rw [e] at h1
  have h1 := (List.cons.inj h1).1
  injection h1 with q1 q2 q3
  omega
 ·rw [e] at h1
  have h1 := (List.cons.inj h1).1
  injection h1 with q1 q2 q3
  omega
theorem cm' {n : Nat} {cs : List Value} {y : DataW H × List MemPlace} (hn : DataW.trod enc Tryz.prog w 0 spare held n 3 cs = some y) : ∃ z, cs = [.int .i64 z] ∧ I64 z := by
 obtain ⟨z, rfl, rfl, hw⟩ := DataW.trod_int Tryz.underlying3 hn
 exact ⟨z, rfl, th' hw⟩
theorem ti' {n : Nat} {cs : List Value} {y : DataW H × List MemPlace} (hl : cs.length = 3) (hn : DataW.trod enc Tryz.prog w 0 spare held n 50 cs = some y) : ∃ x, rNd.den (Old w) cs x := by
 obtain ⟨xs, m, rfl, rfl, _, hxl, hf⟩ := DataW.trod_struct Tryz.underlying50 hn
 match cs, hl, xs, hxl with
 | [c0, c1, c2], _, [x0, x1, x2], _ =>
  have g0 := hf 0 _ rfl
  have g1 := hf 1 _ rfl
  have g2 := hf 2 _ rfl
  simp [show Tryz.prog.cellsOf 3 = 1 by kernel_rfl] at g0 g1 g2
  obtain ⟨z0, e0, w0⟩ := cm' g0
  obtain ⟨z1, e1, w1⟩ := cm' g1
  obtain ⟨z2, e2, w2⟩ := cm' g2
  simp at e0 e1 e2
  subst e0 e1 e2
  exact ⟨⟨z0, z1, z2⟩, rfl, w0, w1, w2⟩
theorem tj' {n : Nat} {cs : List Value} {y : DataW H × List MemPlace} (hl : cs.length = 3) (hn : DataW.trod enc Tryz.prog w 0 spare held n 155 cs = some y) : ∃ x, rOr.den (Old w) cs x := by
 obtain ⟨xs, m, rfl, rfl, _, hxl, hf⟩ := DataW.trod_struct Tryz.underlying155 hn
 match cs, hl, xs, hxl with
 | [c0, c1, c2], _, [x0, x1, x2], _ =>
  have g0 := hf 0 _ rfl
  have g1 := hf 1 _ rfl
  have g2 := hf 2 _ rfl
  simp [show Tryz.prog.cellsOf 3 = 1 by kernel_rfl] at g0 g1 g2
  obtain ⟨z0, e0, w0⟩ := cm' g0
  obtain ⟨z1, e1, w1⟩ := cm' g1
  obtain ⟨z2, e2, w2⟩ := cm' g2
  simp at e0 e1 e2
  subst e0 e1 e2
  exact ⟨⟨z0, z1, z2⟩, rfl, w0, w1, w2⟩
theorem tk' {n : Nat} {cs : List Value} {y : DataW H × List MemPlace} (hl : cs.length = 2) (hn : DataW.trod enc Tryz.prog w 0 spare held n 117 cs = some y) : ∃ x, rPr.den (Old w) cs x := by
 obtain ⟨xs, m, rfl, rfl, _, hxl, hf⟩ := DataW.trod_struct Tryz.underlying117 hn
 match cs, hl, xs, hxl with
 | [c0, c1], _, [x0, x1], _ =>
  have g0 := hf 0 _ rfl
  have g1 := hf 1 _ rfl
  simp [show Tryz.prog.cellsOf 3 = 1 by kernel_rfl] at g0 g1
  obtain ⟨z0, e0, w0⟩ := cm' g0
  obtain ⟨z1, e1, w1⟩ := cm' g1
  simp at e0 e1
  subst e0 e1
  exact ⟨(z0, z1), rfl, w0, w1⟩
theorem cg' {n : Nat} {v : Value} {y : DataW H × List MemPlace} (hn : DataW.trod enc Tryz.prog w 0 spare held n 29 [v] = some y) (hB : Rows.uptoBulk y.1 ≤ 1048576) : ∃ l, SV rNd (Old w) l v :=
 eB' rNd (by decide) Tryz.underlying29 (by kernel_rfl) (fun cs n y hl hn hb => ti' hl hn) hn hB
theorem eg' {n : Nat} {v : Value} {y : DataW H × List MemPlace} (hn : DataW.trod enc Tryz.prog w 0 spare held n 47 [v] = some y) (hB : Rows.uptoBulk y.1 ≤ 1048576) : ∃ l, SV (rSk rNd) (Old w) l v :=
 eB' (rSk rNd) Nat.one_pos Tryz.underlying47 (by kernel_rfl) (fun cs n y hl hn hb => by
  match cs, hl with
  | [c], _ =>
   obtain ⟨l, a, cc, rfl, hs, hcap⟩ := cg' hn hb
   exact ⟨l, a, cc, rfl, hcap, hs⟩) hn hB
theorem tl' {n : Nat} {cs : List Value} {y : DataW H × List MemPlace} (hl : cs.length = 2) (hn : DataW.trod enc Tryz.prog w 0 spare held n 77 cs = some y) (hB : Rows.uptoBulk y.1 ≤ 1048576) : ∃ x, rCt.den (Old w) cs x := by
 obtain ⟨xs, m, rfl, rfl, _, hxl, hf⟩ := DataW.trod_struct Tryz.underlying77 hn
 match cs, hl, xs, hxl with
 | [c0, c1], _, [x0, x1], _ =>
  have g0 := hf 0 _ rfl
  have g1 := hf 1 _ rfl
  simp [show Tryz.prog.cellsOf 47 = 1 by kernel_rfl] at g0 g1
  obtain ⟨l0, h0⟩ := eg' g0 (aP' (x := x0) (by simp) hB)
  obtain ⟨l1, h1⟩ := eg' g1 (aP' (x := x1) (by simp) hB)
  exact ⟨⟨l0, l1⟩, _, _, rfl, h0, h1⟩
theorem tm' {n : Nat} {cs : List Value} {y : DataW H × List MemPlace} (hl : cs.length = 7) (hn : DataW.trod enc Tryz.prog w 0 spare held n 74 cs = some y) (hB : Rows.uptoBulk y.1 ≤ 1048576) : ∃ x, rEn.den (Old w) cs x := by
 obtain ⟨xs, m, rfl, rfl, _, hxl, hf⟩ := DataW.trod_struct Tryz.underlying74 hn
 match cs, hl, xs, hxl with
 | [c0, c1, c2, c3, c4, c5, c6], _, [x0, x1, x2, x3, x4, x5, x6], _ =>
  have g0 := hf 0 _ rfl
  have g1 := hf 1 _ rfl
  have g2 := hf 2 _ rfl
  have g3 := hf 3 _ rfl
  have g4 := hf 4 _ rfl
  have g5 := hf 5 _ rfl
  have g6 := hf 6 _ rfl
  simp [show Tryz.prog.cellsOf 3 = 1 by kernel_rfl, show Tryz.prog.cellsOf 47 = 1 by kernel_rfl, show Tryz.prog.cellsOf 29 = 1 by kernel_rfl, show Tryz.prog.cellsOf 72 = 1 by kernel_rfl] at g0 g1 g2 g3 g4 g5 g6
  obtain ⟨z0, e0, w0⟩ := cm' g0
  obtain ⟨l1, h1⟩ := cg' g1 (aP' (x := x1) (by simp) hB)
  obtain ⟨l2, h2⟩ := eg' g2 (aP' (x := x2) (by simp) hB)
  obtain ⟨l3, h3⟩ := eg' g3 (aP' (x := x3) (by simp) hB)
  obtain ⟨l4, h4⟩ := eB' rCt (by decide) Tryz.underlying72 (by kernel_rfl) (fun cs n y hl hn hb => tl' hl hn hb) g4 (aP' (x := x4) (by simp) hB)
  obtain ⟨l5, h5⟩ := cg' g5 (aP' (x := x5) (by simp) hB)
  obtain ⟨l6, h6⟩ := cg' g6 (aP' (x := x6) (by simp) hB)
  simp at e0
  subst e0
  exact ⟨⟨z0, l1, l2, l3, l4, l5, l6⟩, _, _, _, _, _, _, rfl, w0, h1, h2, h3, h4, h5, h6⟩
theorem tn' {n : Nat} {cs : List Value} {y : DataW H × List MemPlace} (hl : cs.length = 5) (hn : DataW.trod enc Tryz.prog w 0 spare held n 26 cs = some y) (hB : Rows.uptoBulk y.1 ≤ 1048576) : ∃ x, rBo.den (Old w) cs x := by
 obtain ⟨xs, m, rfl, rfl, _, hxl, hf⟩ := DataW.trod_struct Tryz.underlying26 hn
 match cs, hl, xs, hxl with
 | [c0, c1, c2, c3, c4], _, [x0, x1, x2, x3, x4], _ =>
  have g0 := hf 0 _ rfl
  have g1 := hf 1 _ rfl
  have g2 := hf 2 _ rfl
  have g3 := hf 3 _ rfl
  have g4 := hf 4 _ rfl
  simp [show Tryz.prog.cellsOf 3 = 1 by kernel_rfl, show Tryz.prog.cellsOf 22 = 1 by kernel_rfl, show Tryz.prog.cellsOf 23 = 1 by kernel_rfl, show Tryz.prog.cellsOf 24 = 1 by kernel_rfl] at g0 g1 g2 g3 g4
  obtain ⟨z0, e0, w0⟩ := cm' g0
  obtain ⟨l1, h1⟩ := eB' rOr (by decide) Tryz.underlying22 (by kernel_rfl) (fun cs n y hl hn hb => tj' hl hn) g1 (aP' (x := x1) (by simp) hB)
  obtain ⟨l2, h2⟩ := eB' rEn (by decide) Tryz.underlying23 (by kernel_rfl) (fun cs n y hl hn hb => tm' hl hn hb) g2 (aP' (x := x2) (by simp) hB)
  obtain ⟨z3, e3, w3⟩ := cm' g3
  obtain ⟨l4, h4⟩ := eB' rPr (by decide) Tryz.underlying24 (by kernel_rfl) (fun cs n y hl hn hb => tk' hl hn) g4 (aP' (x := x4) (by simp) hB)
  simp at e0 e3
  subst e0 e3
  exact ⟨⟨z0, l1, l2, z3, l4⟩, _, _, _, rfl, w0, w3, h1, h2, h4⟩
end
end Go.Proofs.YtededhgpckkmkaaGreat
set_option maxRecDepth 100000
namespace Go.Proofs.YtededhgpckkmkaaGreat
open Go.Wx Cd Tm Lv Go.ChangeShapes Go.WideShapes Go.ChangeAt Go.RowKit
section
variable {H : Type} {enc : TypeId × Value → H} {w : World} {spare : Nat → Bool} {held : Bool}
theorem tp' {n : Nat} {cs : List Value} {y : DataW H × List MemPlace} (hl : cs.length = 2) (hn : DataW.trod enc Tryz.prog w 0 spare held n 35 cs = some y) (hB : Rows.uptoBulk y.1 ≤ 1048576) : ∃ x, rBd.den (Old w) cs x := by
 obtain ⟨xs, m, rfl, rfl, _, hxl, hf⟩ := DataW.trod_struct Tryz.underlying35 hn
 match cs, hl, xs, hxl with
 | [c0, c1], _, [x0, x1], _ =>
  have g0 := hf 0 _ rfl
  have g1 := hf 1 _ rfl
  simp [show Tryz.prog.cellsOf 29 = 1 by kernel_rfl] at g0 g1
  obtain ⟨l0, h0⟩ := cg' g0 (aP' (x := x0) (by simp) hB)
  obtain ⟨l1, h1⟩ := cg' g1 (aP' (x := x1) (by simp) hB)
  exact ⟨(l0, l1), _, _, rfl, h0, h1⟩
theorem CaV.mono {C D : Mem} {x : CaT} {v : Value} (h : CaV C x v) (hc : ∀ b o v, C b o v → D b o v) : CaV D x v := by
 obtain ⟨v1, v2, v3, vc, vt, vy, e, h1, h2, h3, h4, h5, h6, h7⟩ := h
 exact ⟨v1, v2, v3, vc, vt, vy, e, h1.mono hc, h2.mono hc, h3.mono hc, h4.mono hc, h5.mono hc, h6.mono hc, h7⟩
theorem pF' {r : Reach} {b0 : Nat} {v : Value} {d : DataW H} {ps : List MemPlace} (hval : Value.okWide Tryz.prog w r b0 31 v) (h : DataW.Trod enc Tryz.prog w 0 spare held 31 v d ps) (hB : Rows.uptoBulk d ≤ 1048576) :
  ∃ x, CaV (Im [] w) x v := by
 obtain ⟨cs, rfl, hs⟩ := okWide_struct Tryz.underlying31 hval
 obtain ⟨fuel, hf0⟩ := h
 obtain ⟨xs, m, rfl, hx, hl, hxl, hf⟩ := DataW.trod_struct Tryz.underlying31 hf0
 have hsz : cs.size = 9 := by rw [hs]; kernel_rfl
 obtain ⟨cs⟩ := cs
 match cs, hsz, xs, hxl with
 | [c0, c1, c2, c3, c4, c5, c6, c7, c8], _, [x0, x1, x2, x3, x4], _ =>
  have hd : d = .agg ([x0, x1, x2, x3, x4].map (·.1)) := (Prod.mk.injEq .. ▸ hx).1
  rw [hd] at hB
  have g0 := hf 0 _ rfl
  have g1 := hf 1 _ rfl
  have g2 := hf 2 _ rfl
  have g3 := hf 3 _ rfl
  have g4 := hf 4 _ rfl
  simp [Value.cells, show Tryz.prog.cellsOf 26 = 5 by kernel_rfl, show Tryz.prog.cellsOf 27 = 1 by kernel_rfl, show Tryz.prog.cellsOf 29 = 1 by kernel_rfl, show Tryz.prog.cellsOf 3 = 1 by kernel_rfl] at g0 g1 g2 g3 g4
  obtain ⟨bo, w1, w2, w3, e0, i0, i1, h1, h2, h3⟩ := tn' rfl g0 (aP' (x := x0) (by simp) hB)
  obtain ⟨l1, k1⟩ := eB' rBd (by decide) Tryz.underlying27 (by kernel_rfl) (fun cs n y hl hn hb => tp' hl hn hb) g1 (aP' (x := x1) (by simp) hB)
  obtain ⟨l2, k2⟩ := cg' g2 (aP' (x := x2) (by simp) hB)
  obtain ⟨l3, k3⟩ := cg' g3 (aP' (x := x3) (by simp) hB)
  obtain ⟨z4, e4, i4⟩ := cm' g4
  simp at e0 e4
  obtain ⟨rfl, rfl, rfl, rfl, rfl⟩ := e0
  subst e4
  exact ⟨⟨bo, l1, l2, l3, z4⟩, CaV.mono (C := Old w) ⟨_, _, _, _, _, _, rfl, h1, h2, h3, k1, k2, k3, i4⟩ fun b o v h => ⟨Old.sub w _ _ _ h, by simp⟩⟩
end
end Go.Proofs.YtededhgpckkmkaaGreat
