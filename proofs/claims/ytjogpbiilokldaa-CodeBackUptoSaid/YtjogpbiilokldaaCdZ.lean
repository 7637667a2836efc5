/-
  Code: CodeBack.
-/
import Derived.Test.YtjogpbiilokldaaCdYa
set_option linter.unusedSimpArgs false
set_option linter.unusedVariables false
namespace Go.Proofs.Ytjogpbiilokldaa
open Go.Wx Cd

theorem codB_pos (c : Cod) : 0 < (codB c).length := by
  unfold codB
  simp only [List.length_append]
  have : 0 < (numsB [c.nat + 1, (c.shapes.length : Int)]).length := by
    unfold numsB
    simp only [List.flatMap_cons, List.length_append]
    have := form_len_pos (c.nat + 1).toNat
    omega
  omega

theorem Sl.byt {C : Mem} {a : Option Addr} {l : List Nat} (h : Sl rU8 C a l) : Byt l := fun x hx => by
  obtain ⟨i, hi⟩ := List.getElem?_of_mem hx
  obtain ⟨_, _, _, _, h⟩ := h.u8 hi
  exact h
theorem Sl.take8 {C : Mem} {a : Option Addr} {l : List Nat} (h : Sl rU8 C a l) (k : Nat) : Sl rU8 C a (l.take k) := by
  refine ⟨by have := h.1; simp; omega, ?_⟩
  rcases h.2 with h0 | ⟨b, o, rfl, h2⟩
  · exact .inl (by simp [h0])
  · refine .inr ⟨b, o, rfl, fun i x hi => h2 i x ?_⟩
    rw [List.getElem?_take] at hi
    split at hi
    · exact hi
    · cases hi

set_option maxRecDepth 20000 in
theorem codeBack_ct {C : Mem} {w : World} (hS : Sub C w) {cs : List Value} {c : Cod} (hc : rCod.den C cs c) (cut : Int) (hcut : 0 ≤ cut ∧ cut < 65536) (l : List Nat) (a : Option Addr) (cap : Nat) (hl : l.length ≤ 20000 → Sl rU8 C a l) :
    Calls Try.prog 5 #[.agg cs.toArray, .int .u16 cut, .slice a l.length cap] w (fun e w' => e = .returned (.bool true) ∧ Kp [] w w') := by
  have hc0 := hc
  obtain ⟨a1, c1, a2, c2, a3, c3, a4, c4, rfl, h1, h2, h3, h4, h5⟩ := hc
  refine calls_of (args := [_, _, _]) 107 [.tmp 6] τok Try.func5 rfl rfl rfl (Nat.le_of_ble_eq_true rfl) ?_
  refine new fun b1 w1 hb1 hB1 hs1 hk1 => ?_
  have hB1 : Bk w1.heap b1 [.int .i64 c.nat, .slice a1 c.shapes.length c1, .slice a2 c.funs.length c2, .slice a3 c.bodies.length c3, .slice a4 c.main.length c4] 28 := hB1
  refine ev_call (awake_ct w1) ?_
  rintro e w2 ⟨rfl, hk2⟩
  have hB2 := hB1.kp hk2 (by simp)
  have hk02 := hk1.tr hk2
  refine ldN [.int .i64 c.nat, .slice a1 c.shapes.length c1, .slice a2 c.funs.length c2, .slice a3 c.bodies.length c3, .slice a4 c.main.length c4] rfl (fun j v hj => by rw [Nat.zero_add]; exact hB2.cl hj) ?_
  refine ev_call (long_ct (hS.tr hk02) hc0) ?_
  rintro e w3 ⟨b, rfl, hk3⟩
  have hk03 := hk02.tr hk3
  refine br (fun g1 => ?_) (fun g1 => ?_)
  · exact ⟨rfl, hk03⟩
  refine br_dec (fun g2 => ?_) (fun g2 => ?_)
  · exact ⟨rfl, hk03⟩
  have hl := hl (by omega)
  obtain ⟨E, hE⟩ : ∃ e, decE l = e := ⟨_, rfl⟩
  have c4' := decode_ct (hS.tr hk03) l a cap hl
  rw [hE] at c4'
  refine ev_call c4' ?_
  rintro e w4 ⟨cs4, rfl, hd4, hk4⟩
  have hd4' := hd4
  obtain ⟨x1, y1, x2, y2, x3, y3, x4, y4, rfl, _⟩ := hd4
  refine new fun b4 w5 hb4 hB4 hs5 hk5 => ?_
  refine stN hB4 rfl (by simp [Value.oneCell']) fun w6 hB4 hs6 hk6 => ?_
  have k46 : Kp [] w4 w6 := hk5.newSt hb4 hk6
  have k06 : Kp [] w w6 := (hk03.tr hk4).tr k46
  have hd6 := rCod.mono (New.up (Nat.le_refl _) k46) hd4'
  refine br_dec (fun g3 => ?_) (fun g3 => ?_)
  have g3 : E = 0 := g3
  rw [g3] at hE
  obtain ⟨p1, p2, p3⟩ := enc_dec (Sl.byt hl) hE
  refine ldN [.int .i64 (decC l).nat, .slice x1 (decC l).shapes.length y1, .slice x2 (decC l).funs.length y2, .slice x3 (decC l).bodies.length y3, .slice x4 (decC l).main.length y4] rfl (fun j v hj => by rw [Nat.zero_add]; exact hB4.cl hj) ?_
  refine ev_call (encode_ct (New.sub _ w6) hd6) ?_
  rintro e w7 ⟨hk7, hpost⟩
  rw [if_neg (by rw [p1]; simp), p2, if_neg (by omega)] at hpost
  obtain ⟨ae, ce, rfl, hSe, _⟩ := hpost
  have c8 := same02_ct (New.sub _ w7) (hS.tr (k06.tr hk7)) l l ae a ce cap hSe hl
  rw [decide_eq_true rfl] at c8
  refine ev_call c8 ?_
  rintro e w8 ⟨rfl, hk8⟩
  have hB8 := (hB4.kp hk7 (by simp)).kp hk8 (by simp)
  refine ldN [.int .i64 (decC l).nat, .slice x1 (decC l).shapes.length y1, .slice x2 (decC l).funs.length y2, .slice x3 (decC l).bodies.length y3, .slice x4 (decC l).main.length y4] rfl (fun j v hj => by rw [Nat.zero_add]; exact hB8.cl hj) ?_
  have c9 := check_ct (New.sub _ w8) (rCod.mono (New.up (Nat.le_refl _) (hk7.tr hk8)) hd6)
  rw [p1] at c9
  refine ev_call c9 ?_
  rintro e w9 ⟨rfl, hk9⟩
  have k69 : Kp [] w6 w9 := (hk7.tr hk8).tr hk9
  have k09 : Kp [] w w9 := k06.tr k69
  rotate_left
  rename World => w9
  rename Kp [] w w9 => k09
  all_goals (
    have hB9 : Bk w9.heap b1 [.int .i64 c.nat, .slice a1 c.shapes.length c1, .slice a2 c.funs.length c2, .slice a3 c.bodies.length c3, .slice a4 c.main.length c4] 28 := by
      first
        | exact hB2.kp (((hk3.tr hk4).tr k46).tr k69) (by simp)
        | exact hB2.kp ((hk3.tr hk4).tr k46) (by simp)
    refine ldN [.int .i64 c.nat, .slice a1 c.shapes.length c1, .slice a2 c.funs.length c2, .slice a3 c.bodies.length c3, .slice a4 c.main.length c4] rfl (fun j v hj => by rw [Nat.zero_add]; exact hB9.cl hj) ?_
    refine ev_call (encode_ct (hS.tr k09) hc0) ?_
    rintro e w10 ⟨hk10, hpost⟩
    by_cases p1 : checkM c ≠ 0
    · rw [if_pos p1] at hpost
      subst hpost
      refine br_dec (fun q1 => ?_) (fun q1 => ?_)
      · exact ⟨rfl, k09.tr hk10⟩
      · exact absurd p1 q1
    rw [if_neg p1] at hpost
    by_cases p2 : 65536 < (codB c).length
    · rw [if_pos p2] at hpost
      subst hpost
      exact ⟨rfl, k09.tr hk10⟩
    rw [if_neg p2] at hpost
    obtain ⟨ax, cx, rfl, hSx, hcx⟩ := hpost
    have p1 : checkM c = 0 := by simpa using p1
    obtain ⟨X, hX⟩ : ∃ x, codB c = x := ⟨_, rfl⟩
    have hXp := codB_pos c
    obtain ⟨d1, d2⟩ := dec_enc p1 (by omega)
    have d3 := @dec_cut c p1 (by omega)
    have d4 := dec_more p1
    rw [hX] at hSx hcx hXp d1 d2 d3 d4
    have hXl : X.length ≤ 65536 := by rw [← hX]; omega
    rw [hX]
    have c11 := decode_ct (New.sub _ w10) X ax cx hSx
    rw [d1, d2] at c11
    refine ev_call c11 ?_
    rintro e w11 ⟨cs11, rfl, hd11, hk11⟩
    have hd11' := hd11
    obtain ⟨x1, y1, x2, y2, x3, y3, x4, y4, rfl, _⟩ := hd11
    refine new fun b11 w12 hb11 hB11 hs12 hk12 => ?_
    refine stN hB11 rfl (by simp [Value.oneCell']) fun w13 hB13 hs13 hk13 => ?_
    have k1113 : Kp [] w11 w13 := hk12.newSt hb11 hk13
    have k013 : Kp [] w w13 := ((k09.tr hk10).tr hk11).tr k1113
    refine br_dec (fun q1 => ?_) (fun q1 => ?_)
    · have q1 : (X.length : Int) = 0 := q1
      omega
    have hB13' := hB9.kp ((hk10.tr hk11).tr k1113) (by simp)
    refine ldN [.int .i64 c.nat, .slice a1 c.shapes.length c1, .slice a2 c.funs.length c2, .slice a3 c.bodies.length c3, .slice a4 c.main.length c4] rfl (fun j v hj => by rw [Nat.zero_add]; exact hB13'.cl hj) ?_
    refine ldN [.int .i64 c.nat, .slice x1 c.shapes.length y1, .slice x2 c.funs.length y2, .slice x3 c.bodies.length y3, .slice x4 c.main.length y4] rfl (fun j v hj => by rw [Nat.zero_add]; exact hB13.cl hj) ?_
    refine ev_call (same20_ct (hS.tr k013) (New.sub _ w13) c hc0 (rCod.mono (New.up (Nat.le_refl _) k1113) hd11')) ?_
    rintro e w14 ⟨rfl, hk14⟩
    have k014 := k013.tr hk14
    have k1014 := ((hk11.tr k1113).tr hk14)
    obtain ⟨x0, hx0, _⟩ := drop_get hXp
    obtain ⟨bx, ox, rfl, _⟩ := hSx.u8 hx0
    have hSx14 := hSx.mono (New.up (Nat.le_refl _) k1014)
    refine int64 (by omega) (by omega) ?_
    refine rem64 (by omega) (by omega) ?_
    have hm0 : 0 ≤ cut % (X.length : Int) := Int.emod_nonneg _ (by omega)
    have hm1 : cut % (X.length : Int) < X.length := Int.emod_lt_of_pos _ (by omega)
    obtain ⟨m, hm⟩ := Int.eq_ofNat_of_zero_le hm0
    have hmX : m < X.length := by omega
    refine slcH' τok rfl m (.slice (some ⟨bx, ox, none⟩) m cx) hm (by omega) sliced_hi ?_
    have c15 := decode_ct (New.sub _ w14) (X.take m) (some ⟨bx, ox, none⟩) cx (Sl.take8 hSx14 m)
    rw [d3 hmX, show (X.take m).length = m by simp; omega] at c15
    refine ev_call c15 ?_
    rintro e w15 ⟨cs15, rfl, _, hk15⟩
    refine fill [] rfl ?_
    refine new fun b16 w16 hb16 hB16 hs16 hk16 => ?_
    have hO16 : Own rU8 5 w15.heap.size w16 (.slice (some ⟨b16, 0, none⟩) 0 0) [] := Own.empty rU8 hB16 (by omega)
    refine hO16.apF τok rfl rfl Nat.one_pos flat8 ((New.sub _ w14).tr (hk15.tr hk16)) X hSx14 (by simp; omega) (by simp [maxLen]; omega) fun v17 w17 hO17 hk17 _ => ?_
    have k1517 : Kp [] w15 w17 := hk16.own hk17 hO16
    have hO17 : Own rU8 5 w15.heap.size w17 v17 X := hO17
    refine fill [.int .u8 0] rfl ?_
    refine new fun b18 w18 hb18 hB18 hs18 hk18 => ?_
    refine (hO17.kp hk18).ap1 τok rfl rfl Nat.one_pos 0 [.int .u8 0] ⟨rfl, by omega⟩ (fun j u hj => by rw [Nat.zero_add]; exact hB18.cl hj) (by omega) (by simp only [maxLen]; omega) fun v19 w19 hO19 hk19 _ => ?_
    have k1519 : Kp [] w15 w19 := (k1517.tr hk18).own hk19 (hO17.kp hk18)
    obtain ⟨a20, c20, rfl, hS20⟩ := hO19.den (by simp; omega)
    have c20' := decode_ct (New.sub _ w19) (X ++ [0]) a20 c20 hS20
    obtain ⟨F, hF⟩ : ∃ f, decE (X ++ [0]) = f := ⟨_, rfl⟩
    rw [hF] at c20' d4
    refine ev_call c20' ?_
    rintro e w20 ⟨cs20, rfl, hd20, hk20⟩
    obtain ⟨x1, y1, x2, y2, x3, y3, x4, y4, rfl, _⟩ := hd20
    refine new fun b21 w21 hb21 hB21 hs21 hk21 => ?_
    refine stN hB21 rfl (by simp [Value.oneCell']) fun w22 hB22 hs22 hk22 => ?_
    have k022 : Kp [] w w22 := (((k014.tr hk15).tr k1519).tr hk20).tr (hk21.newSt hb21 hk22)
    refine br_dec (fun q2 => ?_) (fun q2 => ?_)
    · exact ⟨rfl, k022⟩
    have q2 : ¬ F = 3 := q2
    rcases d4 with d4 | d4
    · exact absurd d4 q2
    subst d4
    exact ⟨rfl, k022⟩)
end Go.Proofs.Ytjogpbiilokldaa
