/-
  Code: the reference's Decode.
-/
import Derived.Test.YtjogpbiilokldaaCdZq
set_option linter.unusedSimpArgs false
set_option linter.unusedVariables false
namespace Cd
open Go Go.Wx
theorem shp_ag {s s' : RS} {kept : List (List Bool)} (h : Ag (manyM rkeptM (numM 1048576 s).2) kept s') : Ag (rshpM s) ⟨((numM 1048576 s).1 : Int), kept⟩ s' :=
  ⟨h.1, fun e => ⟨(h.2 e).1, by rw [(h.2 e).2]; rfl⟩⟩
theorem fn_ag {s s' : RS} {code : List Ins} (h : Ag (rblockM (numM 1048576 s).2) code s') : Ag (rfnM s) ⟨((numM 1048576 s).1 : Int), code⟩ s' :=
  ⟨h.1, fun e => ⟨(h.2 e).1, by rw [(h.2 e).2]; rfl⟩⟩
theorem ok_of_dead {α : Type} {p : RS → α × RS} (hd : Dead p) {s : RS} (h : (p s).2.2 = 0) : s.2 = 0 := by
  by_cases h0 : s.2 = 0
  · exact h0
  · rw [hd s h0] at h; exact absurd h h0
theorem cod_ag {s s2 s3 s4 s5 : RS} {l2 : List Shp} {l3 : List Cd.Fn} {l4 : List (List Ins)} {l5 : List Ins} (h2 : Ag (manyM rshpM (numM 1048576 s).2) l2 s2) (h3 : Ag (manyM rfnM s2) l3 s3) (h4 : Ag (manyM rblockM s3) l4 s4) (h5 : Ag (rblockM s4) l5 s5) :
    Ag (rcodM s) ⟨((numM 1048576 s).1 : Int) - 1, l2, l3, l4, l5⟩ s5 := by
  have g3 := Ag.seq manyM_dead h2.as h3
  have g4 := Ag.seq manyM_dead g3.as h4
  have g5 := Ag.seq manyM_dead g4.as h5
  refine ⟨g5.1, fun e => ?_⟩
  have e5 : (rblockM (manyM rblockM (manyM rfnM (manyM rshpM (numM 1048576 s).2).2).2).2).2.2 = 0 := e
  have e4 := ok_of_dead block_dead e5
  have e3 := ok_of_dead manyM_dead e4
  have e2 := ok_of_dead manyM_dead e3
  refine ⟨(g5.2 e5).1, ?_⟩
  rw [(h2.2 e2).2, (g3.2 e3).2, (g4.2 e4).2, (g5.2 e5).2]
  rfl
end Cd

namespace Go.Proofs.Ytjogpbiilokldaa
open Go.Wx Cd

set_option maxRecDepth 20000 in
theorem decode20_ct {C : Mem} {w : World} (hS : Sub C w) (l : List Nat) (a : Option Addr) (cap : Nat) (hl : Sl rU8 C a l) :
    CallOk Try.prog 16 ∧ Calls Try.prog 16 #[.slice a l.length cap] w (fun e w' => ∃ cs, e = .returned (.tuple #[.agg cs.toArray, .int .i64 (decE l)]) ∧ rCod.den (New w.heap.size w') cs (decC l) ∧ Kp [] w w') := by
  refine ⟨⟨_, Try.func16, rfl, by decide⟩, ?_⟩
  obtain ⟨DE, hDE⟩ : ∃ n, decE l = n := ⟨_, rfl⟩
  obtain ⟨DC, hDC⟩ : ∃ n, decC l = n := ⟨_, rfl⟩
  rw [hDE, hDC]
  have hlen := hl.1
  refine calls_ev (args := [_]) 168 [.cell 2 28, .tmp 3] Try.func16 rfl rfl rfl (Nat.le_of_ble_eq_true rfl) ?_
  refine ev_seq τok ?_
  refine new fun b2 w1 hb2 hB2 hs1 hk1 => ?_
  have hB2 : Bk w1.heap b2 [.int .i64 0, .slice none 0 0, .slice none 0 0, .slice none 0 0, .slice none 0 0] 28 := hB2
  have bad : ∀ w', DE ≠ 0 → rCod.den (New w.heap.size w') [.int .i64 0, .slice none 0 0, .slice none 0 0, .slice none 0 0, .slice none 0 0] DC := fun w' hne => by
    have : DC = Cod.none := by rw [← hDC]; unfold decC; rw [hDE, if_neg hne]
    rw [this]
    exact none_den _
  refine ev_seq τok ?_
  refine br_dec (fun g1 => ?_) (fun g1 => ?_)
  · refine stN (vs := [.int .i64 0, .slice none 0 0, .slice none 0 0, .slice none 0 0, .slice none 0 0]) hB2 rfl (by simp [Value.oneCell']) fun w2 hB2 hs2 hk2 => ?_
    have hk : Kp [] w w2 := hk1.newSt hb2 hk2
    refine resN τok rfl [.int .i64 0, .slice none 0 0, .slice none 0 0, .slice none 0 0, .slice none 0 0] rfl (fun j v hj => hB2.cl hj) ?_
    have hE : DE = 6 := by rw [← hDE]; unfold decE; rw [if_pos (by omega)]
    exact ⟨_, by rw [hE]; rfl, bad w2 (by omega), hk⟩
  have g1 : l.length ≤ 65536 := by omega
  refine ev_seq τok ?_
  refine fill [] rfl ?_
  refine new fun br w2 hbr hBr hs2 hk2 => ?_
  have hOr : Own rU8 5 w1.heap.size w2 (.slice (some ⟨br, 0, none⟩) 0 0) [] := Own.empty _ hBr (by omega)
  refine hOr.apF τok rfl rfl Nat.one_pos flat8 (hS.tr (hk1.tr hk2)) l hl (by simp; omega) (by simp [maxLen]; omega) fun vr w3 hOr hk3 _ => ?_
  have k13 : Kp [] w1 w3 := hk2.own hk3 ‹Own rU8 5 w1.heap.size w2 (.slice (some ⟨br, 0, none⟩) 0 0) []›
  rw [List.nil_append] at hOr
  obtain ⟨ab, cb, rfl, hcb⟩ := hOr.cap
  obtain ⟨ab', cb', e0, hSl⟩ := hOr.den (by omega)
  cases e0
  refine new fun p w4 hp hP hs4 hk4 => ?_
  have hP : Bk w4.heap p [.slice ab l.length cb, .int .i64 0] 97 := hP
  have k14 := k13.tr hk4
  have hB2 := hB2.kp k14 (by simp)
  obtain ⟨D, hDe⟩ : ∃ D, D = New w1.heap.size w3 := ⟨_, rfl⟩
  rw [← hDe] at hSl
  have hDlt : ∀ b o v, D b o v → b < p := fun b o v hd => by
    rw [hDe] at hd
    have := hd.2.lt
    omega
  have hDs : Sub D w4 := by rw [hDe]; exact (New.sub _ w3).tr hk4
  have z13 := k13.size
  have hR4 : Rd2 D p (l, 0) w4 := ⟨hDs, fun b o v hd => by have := hDlt b o v hd; omega, ab, cb, hP, hSl, hcb⟩
  clear hDe hDs hP hSl hOr
  refine ev_seq τok ?_
  refine new fun b5 w5 hb5 hB5 hs5 hk5 => ?_
  refine stN (vs := [.int .i64 0, .slice none 0 0, .slice none 0 0, .slice none 0 0, .slice none 0 0]) hB5 rfl (by simp [Value.oneCell']) fun w6 hB5 hs6 hk6 => ?_
  have k46 : Kp [] w4 w6 := hk5.newSt hb5 hk6
  have hB2 := hB2.kp k46 (by simp)
  have hR6 := hR4.kp k46
  have k16 := k14.tr k46
  refine ev_seq τok ?_
  refine ev_call (num02_ct hR6 1048576 (by omega)) ?_
  rintro e w7 ⟨rfl, hR7, hk7⟩
  have i1 := num_le 1048576 (l, 0)
  refine int64 (by omega) (by omega) ?_
  have hB5 := hB5.kp hk7 (by simp; omega)
  have hB2 := hB2.kp hk7 (by simp; omega)
  refine st hB5 (by simp) rfl fun w8 hB5 hs8 hk8 => ?_
  have hcod := @cod_ag (l, 0)
  generalize hq1 : (numM 1048576 (l, 0)).1 = n1 at *
  generalize hq2 : (numM 1048576 (l, 0)).2 = t1 at *
  have hB5 : Bk w8.heap b5 [.int .i64 ((n1 : Int) - 1), .slice none 0 0, .slice none 0 0, .slice none 0 0, .slice none 0 0] 28 := hB5
  have hb58 : b5 < w8.heap.size := hB5.lt
  have hB28 := hB2.kp hk8 (by simp; omega)
  have hR8 : Rd2 D p t1 w8 := hR7.kpX hk8 (by simp; omega) fun b o v hd => by have := hDlt b o v hd; simp; omega
  have z7 := hk7.size
  have own : ∀ {u}, Kp [p, b5] w8 u → Kp [] w u := fun k => by
    have k17 : Kp [p] w1 w7 := (k16.weak (by simp)).trans hk7 (fun x hx _ => hx)
    have k18 : Kp [p, b5] w1 w8 := (k17.weak (by simp)).trans (hk8.weak (Y := [p, b5]) (by simp)) (fun x hx _ => hx)
    exact hk1.trans (k18.trans k (fun x hx _ => hx)) (fun x hx hl => by simp at hx; omega)
  refine ev_seq τok ?_
  refine ev_call (num02_ct hR8 1048576 (by omega)) ?_
  rintro e w9 ⟨rfl, hR9, hk9⟩
  have i2 := num_le 1048576 t1
  have st2 := Lp.start (one := rshpM) t1
  generalize hM2 : manyM rshpM t1 = M2 at *
  generalize hq3 : (numM 1048576 t1).1 = n2 at *
  generalize hq4 : (numM 1048576 t1).2 = t2 at *
  have hB5 := hB5.kp hk9 (by simp; omega)
  have z9 := hk9.size
  have k89 : Kp [p, b5] w8 w9 := hk9.weak (by simp)
  refine ev_mid τok (σ := Value × List Shp × RS) (fun q => [(2, .pointer (some ⟨b2, 0, none⟩)), (4, .pointer (some ⟨p, 0, none⟩)), (5, .pointer (some ⟨b5, 0, none⟩))])
    (fun q w' => q.2.1.length ≤ 1048576 ∧ Own rShp 56 w8.heap.size w' q.1 q.2.1 ∧ Bk w'.heap b5 [.int .i64 ((n1 : Int) - 1), q.1, .slice none 0 0, .slice none 0 0, .slice none 0 0] 28 ∧ Rd2 D p q.2.2 w' ∧ Kp [p, b5] w8 w' ∧ Ag M2 q.2.1 q.2.2) ?_ ?_
  · refine lp τok (σ := Nat × Value × List Shp × RS) (fun q => [(2, .pointer (some ⟨b2, 0, none⟩)), (4, .pointer (some ⟨p, 0, none⟩)), (5, .pointer (some ⟨b5, 0, none⟩)), (6, .int .i64 (n2 : Int)), (7, .int .i64 (q.1 : Int))])
      (fun q w' => q.1 ≤ n2 ∧ q.2.2.1.length = q.1 ∧ Own rShp 56 w8.heap.size w' q.2.1 q.2.2.1 ∧ Bk w'.heap b5 [.int .i64 ((n1 : Int) - 1), q.2.1, .slice none 0 0, .slice none 0 0, .slice none 0 0] 28 ∧ Rd2 D p q.2.2.2 w' ∧ Kp [p, b5] w8 w' ∧ Lp rshpM M2 n2 q.1 q.2.2.1 q.2.2.2) (fun q => n2 - q.1)
      (0, .slice none 0 0, [], t2) rfl ⟨rfl, rfl, rfl, rfl, rfl, trivial⟩ ⟨Nat.zero_le _, rfl, Own.nil _ _ (by omega), hB5, hR9, k89, st2⟩ ?_
    clear hB5 hR9 k89 st2
    rintro ⟨i, V, acc, s⟩ wa ⟨hi, hal, hV, hB5, hRa, hka, hL⟩
    simp only at hi hal hV hB5 hRa hL
    obtain ⟨va, vc, rfl⟩ := hV.len
    have hVlow := hV.low
    refine br_dec (fun g2 => ?_) (fun g2 => ?_)
    rotate_left
    · exact ⟨(_, acc, s), rfl, ⟨rfl, rfl, rfl, trivial⟩, by simp only; omega, hV, hB5, hRa, hka, hL.done fun _ => by omega⟩
    have g2 : i < n2 := by omega
    obtain ⟨_, _, ar, capr, hBr, _, _⟩ := id hRa
    refine ld (hBr.cl rfl).cell ?_
    refine br_dec (fun g3 => ?_) (fun g3 => ?_)
    rotate_left
    · exact ⟨(_, acc, s), rfl, ⟨rfl, rfl, rfl, trivial⟩, by simp only; omega, hV, hB5, hRa, hka, hL.done fun e => absurd e g3⟩
    have g3 : s.2 = 0 := g3
    clear hBr
    refine ev_call (num02_ct hRa 1048576 (by omega)) ?_
    rintro e wb ⟨rfl, hRb, hkb⟩
    have i3 := num_le 1048576 s
    have hsag := @shp_ag s
    generalize hq5 : (numM 1048576 s).1 = n3 at *
    generalize hq6 : (numM 1048576 s).2 = t3 at *
    refine new fun b8 wc hb8 hB8 hsc hkc => ?_
    refine stN (vs := [.int .i64 (n3 : Int), .slice none 0 0]) hB8 rfl (by simp [Value.oneCell']) fun wd hB8 hsd hkd => ?_
    have kbd : Kp [] wb wd := hkc.newSt hb8 hkd
    have kad : Kp [p] wa wd := hkb.tr kbd
    have zb := hkb.size
    refine ev_call (num02_ct (hRb.kp kbd) 1048576 (by omega)) ?_
    rintro e we ⟨rfl, hRe, hke⟩
    have i4 := num_le 1048576 t3
    have st3 := Lp.start (one := rkeptM) t3
    generalize hM3 : manyM rkeptM t3 = M3 at *
    generalize hq7 : (numM 1048576 t3).1 = n4 at *
    generalize hq8 : (numM 1048576 t3).2 = t4 at *
    have kae : Kp [p] wa we := kad.trans hke (fun x hx _ => hx)
    have hB8 := hB8.kp hke (by simp; omega)
    have ze := hke.size
    refine lp τok (σ := Nat × Value × List (List Bool) × RS) (fun q => [(2, .pointer (some ⟨b2, 0, none⟩)), (4, .pointer (some ⟨p, 0, none⟩)), (5, .pointer (some ⟨b5, 0, none⟩)), (6, .int .i64 (n2 : Int)), (7, .int .i64 (i : Int)), (8, .pointer (some ⟨b8, 0, none⟩)), (9, .int .i64 (n4 : Int)), (10, .int .i64 (q.1 : Int))])
      (fun q w' => q.1 ≤ n4 ∧ q.2.2.1.length = q.1 ∧ Own (rSl rBool) 99 (b8 + 1) w' q.2.1 q.2.2.1 ∧ Bk w'.heap b8 [.int .i64 (n3 : Int), q.2.1] 56 ∧ Rd2 D p q.2.2.2 w' ∧ Kp [p] wa w' ∧ Lp rkeptM M3 n4 q.1 q.2.2.1 q.2.2.2) (fun q => n4 - q.1)
      (0, .slice none 0 0, [], t4) rfl ⟨rfl, rfl, rfl, rfl, rfl, rfl, rfl, rfl, trivial⟩ ⟨Nat.zero_le _, rfl, Own.nil _ _ (by omega), hB8, hRe, kae, st3⟩ ?_
    clear hB8 hRe st3
    rintro ⟨k, K, kept, s3⟩ wf ⟨hk, hkl, hK, hB8, hRf, hkf, hL3⟩
    simp only at hk hkl hK hB8 hRf hL3
    obtain ⟨ka, kc, rfl⟩ := hK.len
    have hKlow := hK.low
    have zf := hkf.size
    refine br_dec (fun g4 => ?_) (fun g4 => ?_)
    rotate_left
    · refine ld (hB5.kp hkf (by simp; omega) |>.cl rfl).cell ?_
      refine ldN [.int .i64 (n3 : Int), .slice ka kept.length kc] rfl (fun j v hj => by rw [Nat.zero_add]; exact hB8.cl hj) ?_
      refine fill [.int .i64 (n3 : Int), .slice ka kept.length kc] rfl ?_
      refine new fun bm wm hbm hBm hsm hkm => ?_
      obtain ⟨a0, c0, e0, hSlk⟩ := hK.den (by omega)
      cases e0
      have hV9 := (hV.kpl hkf (by simp; omega)).kp hkm
      refine hV9.ap1 τok rfl rfl (by decide) ⟨(n3 : Int), kept⟩ [.int .i64 (n3 : Int), .slice ka kept.length kc] ⟨ka, kc, rfl, hSlk.mono fun b o u hu => new_dn hV hkm b o u ⟨by have := hu.1; omega, hu.2⟩, by simp only [I64]; omega⟩ (fun j u hj => by rw [Nat.zero_add]; exact hBm.cl hj) (by omega) (by simp only [maxLen]; omega) fun V' wn hV10 hkn _ => ?_
      obtain ⟨va', vc', rfl⟩ := hV10.len
      have gV : ∀ x ∈ (Value.slice va acc.length vc).ownBlock.toList, w8.heap.size ≤ x := fun x hx => (hV.block x (by simpa using hx)).1
      refine st ((hB5.kp hkf (by simp; omega)).kp hkm (by simp) |>.kp hkn (fun hx => by have := gV b5 hx; omega)) (by simp) rfl fun wo hB5' hso hko => ?_
      refine int64 (by omega) (by omega) ?_
      refine ⟨(i + 1, _, acc ++ [⟨(n3 : Int), kept⟩], s3), by simp only; omega, rfl, ⟨rfl, rfl, rfl, rfl, rfl, trivial⟩, g2, by simp [hal], hV10.kpl hko (by simp; omega), hB5', ?_, ?_, hL.step g3 g2 (hsag (hL3.done (fun _ => by omega)))⟩
      · refine ((hRf.kp hkm).own hV9 hkn (by omega) (fun b o x hx => by have := hDlt b o x hx; omega)).kpX hko (by simp; omega) fun b o v hd => ?_
        have := hDlt b o v hd
        simp; omega
      · refine (((hka.trans (hkf.weak (Y := [p, b5]) (by simp)) (fun x hx _ => hx)).tr hkm).trans hkn fun x hx hl => ?_).trans hko fun x hx hl => ?_
        · have := gV x hx; omega
        · simp at hx; simp [hx]
    have g4 : k < n4 := by omega
    obtain ⟨_, _, ar, capr, hBr, _, _⟩ := id hRf
    refine ld (hBr.cl rfl).cell ?_
    refine br_dec (fun g5 => ?_) (fun g5 => ?_)
    rotate_left
    · refine ld (hB5.kp hkf (by simp; omega) |>.cl rfl).cell ?_
      refine ldN [.int .i64 (n3 : Int), .slice ka kept.length kc] rfl (fun j v hj => by rw [Nat.zero_add]; exact hB8.cl hj) ?_
      refine fill [.int .i64 (n3 : Int), .slice ka kept.length kc] rfl ?_
      refine new fun bm wm hbm hBm hsm hkm => ?_
      obtain ⟨a0, c0, e0, hSlk⟩ := hK.den (by omega)
      cases e0
      have hV9 := (hV.kpl hkf (by simp; omega)).kp hkm
      refine hV9.ap1 τok rfl rfl (by decide) ⟨(n3 : Int), kept⟩ [.int .i64 (n3 : Int), .slice ka kept.length kc] ⟨ka, kc, rfl, hSlk.mono fun b o u hu => new_dn hV hkm b o u ⟨by have := hu.1; omega, hu.2⟩, by simp only [I64]; omega⟩ (fun j u hj => by rw [Nat.zero_add]; exact hBm.cl hj) (by omega) (by simp only [maxLen]; omega) fun V' wn hV10 hkn _ => ?_
      obtain ⟨va', vc', rfl⟩ := hV10.len
      have gV : ∀ x ∈ (Value.slice va acc.length vc).ownBlock.toList, w8.heap.size ≤ x := fun x hx => (hV.block x (by simpa using hx)).1
      refine st ((hB5.kp hkf (by simp; omega)).kp hkm (by simp) |>.kp hkn (fun hx => by have := gV b5 hx; omega)) (by simp) rfl fun wo hB5' hso hko => ?_
      refine int64 (by omega) (by omega) ?_
      refine ⟨(i + 1, _, acc ++ [⟨(n3 : Int), kept⟩], s3), by simp only; omega, rfl, ⟨rfl, rfl, rfl, rfl, rfl, trivial⟩, g2, by simp [hal], hV10.kpl hko (by simp; omega), hB5', ?_, ?_, hL.step g3 g2 (hsag (hL3.done (fun e => absurd e g5)))⟩
      · refine ((hRf.kp hkm).own hV9 hkn (by omega) (fun b o x hx => by have := hDlt b o x hx; omega)).kpX hko (by simp; omega) fun b o v hd => ?_
        have := hDlt b o v hd
        simp; omega
      · refine (((hka.trans (hkf.weak (Y := [p, b5]) (by simp)) (fun x hx _ => hx)).tr hkm).trans hkn fun x hx hl => ?_).trans hko fun x hx hl => ?_
        · have := gV x hx; omega
        · simp at hx; simp [hx]
    have g5 : s3.2 = 0 := g5
    clear hBr
    refine ev_call (num02_ct hRf 1048576 (by omega)) ?_
    rintro e wg ⟨rfl, hRg, hkg⟩
    have i5 := num_le 1048576 s3
    have st4 := Lp.start (one := bitM) s3
    have hM4e : manyM bitM s3 = rkeptM s3 := rfl
    rw [hM4e] at st4
    clear hM4e
    generalize hq9 : (numM 1048576 s3).1 = n5 at *
    generalize hq10 : (numM 1048576 s3).2 = t5 at *
    have zg := hkg.size
    refine lp τok (σ := Nat × Value × List Bool × RS) (fun q => [(2, .pointer (some ⟨b2, 0, none⟩)), (4, .pointer (some ⟨p, 0, none⟩)), (5, .pointer (some ⟨b5, 0, none⟩)), (6, .int .i64 (n2 : Int)), (7, .int .i64 (i : Int)), (8, .pointer (some ⟨b8, 0, none⟩)), (9, .int .i64 (n4 : Int)), (10, .int .i64 (k : Int)), (11, q.2.1), (12, .int .i64 (n5 : Int)), (13, .int .i64 (q.1 : Int))])
      (fun q w' => q.1 ≤ n5 ∧ q.2.2.1.length = q.1 ∧ Own rBool 4 wf.heap.size w' q.2.1 q.2.2.1 ∧ Rd2 D p q.2.2.2 w' ∧ Kp [p] wf w' ∧ Lp bitM (rkeptM s3) n5 q.1 q.2.2.1 q.2.2.2) (fun q => n5 - q.1)
      (0, .slice none 0 0, [], t5) rfl ⟨rfl, rfl, rfl, rfl, rfl, rfl, rfl, rfl, rfl, rfl, rfl, trivial⟩ ⟨Nat.zero_le _, rfl, Own.nil _ _ zg, hRg, hkg, st4⟩ ?_
    clear hRg st4
    rintro ⟨j, B, bits, s4⟩ wh ⟨hj, hbl, hB, hRh, hkh, hL4⟩
    simp only at hj hbl hB hRh hL4
    obtain ⟨ba, bc, rfl⟩ := hB.len
    have zh := hkh.size
    refine br_dec (fun g6 => ?_) (fun g6 => ?_)
    rotate_left
    · refine ld (hB8.kp hkh (by simp; omega) |>.cl rfl).cell ?_
      refine fill [.slice ba bits.length bc] rfl ?_
      refine new fun bm wm hbm hBm hsm hkm => ?_
      obtain ⟨a0, c0, e0, hSlb⟩ := hB.den (by omega)
      cases e0
      have hK9 := (hK.kpl hkh (by simp; omega)).kp hkm
      refine hK9.ap1 τok rfl rfl Nat.one_pos bits [.slice ba bits.length bc] ⟨ba, bc, rfl, hSlb.mono (new_dn hK hkm)⟩ (fun j u hj => by rw [Nat.zero_add]; exact hBm.cl hj) (by omega) (by simp only [maxLen]; omega) fun K' wn hK10 hkn _ => ?_
      obtain ⟨ka', kc', rfl⟩ := hK10.len
      have gK : ∀ x ∈ (Value.slice ka kept.length kc).ownBlock.toList, b8 < x := fun x hx => (hK.block x (by simpa using hx)).1
      refine st ((hB8.kp hkh (by simp; omega)).kp hkm (by simp) |>.kp hkn (fun hx => by have := gK b8 hx; omega)) (by simp) rfl fun wo hB8' hso hko => ?_
      refine int64 (by omega) (by omega) ?_
      refine ⟨(k + 1, _, kept ++ [bits], s4), by simp only; omega, rfl, ⟨rfl, rfl, rfl, rfl, rfl, rfl, rfl, rfl, trivial⟩, g4, by simp [hkl], hK10.kpl hko (by simp), hB8', ?_, ?_, hL3.step g5 g4 (hL4.done (fun _ => by omega))⟩
      · refine ((hRh.kp hkm).own hK9 hkn (by omega) (fun b o x hx => by have := hDlt b o x hx; omega)).kpX hko (by simp; omega) fun b o v hd => ?_
        have := hDlt b o v hd
        simp; omega
      · refine (((hkf.trans hkh (fun x hx _ => hx)).tr hkm).trans hkn fun x hx hl => ?_).trans hko fun x hx hl => ?_
        · have := gK x hx; omega
        · simp at hx; omega
    have g6 : j < n5 := by omega
    obtain ⟨_, _, ar, capr, hBr, _, _⟩ := id hRh
    refine ld (hBr.cl rfl).cell ?_
    refine br_dec (fun g7 => ?_) (fun g7 => ?_)
    rotate_left
    · refine ld (hB8.kp hkh (by simp; omega) |>.cl rfl).cell ?_
      refine fill [.slice ba bits.length bc] rfl ?_
      refine new fun bm wm hbm hBm hsm hkm => ?_
      obtain ⟨a0, c0, e0, hSlb⟩ := hB.den (by omega)
      cases e0
      have hK9 := (hK.kpl hkh (by simp; omega)).kp hkm
      refine hK9.ap1 τok rfl rfl Nat.one_pos bits [.slice ba bits.length bc] ⟨ba, bc, rfl, hSlb.mono (new_dn hK hkm)⟩ (fun j u hj => by rw [Nat.zero_add]; exact hBm.cl hj) (by omega) (by simp only [maxLen]; omega) fun K' wn hK10 hkn _ => ?_
      obtain ⟨ka', kc', rfl⟩ := hK10.len
      have gK : ∀ x ∈ (Value.slice ka kept.length kc).ownBlock.toList, b8 < x := fun x hx => (hK.block x (by simpa using hx)).1
      refine st ((hB8.kp hkh (by simp; omega)).kp hkm (by simp) |>.kp hkn (fun hx => by have := gK b8 hx; omega)) (by simp) rfl fun wo hB8' hso hko => ?_
      refine int64 (by omega) (by omega) ?_
      refine ⟨(k + 1, _, kept ++ [bits], s4), by simp only; omega, rfl, ⟨rfl, rfl, rfl, rfl, rfl, rfl, rfl, rfl, trivial⟩, g4, by simp [hkl], hK10.kpl hko (by simp), hB8', ?_, ?_, hL3.step g5 g4 (hL4.done (fun e => absurd e g7))⟩
      · refine ((hRh.kp hkm).own hK9 hkn (by omega) (fun b o x hx => by have := hDlt b o x hx; omega)).kpX hko (by simp; omega) fun b o v hd => ?_
        have := hDlt b o v hd
        simp; omega
      · refine (((hkf.trans hkh (fun x hx _ => hx)).tr hkm).trans hkn fun x hx hl => ?_).trans hko fun x hx hl => ?_
        · have := gK x hx; omega
        · simp at hx; omega
    have g7 : s4.2 = 0 := g7
    clear hBr
    have i6 := num_le 1 s4
    refine ev_call (num02_ct hRh 1 (by omega)) ?_
    rintro e wi ⟨rfl, hRi, hki⟩
    refine fill [.bool (decide (((numM 1 s4).1 : Int) = 1))] rfl ?_
    refine new fun bj wj hbj hBj hsj hkj => ?_
    have hB9 := (hB.kpl hki (by simp; omega)).kp hkj
    refine hB9.ap1 τok rfl rfl Nat.one_pos (decide (((numM 1 s4).1 : Int) = 1)) [.bool (decide (((numM 1 s4).1 : Int) = 1))] rfl (fun j u hj => by rw [Nat.zero_add]; exact hBj.cl hj) (by omega) (by simp only [maxLen]; omega) fun B' wk hB10 hkk _ => ?_
    refine int64 (by omega) (by omega) ?_
    refine ⟨(j + 1, B', bits ++ [decide (((numM 1 s4).1 : Int) = 1)], (numM 1 s4).2), by simp only; omega, rfl, ⟨rfl, rfl, rfl, rfl, rfl, rfl, rfl, rfl, rfl, rfl, rfl, trivial⟩, g6, by simp [hbl], hB10, (hRi.kp hkj).own hB9 hkk (by omega) (fun b o x hx => by have := hDlt b o x hx; omega), ?_, hL4.step g7 g6 (Ag.rfl (bitM s4))⟩
    exact ((hkh.trans hki (fun x hx _ => hx)).tr hkj).ownX hkk hB9
  clear hB5 hR9 st2 k89
  rintro ⟨V, l2, s2⟩ wS ⟨hl2, hV, hB5, hRS, hkS, hA2⟩
  simp only at hl2 hV hB5 hRS hA2
  obtain ⟨va, vc, rfl⟩ := hV.len
  have hVlow := hV.low
  have zS := hkS.size
  refine ev_seq τok ?_
  refine ev_call (num02_ct hRS 1048576 (by omega)) ?_
  rintro e wS1 ⟨rfl, hRS1, hkS1⟩
  have i7 := num_le 1048576 s2
  have st5 := Lp.start (one := rfnM) s2
  generalize hM3 : manyM rfnM s2 = M3 at *
  have hcod := @hcod s2
  rw [hM3] at hcod
  generalize hq11 : (numM 1048576 s2).1 = n6 at *
  generalize hq12 : (numM 1048576 s2).2 = t6 at *
  have zS1 := hkS1.size
  refine ev_mid τok (σ := Value × List Cd.Fn × RS) (fun q => [(2, .pointer (some ⟨b2, 0, none⟩)), (4, .pointer (some ⟨p, 0, none⟩)), (5, .pointer (some ⟨b5, 0, none⟩))])
    (fun q w' => q.2.1.length ≤ 1048576 ∧ Own rFn 48 wS.heap.size w' q.1 q.2.1 ∧ Bk w'.heap b5 [.int .i64 ((n1 : Int) - 1), .slice va l2.length vc, q.1, .slice none 0 0, .slice none 0 0] 28 ∧ Rd2 D p q.2.2 w' ∧ Kp [p, b5] wS w' ∧ Ag M3 q.2.1 q.2.2) ?_ ?_
  · refine lp τok (σ := Nat × Value × List Cd.Fn × RS) (fun q => [(2, .pointer (some ⟨b2, 0, none⟩)), (4, .pointer (some ⟨p, 0, none⟩)), (5, .pointer (some ⟨b5, 0, none⟩)), (6, .int .i64 (n6 : Int)), (14, .int .i64 (q.1 : Int))])
      (fun q w' => q.1 ≤ n6 ∧ q.2.2.1.length = q.1 ∧ Own rFn 48 wS.heap.size w' q.2.1 q.2.2.1 ∧ Bk w'.heap b5 [.int .i64 ((n1 : Int) - 1), .slice va l2.length vc, q.2.1, .slice none 0 0, .slice none 0 0] 28 ∧ Rd2 D p q.2.2.2 w' ∧ Kp [p, b5] wS w' ∧ Lp rfnM M3 n6 q.1 q.2.2.1 q.2.2.2) (fun q => n6 - q.1)
      (0, .slice none 0 0, [], t6) rfl ⟨rfl, rfl, rfl, rfl, rfl, trivial⟩ ⟨Nat.zero_le _, rfl, Own.nil _ _ zS1, hB5.kp hkS1 (by simp; omega), hRS1, hkS1.weak (by simp), st5⟩ ?_
    clear hRS1 st5
    rintro ⟨i, F, acc, s⟩ wa ⟨hi, hal, hF, hB5a, hRa, hka, hL⟩
    simp only at hi hal hF hB5a hRa hL
    obtain ⟨fa, fc, rfl⟩ := hF.len
    have hFlow := hF.low
    refine br_dec (fun g2 => ?_) (fun g2 => ?_)
    rotate_left
    · exact ⟨(_, acc, s), rfl, ⟨rfl, rfl, rfl, trivial⟩, by simp only; omega, hF, hB5a, hRa, hka, hL.done fun _ => by omega⟩
    have g2 : i < n6 := by omega
    obtain ⟨_, _, ar, capr, hBr, _, _⟩ := id hRa
    refine ld (hBr.cl rfl).cell ?_
    refine br_dec (fun g3 => ?_) (fun g3 => ?_)
    rotate_left
    · exact ⟨(_, acc, s), rfl, ⟨rfl, rfl, rfl, trivial⟩, by simp only; omega, hF, hB5a, hRa, hka, hL.done fun e => absurd e g3⟩
    have g3 : s.2 = 0 := g3
    clear hBr
    refine ev_call (num02_ct hRa 1048576 (by omega)) ?_
    rintro e wb ⟨rfl, hRb, hkb⟩
    have i8 := num_le 1048576 s
    have hfag := @fn_ag s
    generalize hq13 : (numM 1048576 s).1 = n7 at *
    generalize hq14 : (numM 1048576 s).2 = t7 at *
    have hB5b := hB5a.kp hkb (by simp; omega)
    have zb := hkb.size
    have hRb' : Rd2 D p t7 { wb with drawn := wb.drawn + 1 } := hRb.kp ((Kp.refl _ _).dr _)
    refine drawG τok (fun u => Bk u.heap b5 [.int .i64 ((n1 : Int) - 1), .slice va l2.length vc, .slice fa acc.length fc, .slice none 0 0, .slice none 0 0] 28) ?_
    refine readsG τok [0, 1, 2, 3] 6 #[true, true, true, true, false, false, false, false, false, false] rfl rfl (by kernel_rfl) (by kernel_rfl) (by kernel_rfl) hB5b ?_
    refine ldQ (fun u hu => hu.cl rfl) ?_
    refine nextG τok 4 5 #[true, true, true, true, true, false, false, false, false, false] rfl rfl rfl (by kernel_rfl) ?_
    refine ev_call (getBlock_ct hRb') ?_
    rintro e wc ⟨lc, s', ac, cc, rfl, hSlc, hag, hRc, hkc⟩
    have hkc : Kp [p] wb wc := hkc.rd
    have hSlc : Sl rIns (New wb.heap.size wc) ac lc := hSlc
    have hB5c := hB5b.kp hkc (by simp; omega)
    have kac : Kp [p] wa wc := hkb.trans hkc (fun x hx _ => hx)
    have zc := hkc.size
    refine ⟨.inl hB5c, ?_⟩
    refine readsG τok [5] 4 #[true, true, true, true, true, true, false, false, false, false] rfl rfl (by kernel_rfl) (by kernel_rfl) (by kernel_rfl) hB5c ?_
    refine nextG τok 6 3 #[true, true, true, true, true, true, true, false, false, false] rfl rfl rfl (by kernel_rfl) ?_
    refine fill [.int .i64 (n7 : Int), .slice ac lc.length cc] rfl ?_
    refine new fun bm wm hbm hBm hsm hkm => ?_
    refine ⟨.inl (hB5c.kp hkm (by simp)), ?_⟩
    refine nextG τok 7 2 #[true, true, true, true, true, true, true, true, false, false] rfl rfl rfl (by kernel_rfl) ?_
    have hF9 := (hF.kpl kac (by simp; omega)).kp hkm
    refine hF9.ap1 τok rfl rfl (by decide) ⟨(n7 : Int), lc⟩ [.int .i64 (n7 : Int), .slice ac lc.length cc] ⟨ac, cc, rfl, hSlc.mono fun b o u hu => new_dn hF hkm b o u ⟨by have := hu.1; omega, hu.2⟩, by simp only [I64]; omega⟩ (fun j u hj => by rw [Nat.zero_add]; exact hBm.cl hj) (by omega) (by simp only [maxLen]; omega) fun F' wn hF10 hkn _ => ?_
    obtain ⟨fa', fc', rfl⟩ := hF10.len
    have gF : ∀ x ∈ (Value.slice fa acc.length fc).ownBlock.toList, wS.heap.size ≤ x := fun x hx => (hF.block x (by simpa using hx)).1
    have hB5n := (hB5c.kp hkm (by simp)).kp hkn (fun hx => by have := gF b5 hx; omega)
    refine ⟨.inl hB5n, ?_⟩
    refine readsG τok [8] 1 #[true, true, true, true, true, true, true, true, true, false] rfl rfl (by kernel_rfl) (by kernel_rfl) (by kernel_rfl) hB5n ?_
    refine nextG τok 9 0 #[true, true, true, true, true, true, true, true, true, true] rfl rfl rfl (by kernel_rfl) ?_
    refine st hB5n (by simp) rfl fun wo hB5o hso hko => ?_
    refine ⟨.inr (by kernel_rfl), ?_⟩
    refine doneG (by kernel_rfl) ?_
    refine int64 (by omega) (by omega) ?_
    refine ⟨(i + 1, _, acc ++ [⟨(n7 : Int), lc⟩], s'), by simp only; omega, rfl, ⟨rfl, rfl, rfl, rfl, rfl, trivial⟩, g2, by simp [hal], hF10.kpl hko (by simp; omega), hB5o, ?_, ?_, hL.step g3 g2 (hfag hag)⟩
    · refine ((hRc.kp hkm).own hF9 hkn (by omega) (fun b o x hx => by have := hDlt b o x hx; omega)).kpX hko (by simp; omega) fun b o v hd => ?_
      have := hDlt b o v hd
      simp; omega
    · refine (((hka.trans (kac.weak (Y := [p, b5]) (by simp)) (fun x hx _ => hx)).tr hkm).trans hkn fun x hx hl => ?_).trans hko fun x hx hl => ?_
      · have := gF x hx; omega
      · simp at hx; simp [hx]
  clear hRS1 st5 hB5
  rintro ⟨F, l3, s3⟩ wF ⟨hl3, hF, hB5, hRF, hkF, hA3⟩
  simp only at hl3 hF hB5 hRF hA3
  obtain ⟨fa, fc, rfl⟩ := hF.len
  have zF := hkF.size
  refine ev_seq τok ?_
  refine ev_call (num02_ct hRF 1048576 (by omega)) ?_
  rintro e wF1 ⟨rfl, hRF1, hkF1⟩
  have i9 := num_le 1048576 s3
  have st6 := Lp.start (one := rblockM) s3
  generalize hM4 : manyM rblockM s3 = M4 at *
  have hcod := @hcod s3
  rw [hM4] at hcod
  generalize hq15 : (numM 1048576 s3).1 = n8 at *
  generalize hq16 : (numM 1048576 s3).2 = t8 at *
  have zF1 := hkF1.size
  refine ev_mid τok (σ := Value × List (List Ins) × RS) (fun q => [(2, .pointer (some ⟨b2, 0, none⟩)), (4, .pointer (some ⟨p, 0, none⟩)), (5, .pointer (some ⟨b5, 0, none⟩))])
    (fun q w' => q.2.1.length ≤ 1048576 ∧ Own (rSl rIns) 26 wF.heap.size w' q.1 q.2.1 ∧ Bk w'.heap b5 [.int .i64 ((n1 : Int) - 1), .slice va l2.length vc, .slice fa l3.length fc, q.1, .slice none 0 0] 28 ∧ Rd2 D p q.2.2 w' ∧ Kp [p, b5] wF w' ∧ Ag M4 q.2.1 q.2.2) ?_ ?_
  · refine lp τok (σ := Nat × Value × List (List Ins) × RS) (fun q => [(2, .pointer (some ⟨b2, 0, none⟩)), (4, .pointer (some ⟨p, 0, none⟩)), (5, .pointer (some ⟨b5, 0, none⟩)), (6, .int .i64 (n8 : Int)), (16, .int .i64 (q.1 : Int))])
      (fun q w' => q.1 ≤ n8 ∧ q.2.2.1.length = q.1 ∧ Own (rSl rIns) 26 wF.heap.size w' q.2.1 q.2.2.1 ∧ Bk w'.heap b5 [.int .i64 ((n1 : Int) - 1), .slice va l2.length vc, .slice fa l3.length fc, q.2.1, .slice none 0 0] 28 ∧ Rd2 D p q.2.2.2 w' ∧ Kp [p, b5] wF w' ∧ Lp rblockM M4 n8 q.1 q.2.2.1 q.2.2.2) (fun q => n8 - q.1)
      (0, .slice none 0 0, [], t8) rfl ⟨rfl, rfl, rfl, rfl, rfl, trivial⟩ ⟨Nat.zero_le _, rfl, Own.nil _ _ zF1, hB5.kp hkF1 (by simp; omega), hRF1, hkF1.weak (by simp), st6⟩ ?_
    clear hRF1 st6
    rintro ⟨i, G, acc, s⟩ wa ⟨hi, hal, hG, hB5a, hRa, hka, hL⟩
    simp only at hi hal hG hB5a hRa hL
    obtain ⟨ga, gc, rfl⟩ := hG.len
    have hGlow := hG.low
    refine br_dec (fun g2 => ?_) (fun g2 => ?_)
    rotate_left
    · exact ⟨(_, acc, s), rfl, ⟨rfl, rfl, rfl, trivial⟩, by simp only; omega, hG, hB5a, hRa, hka, hL.done fun _ => by omega⟩
    have g2 : i < n8 := by omega
    obtain ⟨_, _, ar, capr, hBr, _, _⟩ := id hRa
    refine ld (hBr.cl rfl).cell ?_
    refine br_dec (fun g3 => ?_) (fun g3 => ?_)
    rotate_left
    · exact ⟨(_, acc, s), rfl, ⟨rfl, rfl, rfl, trivial⟩, by simp only; omega, hG, hB5a, hRa, hka, hL.done fun e => absurd e g3⟩
    have g3 : s.2 = 0 := g3
    clear hBr
    have hRa' : Rd2 D p s { wa with drawn := wa.drawn + 1 } := hRa.kp ((Kp.refl _ _).dr _)
    refine drawG τok (fun u => Bk u.heap b5 [.int .i64 ((n1 : Int) - 1), .slice va l2.length vc, .slice fa l3.length fc, .slice ga acc.length gc, .slice none 0 0] 28) ?_
    refine readsG τok [0, 1, 2] 5 #[true, true, true, false, false, false, false, false] rfl rfl (by kernel_rfl) (by kernel_rfl) (by kernel_rfl) hB5a ?_
    refine ldQ (fun u hu => hu.cl rfl) ?_
    refine nextG τok 3 4 #[true, true, true, true, false, false, false, false] rfl rfl rfl (by kernel_rfl) ?_
    refine ev_call (getBlock_ct hRa') ?_
    rintro e wc ⟨lc, s', ac, cc, rfl, hSlc, hag, hRc, hkc⟩
    have kac : Kp [p] wa wc := hkc.rd
    have hSlc : Sl rIns (New wa.heap.size wc) ac lc := hSlc
    have hB5c := hB5a.kp kac (by simp; omega)
    have zc := kac.size
    refine ⟨.inl hB5c, ?_⟩
    refine nextG τok 4 3 #[true, true, true, true, true, false, false, false] rfl rfl rfl (by kernel_rfl) ?_
    refine fill [.slice ac lc.length cc] rfl ?_
    refine new fun bm wm hbm hBm hsm hkm => ?_
    refine ⟨.inl (hB5c.kp hkm (by simp)), ?_⟩
    refine nextG τok 5 2 #[true, true, true, true, true, true, false, false] rfl rfl rfl (by kernel_rfl) ?_
    have hG9 := (hG.kpl kac (by simp; omega)).kp hkm
    refine hG9.ap1 τok rfl rfl Nat.one_pos lc [.slice ac lc.length cc] ⟨ac, cc, rfl, hSlc.mono fun b o u hu => new_dn hG hkm b o u ⟨by have := hu.1; omega, hu.2⟩⟩ (fun j u hj => by rw [Nat.zero_add]; exact hBm.cl hj) (by omega) (by simp only [maxLen]; omega) fun G' wn hG10 hkn _ => ?_
    obtain ⟨ga', gc', rfl⟩ := hG10.len
    have gG : ∀ x ∈ (Value.slice ga acc.length gc).ownBlock.toList, wF.heap.size ≤ x := fun x hx => (hG.block x (by simpa using hx)).1
    have hB5n := (hB5c.kp hkm (by simp)).kp hkn (fun hx => by have := gG b5 hx; omega)
    refine ⟨.inl hB5n, ?_⟩
    refine readsG τok [6] 1 #[true, true, true, true, true, true, true, false] rfl rfl (by kernel_rfl) (by kernel_rfl) (by kernel_rfl) hB5n ?_
    refine nextG τok 7 0 #[true, true, true, true, true, true, true, true] rfl rfl rfl (by kernel_rfl) ?_
    refine st hB5n (by simp) rfl fun wo hB5o hso hko => ?_
    refine ⟨.inr (by kernel_rfl), ?_⟩
    refine doneG (by kernel_rfl) ?_
    refine int64 (by omega) (by omega) ?_
    refine ⟨(i + 1, _, acc ++ [lc], s'), by simp only; omega, rfl, ⟨rfl, rfl, rfl, rfl, rfl, trivial⟩, g2, by simp [hal], hG10.kpl hko (by simp; omega), hB5o, ?_, ?_, hL.step g3 g2 hag⟩
    · refine ((hRc.kp hkm).own hG9 hkn (by omega) (fun b o x hx => by have := hDlt b o x hx; omega)).kpX hko (by simp; omega) fun b o v hd => ?_
      have := hDlt b o v hd
      simp; omega
    · refine (((hka.trans (kac.weak (Y := [p, b5]) (by simp)) (fun x hx _ => hx)).tr hkm).trans hkn fun x hx hl => ?_).trans hko fun x hx hl => ?_
      · have := gG x hx; omega
      · simp at hx; simp [hx]
  clear hRF1 st6 hB5
  rintro ⟨G, l4, s4⟩ wG ⟨hl4, hG, hB5, hRG, hkG, hA4⟩
  simp only at hl4 hG hB5 hRG hA4
  obtain ⟨ga, gc, rfl⟩ := hG.len
  have zG := hkG.size
  refine ev_seq τok ?_
  refine ev_call (getBlock_ct hRG) ?_
  rintro e wH ⟨l5, s5, ha, hc, rfl, hSl5, hA5, hRH, hkH⟩
  have hB5 := hB5.kp hkH (by simp; omega)
  have zH := hkH.size
  refine st hB5 (by simp) rfl fun wI hB5 hsI hkI => ?_
  have hB5 : Bk wI.heap b5 [.int .i64 ((n1 : Int) - 1), .slice va l2.length vc, .slice fa l3.length fc, .slice ga l4.length gc, .slice ha l5.length hc] 28 := hB5
  have hRI : Rd2 D p s5 wI := hRH.kpX hkI (by simp; omega) fun b o v hd => by have := hDlt b o v hd; simp; omega
  have hA : Ag (rcodM (l, 0)) ⟨(n1 : Int) - 1, l2, l3, l4, l5⟩ s5 := hcod hA2 hA3 hA4 hA5
  have sub : ∀ x, x ∈ [p] → x ∈ [p, b5] := fun x hx => by simp at hx; simp [hx]
  have kFI : Kp [p, b5] wG wI := (hkH.weak (fun x hx _ => sub x hx)).trans (hkI.weak (Y := [p, b5]) (by simp)) (fun x hx _ => hx)
  have kFI2 : Kp [p, b5] wF wI := hkG.trans kFI (fun x hx _ => hx)
  have kFI3 : Kp [p, b5] wS wI := hkF.trans kFI2 (fun x hx _ => hx)
  have kFI4 : Kp [p, b5] w8 wI := hkS.trans kFI3 (fun x hx _ => hx)
  have k0I := own kFI4
  have hB2 := hB28.kp kFI4 (by simp; omega)
  have lt8 : ∀ x ∈ [p, b5], x < w8.heap.size := fun x hx => by simp at hx; omega
  obtain ⟨_, _, e1, hSl2⟩ := (hV.kpl kFI3 lt8).den (by omega)
  cases e1
  obtain ⟨_, _, e1, hSl3⟩ := (hF.kpl kFI2 (fun x hx => by have := lt8 x hx; omega)).den (by omega)
  cases e1
  obtain ⟨_, _, e1, hSl4⟩ := (hG.kpl kFI (fun x hx => by have := lt8 x hx; omega)).den (by omega)
  cases e1
  have up : ∀ n, w8.heap.size ≤ n → ∀ b o v, New n wI b o v → New w8.heap.size wI b o v := fun n hn b o v h => ⟨by have := h.1; omega, h.2⟩
  have zw := hk1.size
  have hz8 : w.heap.size ≤ w8.heap.size := by omega
  have hSl5' : Sl rIns (New w8.heap.size wI) ha l5 := hSl5.mono fun b o v h => ⟨by have := h.1; omega, h.2.kp hkI (by have := h.1; simp; omega)⟩
  have hden : rCod.den (New w8.heap.size wI) [.int .i64 ((n1 : Int) - 1), .slice va l2.length vc, .slice fa l3.length fc, .slice ga l4.length gc, .slice ha l5.length hc] ⟨(n1 : Int) - 1, l2, l3, l4, l5⟩ :=
    ⟨va, vc, fa, fc, ga, gc, ha, hc, rfl, hSl2.mono (up _ (Nat.le_refl _)), hSl3.mono (up _ (by omega)), hSl4.mono (up _ (by omega)), hSl5', by simp only [I64]; omega⟩
  obtain ⟨_, _, ar, capr, hBr, _, _⟩ := id hRI
  have hDEe : DE = if s5.2 ≠ 0 then s5.2 else if 0 < s5.1.length then 3 else checkM ⟨(n1 : Int) - 1, l2, l3, l4, l5⟩ := by
    rw [← hDE]; unfold decE
    rw [if_neg (by omega), ← hA.1]
    by_cases h0 : s5.2 = 0
    · obtain ⟨e1, e2⟩ := hA.2 (hA.1 ▸ h0)
      rw [e2, e1]
    · rw [if_pos h0, if_pos h0]
  clear hV hF hG hSl2 hSl3 hSl4 hSl5
  refine ev_seq τok ?_
  refine ld (hBr.cl rfl).cell ?_
  refine br_dec (fun g2 => ?_) (fun g2 => ?_)
  · have g2 : s5.2 ≠ 0 := g2
    rw [if_pos g2] at hDEe
    refine drawG τok (fun u => Kp [b2] wI u) ?_
    refine readsG τok [0, 1, 2, 3, 4] 2 #[true, true, true, true, true, false, false] rfl rfl (by kernel_rfl) (by kernel_rfl) (by kernel_rfl) ((Kp.refl _ _).dr _) ?_
    refine ldQ (fun u hu => (hBr.kp hu (by simp; omega)).cl rfl) ?_
    refine nextG τok 5 1 #[true, true, true, true, true, true, false] rfl rfl rfl (by kernel_rfl) ?_
    refine stN (vs := [.int .i64 0, .slice none 0 0, .slice none 0 0, .slice none 0 0, .slice none 0 0]) (hB2.kp ((Kp.refl [] wI).dr (wI.drawn + 1)) (by simp)) rfl (by simp [Value.oneCell']) fun wJ hB2 hsJ hkJ => ?_
    refine ⟨.inl hkJ.rd, ?_⟩
    refine nextG τok 6 0 #[true, true, true, true, true, true, true] rfl rfl rfl (by kernel_rfl) ?_
    refine ⟨.inl hkJ.rd, ?_⟩
    refine doneG (by kernel_rfl) ?_
    refine resN τok rfl [.int .i64 0, .slice none 0 0, .slice none 0 0, .slice none 0 0, .slice none 0 0] rfl (fun j v hj => hB2.cl hj) ?_
    refine ⟨_, by rw [hDEe]; rfl, bad wJ (by rw [hDEe]; exact g2), k0I.trans hkJ.rd (fun x hx hl => by simp at hx; omega)⟩
  have g2 : s5.2 = 0 := by simpa using g2
  rw [if_neg (by simpa using g2)] at hDEe
  refine ev_seq τok ?_
  refine ld (hBr.cl rfl).cell ?_
  refine br_dec (fun g3 => ?_) (fun g3 => ?_)
  · rw [if_pos (by omega)] at hDEe
    refine stN (vs := [.int .i64 0, .slice none 0 0, .slice none 0 0, .slice none 0 0, .slice none 0 0]) hB2 rfl (by simp [Value.oneCell']) fun wJ hB2 hsJ hkJ => ?_
    refine resN τok rfl [.int .i64 0, .slice none 0 0, .slice none 0 0, .slice none 0 0, .slice none 0 0] rfl (fun j v hj => hB2.cl hj) ?_
    exact ⟨_, by rw [hDEe]; rfl, bad wJ (by rw [hDEe]; decide), k0I.trans hkJ (fun x hx hl => by simp at hx; omega)⟩
  rw [if_neg (by omega)] at hDEe
  refine ev_seq τok ?_
  refine ldN [.int .i64 ((n1 : Int) - 1), .slice va l2.length vc, .slice fa l3.length fc, .slice ga l4.length gc, .slice ha l5.length hc] rfl (fun j v hj => by rw [Nat.zero_add]; exact hB5.cl hj) ?_
  have ct := check20_ct (New.sub _ wI) hden
  rw [← hDEe] at ct
  refine ev_call ct ?_
  rintro e wJ ⟨rfl, hkJ⟩
  have hB2 := hB2.kp hkJ (by simp)
  have hB5 := hB5.kp hkJ (by simp)
  have k0J := k0I.tr hkJ
  refine ev_seq τok ?_
  refine br_dec (fun g4 => ?_) (fun g4 => ?_)
  · refine stN (vs := [.int .i64 0, .slice none 0 0, .slice none 0 0, .slice none 0 0, .slice none 0 0]) hB2 rfl (by simp [Value.oneCell']) fun wK hB2 hsK hkK => ?_
    refine resN τok rfl [.int .i64 0, .slice none 0 0, .slice none 0 0, .slice none 0 0, .slice none 0 0] rfl (fun j v hj => hB2.cl hj) ?_
    exact ⟨_, rfl, bad wK g4, k0J.trans hkK (fun x hx hl => by simp at hx; omega)⟩
  have g4 : DE = 0 := by simpa using g4
  refine ev_of τok ?_
  refine ldN [.int .i64 ((n1 : Int) - 1), .slice va l2.length vc, .slice fa l3.length fc, .slice ga l4.length gc, .slice ha l5.length hc] rfl (fun j v hj => by rw [Nat.zero_add]; exact hB5.cl hj) ?_
  refine stN hB2 rfl (by simp [Value.oneCell']) fun wK hB2 hsK hkK => ?_
  refine resN τok rfl [.int .i64 ((n1 : Int) - 1), .slice va l2.length vc, .slice fa l3.length fc, .slice ga l4.length gc, .slice ha l5.length hc] rfl (fun j v hj => hB2.cl hj) ?_
  have hDCe : DC = ⟨(n1 : Int) - 1, l2, l3, l4, l5⟩ := by
    rw [← hDC]; unfold decC
    rw [hDE, if_pos g4]
    exact (hA.2 (hA.1 ▸ g2)).2.symm
  rw [hDCe]
  refine ⟨_, by rw [g4]; rfl, ?_, k0J.trans hkK (fun x hx hl => by simp at hx; omega)⟩
  exact rCod.mono (fun b o v h => ⟨by have := h.1; omega, (h.2.kp hkJ (by simp)).kp hkK (by have := h.1; simp; omega)⟩) hden
end Go.Proofs.Ytjogpbiilokldaa
