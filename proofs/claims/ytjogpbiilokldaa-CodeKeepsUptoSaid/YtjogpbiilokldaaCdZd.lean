/-
  Code: CodeKeeps: what is scribbled over numbers of one copy leaves the other as it was.
-/
import Derived.Test.YtjogpbiilokldaaCdZc
set_option linter.unusedSimpArgs false
set_option linter.unusedVariables false
namespace Go.Wx
/-- numbers in blocks lo, .., hi - 1 may have been written over -/
structure Scr (lo hi : Nat) (w w' : World) : Prop where
  os : w'.os = w.os
  tape : w'.tape = w.tape
  output : w'.output = w.output
  size : w'.heap.size = w.heap.size
  off : ∀ b, (b < lo ∨ hi ≤ b) → w'.heap[b]? = w.heap[b]?
  cell : ∀ b o v, Cu w.heap b o v → Cu w'.heap b o v ∨ ∃ j n m, v = .int j n ∧ Cu w'.heap b o (.int j m)

theorem Scr.refl (lo hi : Nat) (w : World) : Scr lo hi w w := ⟨rfl, rfl, rfl, rfl, fun _ _ => rfl, fun _ _ _ h => .inl h⟩
theorem Scr.sl {lo hi : Nat} {w w' : World} (h : Scr lo hi w w') {b o : Nat} {a : Option Addr} {n c : Nat} (hc : Cu w.heap b o (.slice a n c)) : Cl w'.heap b o (.slice a n c) := by
  rcases h.cell _ _ _ hc with h | ⟨_, _, _, e, _⟩
  · exact h.cl
  · cases e
theorem Scr.int {lo hi : Nat} {w w' : World} (h : Scr lo hi w w') {b o : Nat} {j : IntKind} {n : Int} (hc : Cu w.heap b o (.int j n)) : ∃ m, Cu w'.heap b o (.int j m) := by
  rcases h.cell _ _ _ hc with h | ⟨_, _, m, e, h⟩
  · exact ⟨n, h⟩
  · cases e; exact ⟨m, h⟩
theorem Scr.far {lo hi : Nat} {w w' : World} (h : Scr lo hi w w') {b o : Nat} {v : Value} (hb : b < lo ∨ hi ≤ b) (hc : Cl w.heap b o v) : Cl w'.heap b o v := by
  obtain ⟨c, T, f, h1, h2⟩ := hc
  exact ⟨c, T, f, by rw [h.off b hb]; exact h1, h2⟩
theorem Scr.farU {lo hi : Nat} {w w' : World} (h : Scr lo hi w w') {b o : Nat} {v : Value} (hb : b < lo ∨ hi ≤ b) (hc : Cu w.heap b o v) : Cu w'.heap b o v := by
  obtain ⟨c, T, h1, h2⟩ := hc
  exact ⟨c, T, by rw [h.off b hb]; exact h1, h2⟩
theorem Scr.kp {lo hi : Nat} {w w' w0 : World} (h : Scr lo hi w w') (k : Kp [] w0 w) (hl : w0.heap.size ≤ lo) : Kp [] w0 w' :=
  ⟨h.os.trans k.os, h.tape.trans k.tape, h.output.trans k.output, by rw [h.size]; exact k.size, fun b hb hx => by rw [h.off b (.inl (by omega))]; exact k.block b hb hx⟩

/-- a number written over a number -/
theorem stU {lo hi : Nat} {w0 w : World} {b o : Nat} {j : IntKind} {n x : Int} {k : World → Prop} (hs : Scr lo hi w0 w) (hc : Cu w.heap b o (.int j n)) (h1 : lo ≤ b) (h2 : b < hi) (hk : ∀ w', Scr lo hi w0 w' → k w') : EvSt w ⟨b, o, none⟩ (.int j x) k := by
  obtain ⟨c, T, g1, g2⟩ := hc
  have hB : Bk w.heap b c.toList T := by unfold Bk; simpa using g1
  have ho : o < c.toList.length := by
    have := (Array.getElem?_eq_some_iff.1 g2).1
    simpa using this
  refine st hB ho rfl fun w' hB' hsz hkp => hk w' ?_
  have step : ∀ b' o' v, Cu w.heap b' o' v → Cu w'.heap b' o' v ∨ (b' = b ∧ o' = o ∧ Cu w'.heap b' o' (.int j x)) := fun b' o' v hv => by
    by_cases hb : b' = b
    · subst hb
      obtain ⟨c', T', e1, e2⟩ := hv
      rw [g1] at e1
      injection e1 with e1
      injection e1 with e1 e1'
      subst e1
      by_cases ho' : o' = o
      · subst ho'
        exact .inr ⟨rfl, rfl, hB'.cu (by simp [List.getElem?_set]; simpa using ho)⟩
      · refine .inl (hB'.cu ?_)
        rw [List.getElem?_set_ne (fun e => ho' e.symm)]
        simpa using e2
    · exact .inl (hv.kp hkp (by simpa using hb))
  refine ⟨hkp.os.trans hs.os, hkp.tape.trans hs.tape, hkp.output.trans hs.output, hsz.trans hs.size, fun b' hb' => ?_, fun b' o' v hv => ?_⟩
  · rw [← hs.off b' hb']
    by_cases hl : b' < w.heap.size
    · exact hkp.block b' hl (by simp; omega)
    · rw [Array.getElem?_eq_none (by omega), Array.getElem?_eq_none (by omega)]
  · rcases hs.cell _ _ _ hv with h | ⟨j', n', m', rfl, h⟩
    · rcases step _ _ _ h with h' | ⟨rfl, rfl, h'⟩
      · exact .inl h'
      · obtain ⟨c', T', e1, e2⟩ := h
        rw [g1] at e1
        injection e1 with e1
        injection e1 with e1 e1'
        subst e1
        rw [g2] at e2
        injection e2 with e2
        exact .inr ⟨j, n, x, e2.symm, h'⟩
    · rcases step _ _ _ h with h' | ⟨rfl, rfl, h'⟩
      · exact .inr ⟨j', n', m', rfl, h'⟩
      · obtain ⟨c', T', e1, e2⟩ := h
        rw [g1] at e1
        injection e1 with e1
        injection e1 with e1 e1'
        subst e1
        rw [g2] at e2
        injection e2 with e2
        injection e2 with e2 e3
        subst e2
        exact .inr ⟨j, n', x, rfl, h'⟩
end Go.Wx

namespace Go.Proofs.Ytjogpbiilokldaa
open Go.Wx Cd

set_option maxRecDepth 20000 in
theorem codeKeeps_ct {C : Mem} {w : World} (hS : Sub C w) {cs : List Value} {c : Cod} (hc : rCod.den C cs c) :
    Calls Try.prog 8 #[.agg cs.toArray] w (fun e w' => e = .returned (.bool true) ∧ Kp [] w w') := by
  have hc0 := hc
  obtain ⟨a1, c1, a2, c2, a3, c3, a4, c4, rfl, h1, h2, h3, h4, h5⟩ := hc
  refine calls_of (args := [_]) 119 [.tmp 2] τok Try.func8 rfl rfl rfl (Nat.le_of_ble_eq_true rfl) ?_
  refine new fun b1 w1 hb1 hB1 hs1 hk1 => ?_
  have hB1 : Bk w1.heap b1 [.int .i64 c.nat, .slice a1 c.shapes.length c1, .slice a2 c.funs.length c2, .slice a3 c.bodies.length c3, .slice a4 c.main.length c4] 28 := hB1
  refine ev_call (awake_ct w1) ?_
  rintro e w2 ⟨rfl, hk2⟩
  have hB2 := hB1.kp hk2 (by simp)
  have hk02 := hk1.tr hk2
  refine ldN [.int .i64 c.nat, .slice a1 c.shapes.length c1, .slice a2 c.funs.length c2, .slice a3 c.bodies.length c3, .slice a4 c.main.length c4] rfl (fun j v hj => by rw [Nat.zero_add]; exact hB2.cl hj) ?_
  refine ev_call (long_ct (hS.tr hk02) hc0) ?_
  rintro e w3 ⟨b, rfl, hk3⟩
  have hk03 := hk02.tr hk3
  refine br (fun g1 => ?_) (fun g1 => ?_)
  · exact ⟨rfl, hk03⟩
  have hB3 := hB2.kp hk3 (by simp)
  refine ldN [.int .i64 c.nat, .slice a1 c.shapes.length c1, .slice a2 c.funs.length c2, .slice a3 c.bodies.length c3, .slice a4 c.main.length c4] rfl (fun j v hj => by rw [Nat.zero_add]; exact hB3.cl hj) ?_
  refine ev_call (copy_ct (hS.tr hk03) hc0) ?_
  rintro e w4 ⟨cs4, rfl, hd4, hk4⟩
  have hd4' := hd4
  obtain ⟨x1, y1, x2, y2, x3, y3, x4, y4, rfl, _⟩ := hd4
  refine new fun b4 w5 hb4 hB4 hs5 hk5 => ?_
  refine stN hB4 rfl (by simp [Value.oneCell']) fun w6 hB4 hs6 hk6 => ?_
  have k46 : Kp [] w4 w6 := hk5.newSt hb4 hk6
  have k16 : Kp [] w1 w6 := ((hk2.tr hk3).tr hk4).tr k46
  have k06 : Kp [] w w6 := hk1.tr k16
  have hd6 := rCod.mono (New.up (Nat.le_refl _) k46) hd4'
  refine ldN [.int .i64 c.nat, .slice x1 c.shapes.length y1, .slice x2 c.funs.length y2, .slice x3 c.bodies.length y3, .slice x4 c.main.length y4] rfl (fun j v hj => by rw [Nat.zero_add]; exact hB4.cl hj) ?_
  refine ev_call (encode_ct (New.sub _ w6) hd6) ?_
  rintro e w7 ⟨hk7, hpost⟩
  by_cases p1 : checkM c ≠ 0
  · rw [if_pos p1] at hpost
    subst hpost
    have hB7 := hB4.kp hk7 (by simp)
    have hB71 := hB1.kp (k16.tr hk7) (by simp)
    refine ldN [.int .i64 c.nat, .slice x1 c.shapes.length y1, .slice x2 c.funs.length y2, .slice x3 c.bodies.length y3, .slice x4 c.main.length y4] rfl (fun j v hj => by rw [Nat.zero_add]; exact hB7.cl hj) ?_
    refine ldN [.int .i64 c.nat, .slice a1 c.shapes.length c1, .slice a2 c.funs.length c2, .slice a3 c.bodies.length c3, .slice a4 c.main.length c4] rfl (fun j v hj => by rw [Nat.zero_add]; exact hB71.cl hj) ?_
    refine ev_call (same20_ct (New.sub _ w7) (hS.tr (k06.tr hk7)) c (rCod.mono (New.up (Nat.le_refl _) hk7) hd6) hc0) ?_
    rintro e w8 ⟨rfl, hk8⟩
    refine br_dec (fun q1 => ?_) (fun q1 => ?_)
    · exact ⟨rfl, (k06.tr hk7).tr hk8⟩
    · exact absurd p1 q1
  rw [if_neg p1] at hpost
  by_cases p2 : 65536 < (codB c).length
  · rw [if_pos p2] at hpost
    subst hpost
    have hB7 := hB4.kp hk7 (by simp)
    have hB71 := hB1.kp (k16.tr hk7) (by simp)
    refine ldN [.int .i64 c.nat, .slice x1 c.shapes.length y1, .slice x2 c.funs.length y2, .slice x3 c.bodies.length y3, .slice x4 c.main.length y4] rfl (fun j v hj => by rw [Nat.zero_add]; exact hB7.cl hj) ?_
    refine ldN [.int .i64 c.nat, .slice a1 c.shapes.length c1, .slice a2 c.funs.length c2, .slice a3 c.bodies.length c3, .slice a4 c.main.length c4] rfl (fun j v hj => by rw [Nat.zero_add]; exact hB71.cl hj) ?_
    refine ev_call (same20_ct (New.sub _ w7) (hS.tr (k06.tr hk7)) c (rCod.mono (New.up (Nat.le_refl _) hk7) hd6) hc0) ?_
    rintro e w8 ⟨rfl, hk8⟩
    exact ⟨rfl, (k06.tr hk7).tr hk8⟩
  rw [if_neg p2] at hpost
  obtain ⟨ax, cx, rfl, hSx, hcx⟩ := hpost
  have p1 : checkM c = 0 := by simpa using p1
  obtain ⟨X, hX⟩ : ∃ x, codB c = x := ⟨_, rfl⟩
  obtain ⟨d1, d2⟩ := dec_enc p1 (by omega)
  rw [hX] at hSx hcx d1 d2
  have hXl : X.length ≤ 65536 := by rw [← hX]; omega
  rw [hX]
  have hB7 := hB4.kp hk7 (by simp)
  have hB71 := hB1.kp (k16.tr hk7) (by simp)
  refine ldN [.int .i64 c.nat, .slice x1 c.shapes.length y1, .slice x2 c.funs.length y2, .slice x3 c.bodies.length y3, .slice x4 c.main.length y4] rfl (fun j v hj => by rw [Nat.zero_add]; exact hB7.cl hj) ?_
  refine ldN [.int .i64 c.nat, .slice a1 c.shapes.length c1, .slice a2 c.funs.length c2, .slice a3 c.bodies.length c3, .slice a4 c.main.length c4] rfl (fun j v hj => by rw [Nat.zero_add]; exact hB71.cl hj) ?_
  refine ev_call (same20_ct (New.sub _ w7) (hS.tr (k06.tr hk7)) c (rCod.mono (New.up (Nat.le_refl _) hk7) hd6) hc0) ?_
  rintro e w8 ⟨rfl, hk8⟩
  have k08 := (k06.tr hk7).tr hk8
  have hSx8 := hSx.mono (New.up (Nat.le_refl _) hk8)
  have c9 := decode_ct (New.sub _ w8) X ax cx hSx8
  rw [d1, d2] at c9
  refine ev_call c9 ?_
  rintro e w9 ⟨cs9, rfl, hd9, hk9⟩
  obtain ⟨u1, v1, u2, v2, u3, v3, u4, v4, rfl, _, hxf, _, hxm, _⟩ := hd9
  refine new fun b6 w10 hb6 hB6 hs10 hk10 => ?_
  refine stN hB6 rfl (by simp [Value.oneCell']) fun w11 hB6 hs11 hk11 => ?_
  have k911 : Kp [] w9 w11 := hk10.newSt hb6 hk11
  have k011 := (k08.tr hk9).tr k911
  have hSx11 := hSx8.mono (New.up (Nat.le_refl _) (hk9.tr k911))
  have c12 := decode_ct (New.sub _ w11) X ax cx hSx11
  rw [d1, d2] at c12
  refine ev_call c12 ?_
  rintro e w12 ⟨cs12, rfl, hd12, hk12⟩
  have hd12' := hd12
  obtain ⟨s1, t1, s2, t2, s3, t3, s4, t4, rfl, _⟩ := hd12
  refine new fun b8 w13 hb8 hB8 hs13 hk13 => ?_
  refine stN hB8 rfl (by simp [Value.oneCell']) fun w14 hB8 hs14 hk14 => ?_
  have k1214 : Kp [] w12 w14 := hk13.newSt hb8 hk14
  have k1114 := hk12.tr k1214
  have k914 := k911.tr k1114
  have k014 := k011.tr k1114
  have hd14 := rCod.mono (New.up (Nat.le_refl _) k1214) hd12'
  have hB114 := hB1.kp ((((k16.tr hk7).tr hk8).tr hk9).tr k914) (by simp)
  have hB614 := hB6.kp k1114 (by simp)
  have z6 := k16.size
  have z67 := hk7.size
  have z8 := hk8.size
  have z9 := hk9.size
  have z11 := k911.size
  have z12 := hk12.size
  have hb6l := hB6.lt
  have hb1l := hB1.lt
  obtain ⟨lo, hlo⟩ : ∃ n, n = w6.heap.size := ⟨_, rfl⟩
  obtain ⟨hi, hhi⟩ : ∃ n, n = w11.heap.size := ⟨_, rfl⟩
  have hX14 : Sl rU8 (fun b o v => lo ≤ b ∧ b < hi ∧ Cu w14.heap b o v) ax X := hSx11.mono fun b o v h => ⟨by have := h.1; omega, by have := h.2.lt; omega, h.2.kp k1114 (by simp)⟩
  have hm14 : Sl rIns (fun b o v => lo ≤ b ∧ b < hi ∧ Cu w14.heap b o v) u4 c.main := hxm.mono fun b o v h => ⟨by have := h.1; omega, by have := h.2.lt; omega, h.2.kp k914 (by simp)⟩
  have hf14 : Sl rFn (fun b o v => lo ≤ b ∧ b < hi ∧ Cu w14.heap b o v) u2 c.funs := hxf.mono fun b o v h => ⟨by have := h.1; omega, by have := h.2.lt; omega, h.2.kp k914 (by simp)⟩
  refine lp τok (σ := Nat) (fun i => [(1, .pointer (some ⟨b1, 0, none⟩)), (4, .slice ax X.length cx), (6, .pointer (some ⟨b6, 0, none⟩)), (8, .pointer (some ⟨b8, 0, none⟩)), (9, .int .i64 0), (10, .int .i64 i)]) (fun i u => Scr lo hi w14 u) (fun i => X.length - i) 0 rfl ⟨rfl, rfl, rfl, rfl, rfl, rfl, trivial⟩ (Scr.refl _ _ _) ?_
  rintro i u hs
  refine br_dec (fun g2 => ?_) (fun g2 => ?_)
  · have hlt : i < X.length := by omega
    obtain ⟨x, hx, _⟩ := drop_get hlt
    obtain ⟨bx, ox, rfl, ⟨n1, n2, hcu⟩, _⟩ := hX14.u8 hx
    obtain ⟨m, hm⟩ := hs.int hcu
    refine ix i rfl hlt ?_
    refine stU hs hm n1 n2 fun u' hs' => ?_
    refine int64 (by omega) (by omega) ?_
    exact ⟨i + 1, by omega, rfl, ⟨rfl, rfl, rfl, rfl, rfl, rfl, trivial⟩, hs'⟩
  have at6m : ∀ {u}, Scr lo hi w14 u → Cl u.heap b6 4 (.slice u4 c.main.length v4) := fun h => h.sl (hB614.cu rfl)
  have at6f : ∀ {u}, Scr lo hi w14 u → Cl u.heap b6 2 (.slice u2 c.funs.length v2) := fun h => h.sl (hB614.cu rfl)
  have hml := h4.1
  have hfl := h2.1
  refine lp τok (σ := Nat) (fun i => [(1, .pointer (some ⟨b1, 0, none⟩)), (6, .pointer (some ⟨b6, 0, none⟩)), (8, .pointer (some ⟨b8, 0, none⟩)), (9, .int .i64 0), (11, .int .i64 i)]) (fun i u => Scr lo hi w14 u) (fun i => c.main.length - i) 0 rfl ⟨rfl, rfl, rfl, rfl, rfl, trivial⟩ hs ?_
  clear hs
  rintro i u hs
  refine ld (at6m hs).cell ?_
  refine br_dec (fun g3 => ?_) (fun g3 => ?_)
  · have hlt : i < c.main.length := by have : (i : Int) < c.main.length := g3
                                       omega
    obtain ⟨n, hn, _⟩ := drop_get hlt
    obtain ⟨bm, om, rfl, an, tc, hto, _, _, _, hcells⟩ := sl_ins hm14 hn
    have htl := hto.1
    have q0 := hcells 0 _ rfl
    have q3 : ∀ {u}, Scr lo hi w14 u → Cl u.heap bm (om + i * 4 + 3) (.slice an n.to.length tc) := fun h => h.sl (hcells 3 _ rfl).2.2
    refine lp τok (σ := Nat) (fun j => [(1, .pointer (some ⟨b1, 0, none⟩)), (6, .pointer (some ⟨b6, 0, none⟩)), (8, .pointer (some ⟨b8, 0, none⟩)), (9, .int .i64 0), (11, .int .i64 i), (12, .int .i64 j)]) (fun j u => Scr lo hi w14 u) (fun j => n.to.length - j) 0 rfl ⟨rfl, rfl, rfl, rfl, rfl, rfl, trivial⟩ hs ?_
    clear hs
    rintro j u hs
    refine ld (at6m hs).cell ?_
    refine ix i rfl hlt ?_
    refine ld (q3 hs).cell ?_
    refine br_dec (fun g4 => ?_) (fun g4 => ?_)
    · have hltj : j < n.to.length := by omega
      obtain ⟨x, hx, _⟩ := drop_get hltj
      obtain ⟨bt, ot, rfl, ⟨n1, n2, hcu⟩, _⟩ := hto.int hx
      obtain ⟨m, hm⟩ := hs.int hcu
      refine ld (at6m hs).cell ?_
      refine ix i rfl hlt ?_
      refine ld (q3 hs).cell ?_
      refine ix j rfl hltj ?_
      refine stU hs hm n1 n2 fun u' hs' => ?_
      refine int64 (by omega) (by omega) ?_
      exact ⟨j + 1, by omega, rfl, ⟨rfl, rfl, rfl, rfl, rfl, rfl, trivial⟩, hs'⟩
    · obtain ⟨m, hm⟩ := hs.int q0.2.2
      refine ld (at6m hs).cell ?_
      refine ix i rfl hlt ?_
      refine stU hs hm q0.1 q0.2.1 fun u' hs' => ?_
      refine int64 (by omega) (by omega) ?_
      exact ⟨i + 1, by omega, rfl, ⟨rfl, rfl, rfl, rfl, rfl, trivial⟩, hs'⟩
  refine lp τok (σ := Nat) (fun i => [(1, .pointer (some ⟨b1, 0, none⟩)), (6, .pointer (some ⟨b6, 0, none⟩)), (8, .pointer (some ⟨b8, 0, none⟩)), (9, .int .i64 0), (13, .int .i64 i)]) (fun i u => Scr lo hi w14 u) (fun i => c.funs.length - i) 0 rfl ⟨rfl, rfl, rfl, rfl, rfl, trivial⟩ hs ?_
  clear hs
  rintro i u hs
  refine ld (at6f hs).cell ?_
  refine br_dec (fun g4 => ?_) (fun g4 => ?_)
  · have hlt : i < c.funs.length := by have : (i : Int) < c.funs.length := g4
                                       omega
    obtain ⟨f, hf, _⟩ := drop_get hlt
    obtain ⟨bf, of, rfl, af, cf, hcode, _, hcp, hcc⟩ := sl_fn hf14 hf
    have hcl := hcode.1
    have q1 : ∀ {u}, Scr lo hi w14 u → Cl u.heap bf (of + i * 2 + 1) (.slice af f.code.length cf) := fun h => h.sl hcc.2.2
    refine lp τok (σ := Nat) (fun j => [(1, .pointer (some ⟨b1, 0, none⟩)), (6, .pointer (some ⟨b6, 0, none⟩)), (8, .pointer (some ⟨b8, 0, none⟩)), (9, .int .i64 0), (13, .int .i64 i), (14, .int .i64 j)]) (fun j u => Scr lo hi w14 u) (fun j => f.code.length - j) 0 rfl ⟨rfl, rfl, rfl, rfl, rfl, rfl, trivial⟩ hs ?_
    clear hs
    rintro j u hs
    refine ld (at6f hs).cell ?_
    refine ix i rfl hlt ?_
    refine ld (q1 hs).cell ?_
    refine br_dec (fun g5 => ?_) (fun g5 => ?_)
    · have hltj : j < f.code.length := by omega
      obtain ⟨n, hn, _⟩ := drop_get hltj
      obtain ⟨bm, om, rfl, an, tc, hto, _, _, _, hcells⟩ := sl_ins hcode hn
      have q0 := hcells 0 _ rfl
      obtain ⟨m, hm⟩ := hs.int q0.2.2
      refine ld (at6f hs).cell ?_
      refine ix i rfl hlt ?_
      refine ld (q1 hs).cell ?_
      refine ix j rfl hltj ?_
      refine stU hs hm q0.1 q0.2.1 fun u' hs' => ?_
      refine int64 (by omega) (by omega) ?_
      exact ⟨j + 1, by omega, rfl, ⟨rfl, rfl, rfl, rfl, rfl, rfl, trivial⟩, hs'⟩
    · refine int64 (by omega) (by omega) ?_
      exact ⟨i + 1, by omega, rfl, ⟨rfl, rfl, rfl, rfl, rfl, trivial⟩, hs⟩
  have k0u : Kp [] w u := hs.kp k014 (by have := hk1.size; omega)
  have hb8l : hi ≤ b8 := by omega
  refine ldN [.int .i64 c.nat, .slice s1 c.shapes.length t1, .slice s2 c.funs.length t2, .slice s3 c.bodies.length t3, .slice s4 c.main.length t4] rfl (fun j v hj => by rw [Nat.zero_add]; exact hs.far (.inr hb8l) (hB8.cl hj)) ?_
  refine ldN [.int .i64 c.nat, .slice a1 c.shapes.length c1, .slice a2 c.funs.length c2, .slice a3 c.bodies.length c3, .slice a4 c.main.length c4] rfl (fun j v hj => by rw [Nat.zero_add]; exact hs.far (.inl (by omega)) (hB114.cl hj)) ?_
  refine ev_call (same20_ct (New.sub hi u) (hS.tr k0u) c (rCod.mono (fun b o v hv => ⟨by have := hv.1; omega, hs.farU (.inr (by have := hv.1; omega)) hv.2⟩) hd14) hc0) ?_
  rintro e w20 ⟨rfl, hk20⟩
  exact ⟨rfl, k0u.tr hk20⟩
end Go.Proofs.Ytjogpbiilokldaa
