/-
  Code: copies: Copy.
-/
import Derived.Test.YtjogpbiilokldaaCdZb
set_option linter.unusedSimpArgs false
set_option linter.unusedVariables false
namespace Go.Proofs.Ytjogpbiilokldaa
open Go.Wx Cd

/-- from n on, but not block p -/
def But (n p : Nat) (w : World) : Mem := fun b o v => n ≤ b ∧ b ≠ p ∧ Cu w.heap b o v

theorem copyO_ct {C : Mem} {w : World} (hS : Sub C w) {cs : List Value} {c : Cod} (hc : rCod.den C cs c) :
    CallOk Try.prog 19 ∧ Calls Try.prog 19 #[.agg cs.toArray] w (fun e w' => ∃ a1 c1 vf a3 c3 a4 c4, e = .returned (.agg #[.int .i64 c.nat, .slice a1 c.shapes.length c1, vf, .slice a3 c.bodies.length c3, .slice a4 c.main.length c4]) ∧
      Own rFn 48 w.heap.size w' vf c.funs ∧ Sl rShp (Dn w.heap.size vf w') a1 c.shapes ∧ Sl (rSl rIns) (Dn w.heap.size vf w') a3 c.bodies ∧ Sl rIns (Dn w.heap.size vf w') a4 c.main ∧ I64 c.nat ∧ Kp [] w w') := by
  refine ⟨⟨_, Try.func19, rfl, by decide⟩, ?_⟩
  obtain ⟨a1, c1, a2, c2, a3, c3, a4, c4, rfl, h1, h2, h3, h4, h5⟩ := hc
  have hfl := h2.1
  have hbl := h3.1
  have hml := h4.1
  refine calls_ev (args := [_]) 66 [.cell 2 28] Try.func19 rfl rfl rfl (Nat.le_of_ble_eq_true rfl) ?_
  refine ev_seq τok ?_
  refine new fun b1 w1 hb1 hB1 hs1 hk1 => ?_
  refine new fun b2 w2 hb2 hB2 hs2 hk2 => ?_
  have hB1 : Bk w2.heap b1 [.int .i64 c.nat, .slice a1 c.shapes.length c1, .slice a2 c.funs.length c2, .slice a3 c.bodies.length c3, .slice a4 c.main.length c4] 28 := Bk.kp hB1 hk2 (by simp)
  have hk02 := hk1.tr hk2
  refine ev_seq τok ?_
  refine ld (hB1.cl rfl).cell ?_
  refine ld (hB1.cl rfl).cell ?_
  refine ev_call (copyBared_ct (hS.tr hk02) c.shapes c.nat a1 c1 h1) ?_
  rintro e w3 ⟨ash, cp, x8, x14, rfl, hSs, hk3⟩
  refine new fun b3 w4 hb3 hB3 hs4 hk4 => ?_
  refine stN (vs := [.slice none 0 0, .slice ash c.shapes.length cp, .slice (some ⟨x8, 0, none⟩) 0 0, .int .i64 c.nat, .slice (some ⟨x14, 0, none⟩) 0 0]) hB3 rfl (by simp [Value.oneCell']) fun w5 hB3 hs5 hk5 => ?_
  have k35 : Kp [] w3 w5 := hk4.newSt hb3 hk5
  have k25 := hk3.tr k35
  have k05 := hk02.tr k25
  have hB1 := hB1.kp k25 (by simp)
  have hB2 := hB2.kp k25 (by simp)
  have hb2l := hB2.lt
  have hb1l := hB1.lt
  have hSs5 := hSs.mono (New.up (Nat.le_refl _) k35)
  refine ev_mid τok (fun x : Nat × Option Addr × Nat => [(1, .pointer (some ⟨b1, 0, none⟩)), (2, .pointer (some ⟨b2, 0, none⟩)), (4, .pointer (some ⟨x.1, 0, none⟩))])
    (fun x w' => Kp [] w5 w' ∧ Bk w'.heap x.1 [.int .i64 c.nat, .slice ash c.shapes.length cp, .slice none 0 0, .slice none 0 0, .slice x.2.1 c.main.length x.2.2] 28 ∧ w5.heap.size ≤ x.1 ∧ Sl rIns (But w5.heap.size x.1 w') x.2.1 c.main) ?_ ?_
  · have k0 : Kp [] w5 { w5 with drawn := w5.drawn + 1 } := (Kp.refl [] w5).dr _
    refine drawG τok (fun w' => Kp [] w5 w') ?_
    refine readsG τok [0, 1, 2, 3, 4, 5] 4 #[true, true, true, true, true, true, false, false, false, false] rfl rfl (by kernel_rfl) (by kernel_rfl) (by kernel_rfl) k0 ?_
    refine ldK (hB3.cl rfl) ?_
    refine ldK (hB3.cl rfl) ?_
    refine ldK (hB1.cl rfl) ?_
    refine twoG τok 6 8 3 #[true, true, true, true, true, true, true, false, false, false] #[true, true, true, true, true, true, false, false, true, false] rfl rfl rfl rfl rfl (by kernel_rfl) ?_ ?_
    · refine ev_call (copyBlock_ct ((hS.tr k05).tr k0) c.main a4 c4 h4) ?_
      rintro e u1 ⟨v, rfl, hO, hk6⟩
      have hk6 : Kp [] w5 u1 := hk6.rd
      have hO : Own rIns 45 w5.heap.size u1 v c.main := hO
      obtain ⟨am, cm, rfl, hSm⟩ := hO.den hml
      refine ⟨.inl hk6, ?_⟩
      refine readsG τok [7] 2 #[true, true, true, true, true, true, true, true, false, false] rfl rfl (by kernel_rfl) (by kernel_rfl) (by kernel_rfl) hk6 ?_
      refine nextG τok 8 1 #[true, true, true, true, true, true, true, true, true, false] rfl rfl rfl (by kernel_rfl) ?_
      refine new fun b4 u2 hb4 hB4 hs6 hk7 => ?_
      refine ⟨.inl (hk6.tr hk7), ?_⟩
      refine nextG τok 9 0 #[true, true, true, true, true, true, true, true, true, true] rfl rfl rfl (by kernel_rfl) ?_
      refine stN (vs := [.int .i64 c.nat, .slice ash c.shapes.length cp, .slice none 0 0, .slice none 0 0, .slice am c.main.length cm]) hB4 rfl (by simp [Value.oneCell']) fun u3 hB4 hs7 hk8 => ?_
      have z6 := hk6.size
      have kk : Kp [] w5 u3 := (hk6.tr hk7).trans hk8 (fun y hy hl => by simp at hy; omega)
      refine ⟨.inl kk, ?_⟩
      refine doneG (by kernel_rfl) ?_
      refine ⟨(b4, am, cm), rfl, ⟨rfl, rfl, rfl, trivial⟩, kk, hB4, by simp only; omega, hSm.mono fun b o u hu => ?_⟩
      have hlt := hu.2.lt
      have hne : b ≠ b4 := by omega
      exact ⟨hu.1, hne, (hu.2.kp hk7 (by simp)).kp hk8 (by simp; omega)⟩
    · refine new fun b4 u1 hb4 hB4 hs6 hk6 => ?_
      have hk6 : Kp [] w5 u1 := hk6.rd
      have hb4 : b4 = w5.heap.size := hb4
      refine ⟨.inl hk6, ?_⟩
      refine nextG τok 6 2 #[true, true, true, true, true, true, true, false, true, false] rfl rfl rfl (by kernel_rfl) ?_
      refine ev_call (copyBlock_ct ((hS.tr k05).tr hk6) c.main a4 c4 h4) ?_
      rintro e u2 ⟨v, rfl, hO, hk7⟩
      obtain ⟨am, cm, rfl, hSm⟩ := hO.den hml
      refine ⟨.inl (hk6.tr hk7), ?_⟩
      refine nextG τok 7 1 #[true, true, true, true, true, true, true, true, true, false] rfl rfl rfl (by kernel_rfl) ?_
      refine ⟨.inl (hk6.tr hk7), ?_⟩
      refine nextG τok 9 0 #[true, true, true, true, true, true, true, true, true, true] rfl rfl rfl (by kernel_rfl) ?_
      refine stN (vs := [.int .i64 c.nat, .slice ash c.shapes.length cp, .slice none 0 0, .slice none 0 0, .slice am c.main.length cm]) (hB4.kp hk7 (by simp)) rfl (by simp [Value.oneCell']) fun u3 hB4 hs7 hk8 => ?_
      have kk : Kp [] w5 u3 := (hk6.tr hk7).trans hk8 (fun y hy hl => by simp at hy; omega)
      refine ⟨.inl kk, ?_⟩
      refine doneG (by kernel_rfl) ?_
      refine ⟨(b4, am, cm), rfl, ⟨rfl, rfl, rfl, trivial⟩, kk, hB4, by simp only; omega, hSm.mono fun b o u hu => ?_⟩
      have hne : b ≠ b4 := by have := hu.1; omega
      exact ⟨by have := hu.1; omega, hne, hu.2.kp hk8 (by simpa using hne)⟩
  rintro ⟨b4, am, cm⟩ w6 ⟨k56, hB4, n4, hSm⟩
  simp only at hB4 n4 hSm
  refine ev_of τok ?_
  have k06 := k05.tr k56
  have hB1 := hB1.kp k56 (by simp)
  have hB2 := hB2.kp k56 (by simp)
  have hb4l := hB4.lt
  refine lp τok (σ := Nat × Value) (fun q => [(1, .pointer (some ⟨b1, 0, none⟩)), (2, .pointer (some ⟨b2, 0, none⟩)), (4, .pointer (some ⟨b4, 0, none⟩)), (5, .int .i64 q.1)])
    (fun q w' => q.1 ≤ c.funs.length ∧ Kp [b4] w6 w' ∧ Bk w'.heap b4 [.int .i64 c.nat, .slice ash c.shapes.length cp, q.2, .slice none 0 0, .slice am c.main.length cm] 28 ∧ Own rFn 48 w6.heap.size w' q.2 (c.funs.take q.1)) (fun q => c.funs.length - q.1) (0, .slice none 0 0) rfl
    ⟨rfl, rfl, rfl, rfl, trivial⟩ ⟨Nat.zero_le _, Kp.refl _ _, hB4, by simpa using Own.nil rFn 48 (Nat.le_refl _)⟩ ?_
  rintro ⟨k, vf⟩ w7 ⟨hk, hkp, hB4, hO⟩
  simp only at hk hB4 hO
  have own : ∀ {u}, Kp [b4] w6 u → Kp [] w u := fun k => k06.trans k (fun x hx hl => by simp at hx; have := k05.size; omega)
  have at1 : ∀ {u}, Kp [b4] w6 u → Bk u.heap b1 [.int .i64 c.nat, .slice a1 c.shapes.length c1, .slice a2 c.funs.length c2, .slice a3 c.bodies.length c3, .slice a4 c.main.length c4] 28 := fun k => hB1.kp k (by simp; omega)
  refine ld ((at1 hkp).cl rfl).cell ?_
  refine br_dec (fun g1 => ?_) (fun g1 => ?_)
  · have hlt : k < c.funs.length := by omega
    obtain ⟨f, hf, hd⟩ := drop_get hlt
    obtain ⟨b, o, rfl, af, cf, hcode, hp64, hcp, hcc⟩ := sl_fn h2 hf
    have hcl := hcode.1
    refine drawG τok (fun u => Kp [b4] w6 u ∧ Bk u.heap b4 [.int .i64 c.nat, .slice ash c.shapes.length cp, vf, .slice none 0 0, .slice am c.main.length cm] 28) ?_
    refine readsG τok [0, 1, 2, 3, 4, 5, 6, 7, 8, 9, 10, 11, 12, 13] 6 #[true, true, true, true, true, true, true, true, true, true, true, true, true, true, false, false, false, false, false, false] rfl rfl (by kernel_rfl) (by kernel_rfl) (by kernel_rfl) ⟨hkp.dr _, hB4⟩ ?_
    refine ldQ (fun w' h => h.2.cl rfl) ?_
    refine ldQ (fun w' h => (at1 h.1).cl rfl) ?_
    refine ix k rfl hlt ?_
    refine ldQ (fun w' h => (hS.tr (own h.1)) _ _ _ hcp) ?_
    refine ldQ (fun w' h => (at1 h.1).cl rfl) ?_
    refine ix k rfl hlt ?_
    refine ldQ (fun w' h => (hS.tr (own h.1)) _ _ _ hcc) ?_
    refine nextG τok 14 5 #[true, true, true, true, true, true, true, true, true, true, true, true, true, true, true, false, false, false, false, false] rfl rfl rfl (by kernel_rfl) ?_
    refine ev_call (copyBlock_ct (hS.tr (own (hkp.dr _))) f.code af cf hcode) ?_
    rintro e w8 ⟨v8, rfl, hO8, hk8⟩
    have hk8 : Kp [] w7 w8 := hk8.rd
    have hO8 : Own rIns 45 w7.heap.size w8 v8 f.code := hO8
    obtain ⟨a8, c8, rfl, hS8⟩ := hO8.den hcl
    refine ⟨.inl ⟨hkp.tr hk8, hB4.kp hk8 (by simp)⟩, ?_⟩
    refine nextG τok 15 4 #[true, true, true, true, true, true, true, true, true, true, true, true, true, true, true, true, false, false, false, false] rfl rfl rfl (by kernel_rfl) ?_
    refine ⟨.inl ⟨hkp.tr hk8, hB4.kp hk8 (by simp)⟩, ?_⟩
    refine nextG τok 16 3 #[true, true, true, true, true, true, true, true, true, true, true, true, true, true, true, true, true, false, false, false] rfl rfl rfl (by kernel_rfl) ?_
    refine fill [.int .i64 f.caps, .slice a8 f.code.length c8] rfl ?_
    refine new fun b9 w9 hb9 hB9 hs9 hk9 => ?_
    have k79 := hk8.tr hk9
    refine ⟨.inl ⟨hkp.tr k79, hB4.kp k79 (by simp)⟩, ?_⟩
    refine nextG τok 17 2 #[true, true, true, true, true, true, true, true, true, true, true, true, true, true, true, true, true, true, false, false] rfl rfl rfl (by kernel_rfl) ?_
    have hblk := hO.block
    have htk : c.funs.take (k + 1) = c.funs.take k ++ [f] := take_get hf
    have htl' : (c.funs.take k).length = k := by simp; omega
    refine (hO.kp k79).ap1 τok rfl rfl (by decide) f [.int .i64 f.caps, .slice a8 f.code.length c8] ⟨a8, c8, rfl, hS8.mono fun b o u hu => ⟨?_, ?_, hu.2.kp hk9 (by simp)⟩, hp64⟩ (fun j u hj => by rw [Nat.zero_add]; exact hB9.cl hj) (by rw [htl']; omega) (by rw [htl']; simp only [maxLen]; omega) fun v10 w10 hO10 hk10 _ => ?_
    · have := hu.1; have := hO.low; omega
    · intro e; have := (hblk b e.symm).2; have := hu.1; omega
    have hB410 : Bk w10.heap b4 [.int .i64 c.nat, .slice ash c.shapes.length cp, vf, .slice none 0 0, .slice am c.main.length cm] 28 := (hB4.kp k79 (by simp)).kp hk10 (by
      intro hm
      have hm : vf.ownBlock = some b4 := by simpa using hm
      have := (hblk b4 hm).1
      omega)
    have k610 : Kp [b4] w6 w10 := (hkp.tr k79).trans hk10 (fun y hy hl => by
      have hy : vf.ownBlock = some y := by simpa using hy
      have := (hblk y hy).1
      omega)
    refine ⟨.inl ⟨k610, hB410⟩, ?_⟩
    refine nextG τok 18 1 #[true, true, true, true, true, true, true, true, true, true, true, true, true, true, true, true, true, true, true, false] rfl rfl rfl (by kernel_rfl) ?_
    refine ⟨.inl ⟨k610, hB410⟩, ?_⟩
    refine nextG τok 19 0 #[true, true, true, true, true, true, true, true, true, true, true, true, true, true, true, true, true, true, true, true] rfl rfl rfl (by kernel_rfl) ?_
    have hone : v10.oneCell' = true := by
      obtain ⟨a13, c13, e⟩ := hO10.len
      rw [e]
      rfl
    refine st (b := b4) (o := 2) hB410 (by simp) hone fun w11 hB411 hs11 hk11 => ?_
    refine ⟨.inr (by kernel_rfl), ?_⟩
    refine doneG (by kernel_rfl) ?_
    refine int64 (by (try simp only); omega) (by (try simp only); omega) ?_
    refine ⟨(k + 1, v10), by simp only; omega, rfl, ⟨rfl, rfl, rfl, rfl, trivial⟩, hlt, k610.trans hk11 (fun y hy hl => hy), hB411, ?_⟩
    rw [htk]
    exact hO10.kpl hk11 (by simp; omega)
  rw [List.take_of_length_le (by omega)] at hO
  have hOf := hO
  obtain ⟨af, cf, rfl, hSf⟩ := hO.den hfl
  have hbk := hOf.block
  refine lp τok (σ := Nat × Value) (fun q => [(1, .pointer (some ⟨b1, 0, none⟩)), (2, .pointer (some ⟨b2, 0, none⟩)), (4, .pointer (some ⟨b4, 0, none⟩)), (6, .int .i64 q.1)])
    (fun q w' => q.1 ≤ c.bodies.length ∧ Kp [b4] w7 w' ∧ Bk w'.heap b4 [.int .i64 c.nat, .slice ash c.shapes.length cp, .slice af c.funs.length cf, q.2, .slice am c.main.length cm] 28 ∧ Own (rSl rIns) 26 w7.heap.size w' q.2 (c.bodies.take q.1)) (fun q => c.bodies.length - q.1) (0, .slice none 0 0) rfl
    ⟨rfl, rfl, rfl, rfl, trivial⟩ ⟨Nat.zero_le _, Kp.refl _ _, hB4, by simpa using Own.nil (rSl rIns) 26 (Nat.le_refl _)⟩ ?_
  have k67 := hkp
  have z67 := k67.size
  clear hO hB4
  rintro ⟨k, vb⟩ w8 ⟨hk, hkp, hB4, hO⟩
  simp only at hk hB4 hO
  have own7 : ∀ {u}, Kp [b4] w7 u → Kp [b4] w6 u := fun k => k67.trans k (fun x hx hl => hx)
  refine ld ((at1 (own7 hkp)).cl rfl).cell ?_
  refine br_dec (fun g2 => ?_) (fun g2 => ?_)
  · have hlt : k < c.bodies.length := by have : (k : Int) < c.bodies.length := g2
                                         omega
    obtain ⟨x, hx, hd⟩ := drop_get hlt
    obtain ⟨b, o, rfl, ax, cx, hcell, hcode⟩ := h3.sl hx
    have hcl := hcode.1
    refine drawG τok (fun u => Kp [b4] w7 u ∧ Bk u.heap b4 [.int .i64 c.nat, .slice ash c.shapes.length cp, .slice af c.funs.length cf, vb, .slice am c.main.length cm] 28) ?_
    refine readsG τok [0, 1, 2, 3, 4, 5, 6] 5 #[true, true, true, true, true, true, true, false, false, false, false, false] rfl rfl (by kernel_rfl) (by kernel_rfl) (by kernel_rfl) ⟨hkp.dr _, hB4⟩ ?_
    refine ldQ (fun w' h => h.2.cl rfl) ?_
    refine ldQ (fun w' h => (at1 (own7 h.1)).cl rfl) ?_
    refine ix k rfl hlt ?_
    refine ldQ (fun w' h => (hS.tr (own (own7 h.1))) _ _ _ hcell) ?_
    refine nextG τok 7 4 #[true, true, true, true, true, true, true, true, false, false, false, false] rfl rfl rfl (by kernel_rfl) ?_
    refine ev_call (copyBlock_ct (hS.tr (own (own7 (hkp.dr _)))) x ax cx hcode) ?_
    rintro e w9 ⟨v9, rfl, hO9, hk9⟩
    have hk9 : Kp [] w8 w9 := hk9.rd
    have hO9 : Own rIns 45 w8.heap.size w9 v9 x := hO9
    obtain ⟨a9, c9, rfl, hS9⟩ := hO9.den hcl
    refine ⟨.inl ⟨hkp.tr hk9, hB4.kp hk9 (by simp)⟩, ?_⟩
    refine nextG τok 8 3 #[true, true, true, true, true, true, true, true, true, false, false, false] rfl rfl rfl (by kernel_rfl) ?_
    refine fill [.slice a9 x.length c9] rfl ?_
    refine new fun b10 w10 hb10 hB10 hs10 hk10 => ?_
    have k810 := hk9.tr hk10
    refine ⟨.inl ⟨hkp.tr k810, hB4.kp k810 (by simp)⟩, ?_⟩
    refine nextG τok 9 2 #[true, true, true, true, true, true, true, true, true, true, false, false] rfl rfl rfl (by kernel_rfl) ?_
    have hblk := hO.block
    have htk : c.bodies.take (k + 1) = c.bodies.take k ++ [x] := take_get hx
    have htl' : (c.bodies.take k).length = k := by simp; omega
    refine (hO.kp k810).ap1 τok rfl rfl (by decide) x [.slice a9 x.length c9] ⟨a9, c9, rfl, hS9.mono fun b o u hu => ⟨?_, ?_, hu.2.kp hk10 (by simp)⟩⟩ (fun j u hj => by rw [Nat.zero_add]; exact hB10.cl hj) (by rw [htl']; omega) (by rw [htl']; simp only [maxLen]; omega) fun v11 w11 hO11 hk11 _ => ?_
    · have := hu.1; have := hO.low; omega
    · intro e; have := (hblk b e.symm).2; have := hu.1; omega
    have hB411 : Bk w11.heap b4 [.int .i64 c.nat, .slice ash c.shapes.length cp, .slice af c.funs.length cf, vb, .slice am c.main.length cm] 28 := (hB4.kp k810 (by simp)).kp hk11 (by
      intro hm
      have hm : vb.ownBlock = some b4 := by simpa using hm
      have := (hblk b4 hm).1
      omega)
    have k711 : Kp [b4] w7 w11 := (hkp.tr k810).trans hk11 (fun y hy hl => by
      have hy : vb.ownBlock = some y := by simpa using hy
      have := (hblk y hy).1
      omega)
    refine ⟨.inl ⟨k711, hB411⟩, ?_⟩
    refine nextG τok 10 1 #[true, true, true, true, true, true, true, true, true, true, true, false] rfl rfl rfl (by kernel_rfl) ?_
    refine ⟨.inl ⟨k711, hB411⟩, ?_⟩
    refine nextG τok 11 0 #[true, true, true, true, true, true, true, true, true, true, true, true] rfl rfl rfl (by kernel_rfl) ?_
    have hone : v11.oneCell' = true := by
      obtain ⟨a13, c13, e⟩ := hO11.len
      rw [e]
      rfl
    refine st (b := b4) (o := 3) hB411 (by simp) hone fun w12 hB412 hs12 hk12 => ?_
    refine ⟨.inr (by kernel_rfl), ?_⟩
    refine doneG (by kernel_rfl) ?_
    refine int64 (by (try simp only); omega) (by (try simp only); omega) ?_
    refine ⟨(k + 1, v11), by simp only; omega, rfl, ⟨rfl, rfl, rfl, rfl, trivial⟩, hlt, k711.trans hk12 (fun y hy hl => hy), hB412, ?_⟩
    rw [htk]
    exact hO11.kpl hk12 (by simp; omega)
  have hke : ¬ (k : Int) < c.bodies.length := g2
  rw [List.take_of_length_le (by omega)] at hO
  obtain ⟨ab, cb, rfl, hSb⟩ := hO.den hbl
  refine ldN [.int .i64 c.nat, .slice ash c.shapes.length cp, .slice af c.funs.length cf, .slice ab c.bodies.length cb, .slice am c.main.length cm] rfl (fun j v hj => by rw [Nat.zero_add]; exact hB4.cl hj) ?_
  have k68 := own7 hkp
  have hB28 := hB2.kp k68 (by simp; omega)
  refine stN (vs := [.int .i64 c.nat, .slice ash c.shapes.length cp, .slice af c.funs.length cf, .slice ab c.bodies.length cb, .slice am c.main.length cm]) hB28 rfl (by simp [Value.oneCell']) fun w9 hB9 hs9 hk9 => ?_
  refine resN τok rfl [.int .i64 c.nat, .slice ash c.shapes.length cp, .slice af c.funs.length cf, .slice ab c.bodies.length cb, .slice am c.main.length cm] rfl (fun j v hj => hB9.cl hj) ?_
  have z2 := hk02.size
  have z5 := k25.size
  have z6 := k56.size
  have z1 := hk1.size
  have hOf9 : Own rFn 48 w.heap.size w9 (.slice af c.funs.length cf) c.funs := ((hOf.kpl hkp (by simp; omega)).kpl hk9 (by simp; omega)).low' (by omega)
  have z7 := hkp.size
  refine ⟨ash, cp, _, ab, cb, am, cm, rfl, hOf9, hSs5.mono fun b o u hu => ?_, hSb.mono fun b o u hu => ?_, hSm.mono fun b o u hu => ?_, h5, (own k68).trans hk9 (fun y hy hl => by simp at hy; omega)⟩
  · have := hu.1
    have := hu.2.lt
    exact ⟨by omega, fun e => by have := hbk b e.symm; omega, ((hu.2.kp k56 (by simp)).kp k68 (by simp; omega)).kp hk9 (by simp; omega)⟩
  · have := hu.1
    exact ⟨by omega, fun e => by have := hbk b e.symm; omega, hu.2.kp hk9 (by simp; omega)⟩
  · have := hu.1
    have := hu.2.1
    have := hu.2.2.lt
    exact ⟨by omega, fun e => by have := hbk b e.symm; omega, (hu.2.2.kp k68 (by simp; omega)).kp hk9 (by simp; omega)⟩

theorem copy_ct {C : Mem} {w : World} (hS : Sub C w) {cs : List Value} {c : Cod} (hc : rCod.den C cs c) :
    CallOk Try.prog 19 ∧ Calls Try.prog 19 #[.agg cs.toArray] w (fun e w' => ∃ cs', e = .returned (.agg cs'.toArray) ∧ rCod.den (New w.heap.size w') cs' c ∧ Kp [] w w') := by
  have hfl : c.funs.length ≤ 1099511627776 := by
    obtain ⟨_, _, _, _, _, _, _, _, _, _, h2, _⟩ := hc
    exact h2.1
  obtain ⟨h1, h2⟩ := copyO_ct hS hc
  refine ⟨h1, h2.mono fun e w' ⟨a1, c1, vf, a3, c3, a4, c4, he, hO, g1, g3, g4, g5, hk⟩ => ?_⟩
  obtain ⟨a2, c2, rfl, g2⟩ := hO.den hfl
  have up : ∀ b o v, Dn w.heap.size (.slice a2 c.funs.length c2) w' b o v → New w.heap.size w' b o v := fun b o v h => ⟨h.1, h.2.2⟩
  exact ⟨_, he, ⟨a1, c1, a2, c2, a3, c3, a4, c4, rfl, g1.mono up, g2, g3.mono up, g4.mono up, g5⟩, hk⟩
end Go.Proofs.Ytjogpbiilokldaa
