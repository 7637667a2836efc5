/-
  Code: CodeAlone.
-/
import Derived.Test.YtjogpbiilokldaaCdZi
set_option linter.unusedSimpArgs false
set_option linter.unusedVariables false
namespace Go.Proofs.Ytjogpbiilokldaa
open Go.Wx Cd

/-- a function whose code reads over a set of cells that is fixed -/
def rFnO (C0 : Mem) : Rd Cd.Fn where
  sz := 2
  den _ cs x := ∃ a cap, cs = [.int .i64 x.caps, .slice a x.code.length cap] ∧ Sl rIns C0 a x.code ∧ I64 x.caps
  len := by rintro C cs x ⟨a, cap, rfl, _⟩; rfl
  mono := by rintro C C' cs x hc h; exact h
  one := by rintro C cs x ⟨a, cap, rfl, _⟩ u hu; simp at hu; rcases hu with rfl | rfl <;> rfl

theorem boxI_sl {C : Mem} {b : Nat} (h : ∀ j v, ([[.int .i64 1, .int .i64 0, .int .i64 0, .slice none 0 0, .int .i64 6, .int .i64 0, .int .i64 0, .slice none 0 0]].flatten : List Value)[j]? = some v → C b (0 + j) v) : Sl rIns C (some ⟨b, 0, none⟩) boxI := by
  refine ⟨by simp [boxI], .inr ⟨b, 0, rfl, fun i x hi => ?_⟩⟩
  match i with
  | 0 =>
    simp [boxI] at hi
    subst hi
    refine ⟨_, ⟨none, 0, rfl, Sl.nil _ _ _, by simp [I64], by simp [I64], by simp [I64]⟩, fun j v hj => ?_⟩
    have : j < 4 := by have := get_lt hj; simpa using this
    have h' := h j v (by
      match j with
      | 0 | 1 | 2 | 3 => exact hj
      | j + 4 => omega)
    simpa [rIns] using h'
  | 1 =>
    simp [boxI] at hi
    subst hi
    refine ⟨_, ⟨none, 0, rfl, Sl.nil _ _ _, by simp [I64], by simp [I64], by simp [I64]⟩, fun j v hj => ?_⟩
    have : j < 4 := by have := get_lt hj; simpa using this
    have h' := h (4 + j) v (by
      match j with
      | 0 | 1 | 2 | 3 => exact hj
      | j + 4 => omega)
    simpa [rIns, Nat.add_assoc] using h'
  | i + 2 => simp [boxI] at hi

theorem Sl.rd {α : Type} {R R' : Rd α} {C C' : Mem} {a : Option Addr} {l : List α} (h : Sl R C a l) (hz : R'.sz = R.sz) (hr : ∀ cs x, R.den C cs x → R'.den C' cs x) (hc : ∀ b o v, C b o v → C' b o v) : Sl R' C' a l := by
  refine ⟨h.1, ?_⟩
  rcases h.2 with h0 | ⟨b, o, h1, h2⟩
  · exact .inl h0
  · refine .inr ⟨b, o, h1, fun i x hx => ?_⟩
    obtain ⟨cs, g1, g2⟩ := h2 i x hx
    exact ⟨cs, hr _ _ g1, fun j v hj => by rw [hz]; exact hc _ _ _ (g2 j v hj)⟩

set_option maxRecDepth 20000 in
theorem codeAlone_ct {C : Mem} {w : World} (hS : Sub C w) {cs cs2 : List Value} {c : Cod} {f : Cd.Fn} (hc : rCod.den C cs c) (hf : rFn.den C cs2 f) :
    Calls Try.prog 7 #[.agg cs.toArray, .agg cs2.toArray] w (fun e w' => e = .returned (.bool true) ∧ Kp [] w w') := by
  have hc0 := hc
  obtain ⟨a1, c1, a2, c2, a3, c3, a4, c4, rfl, h1, h2, h3, h4, h5⟩ := hc
  obtain ⟨am, cm, rfl, hm1, hm2⟩ := hf
  refine calls_ev (args := [_, _]) 126 [.tmp 4] Try.func7 rfl rfl rfl (Nat.le_of_ble_eq_true rfl) ?_
  refine ev_seq τok ?_
  refine new fun b1 w1 hb1 hB1 hs1 hk1 => ?_
  refine new fun b2 w2 hb2 hB2 hs2 hk2 => ?_
  have hB1 : Bk w2.heap b1 [.int .i64 c.nat, .slice a1 c.shapes.length c1, .slice a2 c.funs.length c2, .slice a3 c.bodies.length c3, .slice a4 c.main.length c4] 28 := Bk.kp hB1 hk2 (by simp)
  have hB2 : Bk w2.heap b2 [.int .i64 f.caps, .slice am f.code.length cm] 48 := hB2
  have k02 := hk1.tr hk2
  refine ev_seq τok ?_
  refine ev_call (awake_ct w2) ?_
  rintro e w3 ⟨rfl, hk3⟩
  have k03 := k02.tr hk3
  refine ev_seq τok ?_
  refine ldN [.int .i64 c.nat, .slice a1 c.shapes.length c1, .slice a2 c.funs.length c2, .slice a3 c.bodies.length c3, .slice a4 c.main.length c4] rfl (fun j v hj => by rw [Nat.zero_add]; exact (hB1.kp hk3 (by simp)).cl hj) ?_
  refine ev_call (long_ct (hS.tr k03) hc0) ?_
  rintro e w4 ⟨b, rfl, hk4⟩
  have k24 := hk3.tr hk4
  have k04 := k02.tr k24
  have hB1 := hB1.kp k24 (by simp)
  have hB2 := hB2.kp k24 (by simp)
  refine br (fun g1 => ?_) (fun g1 => ?_)
  · exact ⟨rfl, k04⟩
  refine ld (hB1.cl rfl).cell ?_
  refine br_dec (fun g2 => ?_) (fun g2 => ?_)
  · exact ⟨rfl, k04⟩
  refine ld (hB2.cl rfl).cell ?_
  refine br_dec (fun g3 => ?_) (fun g3 => ?_)
  · exact ⟨rfl, k04⟩
  have g3 : f.code.length ≤ 500 := by omega
  have g2 : c.funs.length ≤ 100 := by omega
  refine ev_seq τok ?_
  refine fill [.int .i64 1, .int .i64 0, .int .i64 0, .slice none 0 0, .int .i64 6, .int .i64 0, .int .i64 0, .slice none 0 0] rfl ?_
  refine new fun b5 w5 hb5 hB5 hs5 hk5 => ?_
  have k05 := k04.tr hk5
  have hB1 := hB1.kp hk5 (by simp)
  have hB2 := hB2.kp hk5 (by simp)
  refine ev_seq τok ?_
  refine ldN [.int .i64 c.nat, .slice a1 c.shapes.length c1, .slice a2 c.funs.length c2, .slice a3 c.bodies.length c3, .slice a4 c.main.length c4] rfl (fun j v hj => by rw [Nat.zero_add]; exact hB1.cl hj) ?_
  obtain ⟨E, hE⟩ : ∃ e, checkM c = e := ⟨_, rfl⟩
  have ct := check_ct (hS.tr k05) hc0
  rw [hE] at ct
  refine ev_call ct ?_
  rintro e w6 ⟨rfl, hk6⟩
  have k06 := k05.tr hk6
  have hB1 := hB1.kp hk6 (by simp)
  have hB2 := hB2.kp hk6 (by simp)
  have hB5 := hB5.kp hk6 (by simp)
  refine ev_seq τok ?_
  refine br_dec (fun g4 => ?_) (fun g4 => ?_)
  · exact ⟨rfl, k06⟩
  have g4 : ¬ checkM c = 5 := by rw [hE]; exact g4
  obtain ⟨hlen, hcaps, _⟩ := not5 g4
  refine ev_seq τok ?_
  refine ldN [.int .i64 c.nat, .slice a1 c.shapes.length c1, .slice a2 c.funs.length c2, .slice a3 c.bodies.length c3, .slice a4 c.main.length c4] rfl (fun j v hj => by rw [Nat.zero_add]; exact hB1.cl hj) ?_
  refine ev_call (copyO_ct (hS.tr k06) hc0) ?_
  rintro e w7 ⟨x1, y1, vf, x3, y3, x4, y4, rfl, hO, hs1', hs3', hs4', _, hk7⟩
  refine new fun b7 w8 hb7 hB7 hs8 hk8 => ?_
  obtain ⟨x2, y2, rfl⟩ := hO.len
  refine stN (vs := [.int .i64 c.nat, .slice x1 c.shapes.length y1, .slice x2 c.funs.length y2, .slice x3 c.bodies.length y3, .slice x4 c.main.length y4]) hB7 rfl (by simp [Value.oneCell']) fun w9 hB7 hs9 hk9 => ?_
  have k79 : Kp [] w7 w9 := hk8.newSt hb7 hk9
  have k69 := hk7.tr k79
  have k09 := k06.tr k69
  have hB1 := hB1.kp k69 (by simp)
  have hB2 := hB2.kp k69 (by simp)
  have hB5 := hB5.kp k69 (by simp)
  obtain ⟨n, hn⟩ : ∃ n, n = w.heap.size := ⟨_, rfl⟩
  have z4 := k04.size
  have z5 := hk5.size
  have z6 := hk6.size
  have z7 := hk7.size
  have z9 := k79.size
  have z2 := k02.size
  have z24 := k24.size
  refine ev_seq τok ?_
  refine st hB7 (by simp) rfl fun w10 hB7 hs10 hk10 => ?_
  have hB7 : Bk w10.heap b7 [.int .i64 c.nat, .slice x1 c.shapes.length y1, .slice x2 c.funs.length y2, .slice x3 c.bodies.length y3, .slice (some ⟨b5, 0, none⟩) 2 2] 28 := hB7
  have k010 : Kp [] w w10 := k09.trans hk10 (fun y hy hl => by simp at hy; omega)
  have hB1 := hB1.kp hk10 (by simp; omega)
  have hB2 := hB2.kp hk10 (by simp; omega)
  have hB5 := hB5.kp hk10 (by simp; omega)
  have up : ∀ b o u, Dn w6.heap.size (.slice x2 c.funs.length y2) w7 b o u → New n w10 b o u := fun b o u hu => ⟨by have := hu.1; omega, (hu.2.2.kp k79 (by simp)).kp hk10 (by have := hu.2.2.lt; simp; omega)⟩
  have hbx10 : Sl rIns (New n w10) (some ⟨b5, 0, none⟩) boxI := boxI_sl fun j v hj => ⟨by omega, by rw [Nat.zero_add]; exact hB5.cu (by simpa using hj)⟩
  have hf10 : Sl rFn (New n w10) x2 c.funs := by
    obtain ⟨p2, q2, e2, hs2⟩ := hO.den (by omega)
    cases e2
    exact hs2.mono fun b o u hu => ⟨by have := hu.1; omega, (hu.2.kp k79 (by simp)).kp hk10 (by have := hu.2.lt; simp; omega)⟩
  have hd10 : rCod.den (New n w10) [.int .i64 c.nat, .slice x1 c.shapes.length y1, .slice x2 c.funs.length y2, .slice x3 c.bodies.length y3, .slice (some ⟨b5, 0, none⟩) 2 2] { c with main := boxI } :=
    ⟨x1, y1, x2, y2, x3, y3, some ⟨b5, 0, none⟩, 2, rfl, hs1'.mono up, hf10, hs3'.mono up, hbx10, h5⟩
  refine ev_seq τok ?_
  refine ldN [.int .i64 c.nat, .slice x1 c.shapes.length y1, .slice x2 c.funs.length y2, .slice x3 c.bodies.length y3, .slice (some ⟨b5, 0, none⟩) 2 2] rfl (fun j v hj => by rw [Nat.zero_add]; exact hB7.cl hj) ?_
  have ct1 := check_ct (New.sub _ w10) hd10
  have hF1 : E = 0 → checkM { c with main := boxI } = 0 := fun h => alone_main (hE.trans h)
  generalize checkM { c with main := boxI } = F1 at ct1 hF1
  refine ev_call ct1 ?_
  rintro e w11 ⟨rfl, hk11⟩
  have k011 := k010.tr hk11
  have hB1 := hB1.kp hk11 (by simp)
  have hB2 := hB2.kp hk11 (by simp)
  have hB5 := hB5.kp hk11 (by simp)
  have hB7 := hB7.kp hk11 (by simp)
  refine ev_mid τok (fun _ : Unit => [(2, .pointer (some ⟨b1, 0, none⟩)), (3, .pointer (some ⟨b2, 0, none⟩)), (5, .slice (some ⟨b5, 0, none⟩) 2 2), (6, .int .i64 E), (7, .pointer (some ⟨b7, 0, none⟩))]) (fun _ w' => w11 = w') ?_ ?_
  · refine br_dec (fun q1 => ?_) (fun q1 => ?_)
    · have q1 : E = 0 := q1
      rw [hF1 q1]
      exact ⟨(), rfl, ⟨rfl, rfl, rfl, rfl, rfl, trivial⟩, rfl⟩
    · exact ⟨(), rfl, ⟨rfl, rfl, rfl, rfl, rfl, trivial⟩, rfl⟩
  rintro ⟨⟩ _ rfl
  -- the functions' blocks
  have hb7l := hB7.lt
  have hb5l := hB5.lt
  obtain ⟨lo, hlo⟩ : ∃ lo, lo = w11.heap.size := ⟨_, rfl⟩
  refine ev_seq τok ?_
  refine ldN [.int .i64 c.nat, .slice a1 c.shapes.length c1, .slice a2 c.funs.length c2, .slice a3 c.bodies.length c3, .slice a4 c.main.length c4] rfl (fun j v hj => by rw [Nat.zero_add]; exact hB1.cl hj) ?_
  refine ev_call (copyO_ct (hS.tr k011) hc0) ?_
  clear hO hs1' hs3' hs4' hd10 hf10 up
  rintro e w12 ⟨x1, y1, vf, x3, y3, x4, y4, rfl, hO, hs1', hs3', hs4', _, hk12⟩
  rw [← hlo] at hO hs1' hs3' hs4'
  obtain ⟨x2, y2, rfl⟩ := hO.len
  refine stN (vs := [.int .i64 c.nat, .slice x1 c.shapes.length y1, .slice x2 c.funs.length y2, .slice x3 c.bodies.length y3, .slice x4 c.main.length y4]) (hB7.kp hk12 (by simp)) rfl (by simp [Value.oneCell']) fun w13 hB7 hs13 hk13 => ?_
  have k1113 : Kp [b7] w11 w13 := (hk12.weak (by simp)).trans hk13 (fun x hx _ => hx)
  have hO := hO.kpl hk13 (by simp; omega)
  have up : ∀ b o u, Dn lo (.slice x2 c.funs.length y2) w12 b o u → Dn lo (.slice x2 c.funs.length y2) w13 b o u := fun b o u hu => ⟨hu.1, hu.2.1, hu.2.2.kp hk13 (by have := hu.1; simp; omega)⟩
  refine ev_seq τok ?_
  refine lp τok (σ := Nat) (fun i => [(2, .pointer (some ⟨b1, 0, none⟩)), (3, .pointer (some ⟨b2, 0, none⟩)), (5, .slice (some ⟨b5, 0, none⟩) 2 2), (6, .int .i64 E), (7, .pointer (some ⟨b7, 0, none⟩)), (9, .int .i64 i)])
    (fun i u => i ≤ c.funs.length ∧ Kp [b7] w11 u ∧ Bk u.heap b7 [.int .i64 c.nat, .slice x1 c.shapes.length y1, .slice x2 c.funs.length y2, .slice x3 c.bodies.length y3, .slice x4 c.main.length y4] 28 ∧
      Own rFn 48 lo u (.slice x2 c.funs.length y2) ((c.funs.take i).map boxF ++ c.funs.drop i) ∧ ∀ b o v, Dn lo (.slice x2 c.funs.length y2) w12 b o v → Dn lo (.slice x2 c.funs.length y2) u b o v) (fun i => c.funs.length - i) 0 rfl
    ⟨rfl, rfl, rfl, rfl, rfl, rfl, trivial⟩ ⟨Nat.zero_le _, k1113, hB7, by simpa using hO, up⟩ ?_
  clear hO hB7
  rintro i w14 ⟨hi, k14, hB7, hO, up⟩
  refine ld (hB7.cl rfl).cell ?_
  have hll : ((c.funs.take i).map boxF ++ c.funs.drop i).length = c.funs.length := by simp; omega
  refine br_dec (fun q1 => ?_) (fun q1 => ?_)
  · have hlt : i < c.funs.length := by omega
    obtain ⟨x, hx, hxd⟩ := drop_get hlt
    have hxc := hcaps x (List.mem_of_getElem? hx)
    have hget : ((c.funs.take i).map boxF ++ c.funs.drop i)[i]? = some x := by
      rw [List.getElem?_append_right (by simp; omega)]
      simp [List.length_take, Nat.min_eq_left (Nat.le_of_lt hlt), hx]
    obtain ⟨p2, q2, e2, hS14⟩ := hO.den (by omega)
    have e2' : x2 = p2 := by injection e2
    subst e2'
    obtain ⟨bf, of, e3, af, cf, hcode, _, hcp, hcc⟩ := sl_fn hS14 hget
    subst e3
    refine lp τok (σ := Nat) (fun k => [(2, .pointer (some ⟨b1, 0, none⟩)), (3, .pointer (some ⟨b2, 0, none⟩)), (5, .slice (some ⟨b5, 0, none⟩) 2 2), (6, .int .i64 E), (7, .pointer (some ⟨b7, 0, none⟩)), (9, .int .i64 i), (10, .slice none 0 0), (11, .int .i64 k)])
      (fun k u => w14 = u) (fun k => 256 - k) 0 rfl ⟨rfl, rfl, rfl, rfl, rfl, rfl, rfl, rfl, trivial⟩ rfl ?_
    rintro k _ rfl
    refine ld (hB7.cl rfl).cell ?_
    refine ix i rfl hlt ?_
    refine ld hcp.2.cl.cell ?_
    refine int64 (by omega) (by omega) ?_
    refine br_dec (fun q2 => ?_) (fun q2 => ?_)
    · have q2 : (k : Int) < x.caps + 1 := q2
      refine ld (hB7.cl rfl).cell ?_
      refine ix i rfl hlt ?_
      refine ld hcp.2.cl.cell ?_
      refine br_dec (fun q3 => ?_) (fun q3 => ?_)
      · refine int64 (by omega) (by omega) ?_
        exact ⟨k + 1, by omega, rfl, ⟨rfl, rfl, rfl, rfl, rfl, rfl, rfl, rfl, trivial⟩, rfl⟩
      · have q3 : ¬ x.caps < 256 := q3
        omega
    -- the block is put in
    have z14 := k14.size
    have hS5 : ∀ {u}, Kp [b7] w11 u → Bk u.heap b5 [.int .i64 1, .int .i64 0, .int .i64 0, .slice none 0 0, .int .i64 6, .int .i64 0, .int .i64 0, .slice none 0 0] 45 := fun k => hB5.kp k (by simp; omega)
    refine drawG τok (fun u => Cl u.heap b7 2 (.slice (some ⟨bf, of, none⟩) c.funs.length y2)) ?_
    refine readsG τok [0, 1, 2, 3, 4] 4 #[true, true, true, true, true, false, false, false, false] rfl rfl (by kernel_rfl) (by kernel_rfl) (by kernel_rfl) (hB7.cl rfl) ?_
    refine ldQ (fun u h => h) ?_
    refine nextG τok 5 3 #[true, true, true, true, true, true, false, false, false] rfl rfl rfl (by kernel_rfl) ?_
    refine (Own.nil rIns 45 (lo := w14.heap.size) (w := { w14 with drawn := w14.drawn + 1 }) (Nat.le_refl _)).ap τok rfl rfl (by decide) boxI [[.int .i64 1, .int .i64 0, .int .i64 0, .slice none 0 0], [.int .i64 6, .int .i64 0, .int .i64 0, .slice none 0 0]] rfl
      ⟨⟨none, 0, rfl, Sl.nil _ _ _, by simp [I64], by simp [I64], by simp [I64]⟩, ⟨none, 0, rfl, Sl.nil _ _ _, by simp [I64], by simp [I64], by simp [I64]⟩, trivial⟩ (.inr ⟨b5, 0, rfl, fun m y j u hm hj => ?_⟩) (by decide) (by decide) fun v15 w15 hO15 hk15 _ => ?_
    · have hb := hS5 k14
      match m with
      | 0 =>
        simp at hm
        subst hm
        refine (hb.cl ?_ : Cl w14.heap b5 (0 + 0 * 4 + j) u)
        match j with
        | 0 | 1 | 2 | 3 => exact hj
        | j + 4 => simp at hj
      | 1 =>
        simp at hm
        subst hm
        refine (hb.cl ?_ : Cl w14.heap b5 (0 + 1 * 4 + j) u)
        match j with
        | 0 | 1 | 2 | 3 => exact hj
        | j + 4 => simp at hj
      | m + 2 => simp at hm
    have hk15 : Kp [] w14 w15 := hk15.rd
    have hB715 := hB7.kp hk15 (by simp)
    obtain ⟨a15, c15, rfl, hS15⟩ := hO15.den (by simp [boxI])
    have hblk := hO.block
    refine ⟨.inl (hB715.cl rfl), ?_⟩
    refine readsG τok [6, 7] 1 #[true, true, true, true, true, true, true, true, false] rfl rfl (by kernel_rfl) (by kernel_rfl) (by kernel_rfl) (hB715.cl rfl) ?_
    refine ix i rfl hlt ?_
    refine nextG τok 8 0 #[true, true, true, true, true, true, true, true, true] rfl rfl rfl (by kernel_rfl) ?_
    obtain ⟨g, cap, hv, hgl, hst⟩ := (hO.kp hk15).st (y := boxF x) (u := .slice a15 2 c15) hget (j := 1) (by decide) rfl (fun cs hcs => by
      obtain ⟨_, _, rfl, _, h64⟩ := hcs
      exact ⟨a15, c15, rfl, hS15.mono fun b o u hu => ⟨by have := hu.1; omega, fun e => by have := hblk b e.symm; have := hu.1; omega, hu.2⟩, h64⟩)
    have hv' : bf = g ∧ of = 0 := by
      injection hv with e1
      injection e1 with e1
      injection e1 with e1 e2
      exact ⟨e1, e2⟩
    obtain ⟨rfl, rfl⟩ := hv'
    refine hst fun w16 hO16 hs16 hk16 => ?_
    have hB716 := hB715.kp hk16 (by simp; omega)
    refine ⟨.inl (hB716.cl rfl), ?_⟩
    refine doneG (by kernel_rfl) ?_
    refine int64 (by omega) (by omega) ?_
    refine ⟨i + 1, by omega, rfl, ⟨rfl, rfl, rfl, rfl, rfl, rfl, trivial⟩, hlt, (k14.tr hk15).trans hk16 (fun y hy hl => by simp at hy; omega), hB716, ?_, fun b o v hv => ?_⟩
    · have : ((c.funs.take i).map boxF ++ c.funs.drop i).set i (boxF x) = (c.funs.take (i + 1)).map boxF ++ c.funs.drop (i + 1) := by
        rw [hxd, List.set_append_right _ _ (by simp; omega), take_get hx]
        simp [List.length_take, Nat.min_eq_left (Nat.le_of_lt hlt)]
      rw [← this]
      exact hO16
    · have h := up b o v hv
      exact ⟨h.1, h.2.1, (h.2.2.kp hk15 (by simp)).kp hk16 (by
        have := h.2.1
        simp [Value.ownBlock] at this
        simpa using this)⟩
  have hi' : i = c.funs.length := by omega
  subst hi'
  rw [List.take_length, List.drop_length, List.append_nil] at hO
  have k014 : Kp [] w w14 := k011.trans k14 (fun y hy hl => by simp at hy; omega)
  have upN : ∀ b o u, Dn lo (.slice x2 c.funs.length y2) w12 b o u → New n w14 b o u := fun b o u hu => ⟨by have := hu.1; have := k011.size; omega, (up b o u hu).2.2⟩
  have hf14 : Sl rFn (New n w14) x2 (c.funs.map boxF) := by
    obtain ⟨p2, q2, e2, hs2⟩ := hO.den (by simp; omega)
    have e2' : x2 = p2 := by injection e2
    subst e2'
    exact hs2.mono fun b o u hu => ⟨by have := hu.1; have := k011.size; omega, hu.2⟩
  have hd14 : rCod.den (New n w14) [.int .i64 c.nat, .slice x1 c.shapes.length y1, .slice x2 c.funs.length y2, .slice x3 c.bodies.length y3, .slice x4 c.main.length y4] { c with funs := c.funs.map boxF } :=
    ⟨x1, y1, x2, y2, x3, y3, x4, y4, by simp, hs1'.mono upN, hf14, hs3'.mono upN, hs4'.mono upN, h5⟩
  refine ev_seq τok ?_
  refine ldN [.int .i64 c.nat, .slice x1 c.shapes.length y1, .slice x2 c.funs.length y2, .slice x3 c.bodies.length y3, .slice x4 c.main.length y4] rfl (fun j v hj => by rw [Nat.zero_add]; exact hB7.cl hj) ?_
  have ct2 := check_ct (New.sub _ w14) hd14
  have hF2 : E = 0 → checkM { c with funs := c.funs.map boxF } = 0 := fun h => alone_funs (hE.trans h)
  generalize checkM { c with funs := c.funs.map boxF } = F2 at ct2 hF2
  refine ev_call ct2 ?_
  rintro e w15 ⟨rfl, hk15⟩
  have k015 := k014.tr hk15
  have z14 := k14.size
  have hB1 := (hB1.kp k14 (by simp; omega)).kp hk15 (by simp)
  have hB2 := (hB2.kp k14 (by simp; omega)).kp hk15 (by simp)
  have hB7 := hB7.kp hk15 (by simp)
  refine ev_mid τok (fun _ : Unit => [(2, .pointer (some ⟨b1, 0, none⟩)), (3, .pointer (some ⟨b2, 0, none⟩)), (6, .int .i64 E), (7, .pointer (some ⟨b7, 0, none⟩))]) (fun _ w' => w15 = w') ?_ ?_
  · refine br_dec (fun q1 => ?_) (fun q1 => ?_)
    · have q1 : E = 0 := q1
      rw [hF2 q1]
      exact ⟨(), rfl, ⟨rfl, rfl, rfl, rfl, trivial⟩, rfl⟩
    · exact ⟨(), rfl, ⟨rfl, rfl, rfl, rfl, trivial⟩, rfl⟩
  rintro ⟨⟩ _ rfl
  clear hO hs1' hs3' hs4' hd14 hf14 up upN hk12
  -- a function more
  obtain ⟨lo2, hlo2⟩ : ∃ lo, lo = w15.heap.size := ⟨_, rfl⟩
  have z15 := hk15.size
  have z11 := k011.size
  refine ev_seq τok ?_
  refine ldN [.int .i64 c.nat, .slice a1 c.shapes.length c1, .slice a2 c.funs.length c2, .slice a3 c.bodies.length c3, .slice a4 c.main.length c4] rfl (fun j v hj => by rw [Nat.zero_add]; exact hB1.cl hj) ?_
  refine ev_call (copyO_ct (hS.tr k015) hc0) ?_
  rintro e w16 ⟨x1, y1, vf, x3, y3, x4, y4, rfl, hO, hs1', hs3', hs4', _, hk16⟩
  rw [← hlo2] at hO hs1' hs3' hs4'
  obtain ⟨x2, y2, rfl⟩ := hO.len
  refine stN (vs := [.int .i64 c.nat, .slice x1 c.shapes.length y1, .slice x2 c.funs.length y2, .slice x3 c.bodies.length y3, .slice x4 c.main.length y4]) (hB7.kp hk16 (by simp)) rfl (by simp [Value.oneCell']) fun w17 hB7 hs17 hk17 => ?_
  have hO := hO.kpl hk17 (by simp; omega)
  have up : ∀ b o u, Dn lo2 (.slice x2 c.funs.length y2) w16 b o u → Dn lo2 (.slice x2 c.funs.length y2) w17 b o u := fun b o u hu => ⟨hu.1, hu.2.1, hu.2.2.kp hk17 (by have := hu.1; simp; omega)⟩
  have k1517 : Kp [b7] w15 w17 := (hk16.weak (by simp)).trans hk17 (fun x hx _ => hx)
  have hB2 := hB2.kp k1517 (by simp; omega)
  have k017 : Kp [] w w17 := k015.trans k1517 (fun y hy hl => by simp at hy; omega)
  have hblk := hO.block
  refine ev_seq τok ?_
  refine ld (hB7.cl rfl).cell ?_
  refine ldN [.int .i64 f.caps, .slice am f.code.length cm] rfl (fun j v hj => by rw [Nat.zero_add]; exact hB2.cl hj) ?_
  refine fill [.int .i64 f.caps, .slice am f.code.length cm] rfl ?_
  refine new fun b18 w18 hb18 hB18 hs18 hk18 => ?_
  have hO' : Own (rFnO (orM C (Dn lo2 (.slice x2 c.funs.length y2) w17))) 48 lo2 w17 (.slice x2 c.funs.length y2) c.funs := hO.rd rfl fun cs x ⟨a, cap, e, h, h'⟩ => ⟨a, cap, e, h.mono fun _ _ _ h => .inr h, h'⟩
  refine (hO'.kp hk18).ap1 τok rfl rfl (Nat.succ_pos 1) f [.int .i64 f.caps, .slice am f.code.length cm] ⟨am, cm, rfl, hm1.mono fun _ _ _ h => .inl h, hm2⟩ (fun j v hj => by rw [Nat.zero_add]; exact hB18.cl hj) (by omega) (by simp only [maxLen]; omega) fun v19 w19 hO19 hk19 _ => ?_
  have kb7 : b7 ∉ (Value.slice x2 c.funs.length y2).ownBlock.toList := fun h => by
    have := hblk b7 (by simpa using h)
    omega
  have kb2 : b2 ∉ (Value.slice x2 c.funs.length y2).ownBlock.toList := fun h => by
    have := hblk b2 (by simpa using h)
    omega
  have hB7 := (hB7.kp hk18 (by simp)).kp hk19 kb7
  have hB2 := (hB2.kp hk18 (by simp)).kp hk19 kb2
  obtain ⟨x9, y9, rfl⟩ := hO19.len
  refine st hB7 (by simp) rfl fun w20 hB7 hs20 hk20 => ?_
  have hB7 : Bk w20.heap b7 [.int .i64 c.nat, .slice x1 c.shapes.length y1, .slice x9 (c.funs ++ [f]).length y9, .slice x3 c.bodies.length y3, .slice x4 c.main.length y4] 28 := hB7
  have hB2 := hB2.kp hk20 (by simp; omega)
  have hO20 := hO19.kpl hk20 (by simp; omega)
  have k020 : Kp [] w w20 := ((k017.tr hk18).trans hk19 (fun y hy hl => by
    have := hblk y (by simpa using hy)
    omega)).trans hk20 (fun y hy hl => by simp at hy; omega)
  have upN : ∀ b o u, Dn lo2 (.slice x2 c.funs.length y2) w17 b o u → New n w20 b o u := fun b o u hu => ⟨by have := hu.1; omega, ((hu.2.2.kp hk18 (by simp)).kp hk19 (by simpa using fun e => hu.2.1 e.symm)).kp hk20 (by have := hu.1; simp; omega)⟩
  have hC' : Sub (orM C (New n w20)) w20 := orM_sub (hS.tr k020) (New.sub _ _)
  have hfu : Sl rFn (orM C (New n w20)) x9 (c.funs ++ [f]) := by
    obtain ⟨p2, q2, e2, hs2⟩ := hO20.den (by simp; omega)
    have e2' : x9 = p2 := by injection e2
    subst e2'
    refine Sl.rd hs2 rfl (fun cs x ⟨a, cap, e, h, h'⟩ => ⟨a, cap, e, h.mono fun b o v h => ?_, h'⟩) fun b o v h => .inr ⟨by have := h.1; omega, h.2⟩
    rcases h with h | h
    · exact .inl h
    · exact .inr (upN _ _ _ h)
  have hd : rCod.den (orM C (New n w20)) [.int .i64 c.nat, .slice x1 c.shapes.length y1, .slice x9 (c.funs ++ [f]).length y9, .slice x3 c.bodies.length y3, .slice x4 c.main.length y4] { c with funs := c.funs ++ [f] } :=
    ⟨x1, y1, x9, y9, x3, y3, x4, y4, rfl, hs1'.mono fun b o v h => .inr (upN _ _ _ (up _ _ _ h)), hfu, hs3'.mono fun b o v h => .inr (upN _ _ _ (up _ _ _ h)), hs4'.mono fun b o v h => .inr (upN _ _ _ (up _ _ _ h)), h5⟩
  refine ev_seq τok ?_
  refine ldN [.int .i64 c.nat, .slice x1 c.shapes.length y1, .slice x9 (c.funs ++ [f]).length y9, .slice x3 c.bodies.length y3, .slice x4 c.main.length y4] rfl (fun j v hj => by rw [Nat.zero_add]; exact hB7.cl hj) ?_
  have ct3 := check_ct hC' hd
  obtain ⟨F3, hF3⟩ : ∃ x, checkM { c with funs := c.funs ++ [f] } = x := ⟨_, rfl⟩
  rw [hF3] at ct3
  refine ev_call ct3 ?_
  rintro e w21 ⟨rfl, hk21⟩
  have k021 := k020.tr hk21
  have hB7 := hB7.kp hk21 (by simp)
  have hB2 := hB2.kp hk21 (by simp)
  refine ev_seq τok ?_
  refine br_dec (fun q1 => ?_) (fun q1 => ?_)
  · exact ⟨rfl, k021⟩
  have q1 : E = 0 := by
    have q1 : ¬ ¬ E = 0 := q1
    omega
  refine br_dec (fun q2 => ?_) (fun q2 => ?_)
  · exact ⟨rfl, k021⟩
  have q2 : ¬ F3 = 5 := q2
  have hE0 : checkM c = 0 := hE.trans q1
  have hn5 : checkM { c with funs := c.funs ++ [f] } ≠ 5 := by rw [hF3]; exact q2
  have hmore := alone_more hE0 hn5
  rw [hF3] at hmore
  obtain ⟨hlen3, hcaps3, _⟩ := not5 hn5
  have hfc := hcaps3 f (by simp)
  have hco := codOk_of hd (caps_any.2 hcaps3) (check0 hE0).right
  refine ev_seq τok ?_
  refine ldN [.int .i64 c.nat, .slice x1 c.shapes.length y1, .slice x9 (c.funs ++ [f]).length y9, .slice x3 c.bodies.length y3, .slice x4 c.main.length y4] rfl (fun j v hj => by rw [Nat.zero_add]; exact hB7.cl hj) ?_
  refine ld (hB2.cl rfl).cell ?_
  refine ld (hB2.cl rfl).cell ?_
  refine int64 (by omega) (by omega) ?_
  have ct4 := block20_ct (hC'.tr hk21) hd hco f.code am cm (hm1.mono fun _ _ _ h => .inl h) (by omega) (f.caps + 1) ⟨by omega, by omega⟩
  rw [← hmore] at ct4
  refine ev_call ct4 ?_
  rintro e w22 ⟨rfl, hk22⟩
  refine ev_of τok ?_
  refine ⟨?_, k021.tr hk22⟩
  show Ending.returned (one [.bool (decide (F3 = 0) == decide (F3 = 0))]) = _
  simp [one]
end Go.Proofs.Ytjogpbiilokldaa
