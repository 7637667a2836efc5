/-
  Levels: slices.Grow, slices.Concat, level.Max.
-/
import Derived.Test.YtbgiljognlbkhaaLwA
import Derived.Test.YtbgiljognlbkhaaWxK
import Derived.Lib.AppendZerosOnto
set_option linter.unusedSimpArgs false
set_option linter.unusedVariables false
namespace Go.Proofs.Ytbgiljognlbkhaa
open Go.Wx Lv

theorem cap0 {T e sz bs ty : Nat} (hs : Go.Wx.look τ.slcs T = some (e, sz, bs)) {a : Option Addr} {n c : Nat} {w : World} {k : Value → World → Prop} (h : k (.int .i64 c) w) : EvRun Try.prog (Builtin.cap_ #[T] ty #[.slice a n c]) w k := by
  obtain ⟨hu, _⟩ := τok.slcs T e sz bs hs
  exact run (by simp [Builtin.cap_, run_underlying hu, goInt]) h

theorem zeros_size (z : Array Value) (n : Nat) : (Builtin.zeroCells z n).size = n * z.size := by simp [Builtin.zeroCells]

/-- append(nil, make([]Atom, n)...) -/
theorem apZ {w : World} {k : Value → World → Prop} (n : Nat) (h0 : 0 < n) (hn : n ≤ 1000000) {ty : Nat} (hk : ∀ B G w', B = w.heap.size → n ≤ G → Own rAt 52 w.heap.size w' (.slice (some ⟨B, 0, none⟩) 0 G) [] → Kp [] w w' → k (.slice (some ⟨B, 0, none⟩) n G) w') :
    EvRun Try.prog (Builtin.append_ #[27, 3] ty #[.slice none 0 0, .int .i64 (n : Int)]) w k := by
  obtain ⟨hu, inf, hinf, hsize, hbs⟩ := τok.slcs 27 52 2 16 rfl
  obtain ⟨inf', v0, hinf', hv, hcz, hsz'⟩ := zero_ok τok (T := 52) (z := [.int .i64 0, .int .i64 0]) rfl
  have : inf' = inf := by rw [hinf'] at hinf; simpa using hinf
  subst this
  have hvs : v0.cells.size = 2 := by rw [hcz]; rfl
  have h := Lib.run_append_grow_zeros (P := Try.prog) w 27 3 ty 52 inf' v0 .i64 .i64 hu Try.underlying3 hinf' hv none 0 0 [] (run_firstCells_none (w := w.drew) inf'.size 0 0 0) n h0 (by omega) (by omega) (by simp; omega) (by rw [hbs]; omega)
    (by rw [hbs]; exact growslice_fits (by omega) (by omega))
  rw [Nat.zero_add] at h
  have hG := grownCap_ge w n 0 52
  have hGm := grownCap_le_maxLen w n 0 52 (by unfold maxLen; omega)
  generalize grownCap w n 0 52 = G at h hG hGm
  have hk0 : Kp [] w (w.drew.alloc (.cells (#[] ++ Builtin.zeroCells v0.cells n ++ Builtin.zeroCells v0.cells (G - n)) 52)) := ⟨rfl, rfl, rfl, by
    show w.heap.size ≤ (w.heap.push _).size
    simp, fun b hb _ => by
    show (w.heap.push _)[b]? = _
    rw [Array.getElem?_push_lt hb]; simp [hb]⟩
  refine run h (hk _ _ _ rfl hG ⟨⟨[], ⟨by simp, .inr ⟨w.heap.size, G, #[] ++ Builtin.zeroCells v0.cells n ++ Builtin.zeroCells v0.cells (G - n), rfl, Nat.le_refl _, ?_, by simp, hGm, ?_, by simp⟩⟩, trivial⟩, ?_⟩ hk0)
  · show (w.heap.push _)[w.heap.size]? = _
    simp
  · simp [zeros_size, hvs, rAt]
    omega
  · show w.heap.size ≤ (w.heap.push _).size
    simp

theorem grow_ct (n : Nat) (h0 : 0 < n) (hn : n ≤ 1000000) (w : World) :
    CallOk Try.prog 46 ∧ Calls Try.prog 46 #[.slice none 0 0, .int .i64 (n : Int)] w (fun e w' => ∃ v, e = .returned v ∧ Own rAt 52 w.heap.size w' v [] ∧ Kp [] w w') := by
  refine ⟨⟨_, Try.func46, rfl, by decide⟩, ?_⟩
  refine calls_of (args := [_, _]) 27 [.tmp 4] τok Try.func46 rfl rfl rfl (Nat.le_of_ble_eq_true rfl) ?_
  refine cap0 rfl ?_
  refine int64 (by omega) (by omega) ?_
  refine int64 (by omega) (by omega) ?_
  refine br_dec (fun g => ?_) (fun g => ?_)
  rotate_left
  · exact absurd (by omega) g
  refine cap0 rfl ?_
  refine slcH' τok rfl 0 (.slice none 0 0) rfl (Nat.le_refl _) rfl ?_
  have e : ((n : Int) - ((0 : Nat) - (0 : Nat) : Int)) = (n : Int) := by omega
  rw [e]
  refine apZ n h0 hn fun B G w1 hB hG hO hk => ?_
  refine slcH' τok rfl 0 _ rfl (Nat.zero_le _) sliced_hi ?_
  exact ⟨_, rfl, hO, hk⟩

theorem concat_ct {D : Mem} {w : World} (hD : Sub D w) (ls : List (List Atom)) (a : Option Addr) (cap : Nat) (hl : Sl (rSl rAt) D a ls) (hlen : ls.length ≤ 1000) (hsum : (ls.map List.length).sum ≤ 1000000) (hpos : 0 < (ls.map List.length).sum) :
    CallOk Try.prog 41 ∧ Calls Try.prog 41 #[.slice a ls.length cap] w (fun e w' => ∃ v, e = .returned v ∧ Own rAt 52 w.heap.size w' v ls.flatten ∧ Kp [] w w') := by
  refine ⟨⟨_, Try.func41, rfl, by decide⟩, ?_⟩
  refine calls_of (args := [_]) 36 [.tmp 2] τok Try.func41 rfl rfl rfl (Nat.le_of_ble_eq_true rfl) ?_
  have hDl := hD.lt
  have hpart : ∀ k, ((ls.take k).map List.length).sum + ((ls.drop k).map List.length).sum = (ls.map List.length).sum := fun k => by
    rw [← List.sum_append, ← List.map_append, List.take_append_drop]
  refine lp τok (σ := Nat) (fun k => [(0, .slice a ls.length cap), (3, .int .i64 (((ls.take k).map List.length).sum : Nat)), (9, .slice a ls.length cap), (10, .int .i64 ls.length), (11, .int .i64 k)]) (fun k w' => k ≤ ls.length ∧ w' = w) (fun k => ls.length - k) 0 rfl
    ⟨rfl, rfl, rfl, rfl, rfl, trivial⟩ ⟨Nat.zero_le _, rfl⟩ ?_
  rintro k w1 ⟨hk, rfl⟩
  refine br_dec (fun g1 => ?_) (fun g1 => ?_)
  · have hlt : k < ls.length := by omega
    obtain ⟨x, hx, hd⟩ := drop_get hlt
    have e1 : ((ls.take (k + 1)).map List.length).sum = ((ls.take k).map List.length).sum + x.length := by rw [take_get hx]; simp
    have hp := hpart (k + 1)
    obtain ⟨b, o, rfl, ax, cx, hcell, hsl⟩ := hl.sl hx
    refine ix k rfl hlt ?_
    refine ldC hD hcell ?_
    refine int64 (by omega) (by omega) ?_
    refine int64 (by omega) (by omega) ?_
    refine ⟨k + 1, by omega, rfl, ⟨rfl, ?_, rfl, rfl, rfl, trivial⟩, hlt, rfl⟩
    rw [e1]
    rfl
  have e2 : ls.take k = ls := List.take_of_length_le (by omega)
  rw [e2]
  refine ev_call (grow_ct _ hpos hsum w1) ?_
  rintro e w2 ⟨v2, rfl, hO2, hk2⟩
  refine lp τok (σ := Nat × Value) (fun q => [(6, q.2), (25, .slice a ls.length cap), (26, .int .i64 ls.length), (27, .int .i64 q.1)]) (fun q w' => q.1 ≤ ls.length ∧ Own rAt 52 w1.heap.size w' q.2 (ls.take q.1).flatten ∧ Kp [] w1 w') (fun q => ls.length - q.1) (0, v2) rfl
    ⟨rfl, rfl, rfl, rfl, trivial⟩ ⟨Nat.zero_le _, by simpa using hO2, hk2⟩ ?_
  clear hO2
  rintro ⟨k, v⟩ w3 ⟨hk, hO, hk3⟩
  simp only at hk hO
  refine br_dec (fun g2 => ?_) (fun g2 => ?_)
  · have hlt : k < ls.length := by omega
    obtain ⟨x, hx, hd⟩ := drop_get hlt
    have e1 : (ls.take (k + 1)).flatten = (ls.take k).flatten ++ x := by rw [take_get hx]; simp
    have hp := hpart (k + 1)
    have e3 : ((ls.take (k + 1)).map List.length).sum = (ls.take k).flatten.length + x.length := by rw [← List.length_flatten, e1]; simp
    obtain ⟨b, o, rfl, ax, cx, hcell, hsl⟩ := hl.sl hx
    refine ix k rfl hlt ?_
    refine ldC (hD.tr hk3) hcell ?_
    refine hO.apF τok rfl rfl (by decide) flatAt (hD.tr hk3) x hsl (by omega) (by unfold maxLen; omega) fun v' w4 hO4 hk4 _ => ?_
    refine int64 (by omega) (by omega) ?_
    refine ⟨(k + 1, v'), by simp only; omega, rfl, ⟨rfl, rfl, rfl, rfl, trivial⟩, hlt, ?_, hk3.own hk4 hO⟩
    rw [e1]
    exact hO4
  · rw [List.take_of_length_le (by omega)] at hO
    exact ⟨v, rfl, hO, hk3⟩

theorem mapF_rng {a b : List Atom} (ha : rightF a 16 = true) (hb : rightF b 16 = true) : ∀ x v, mapF (a ++ b) x = some v → (0 ≤ x ∧ x < (17 : Nat)) ∧ 0 ≤ v ∧ v ≤ 1000 := fun x v h => by
  obtain ⟨y, hy, rfl, rfl⟩ := mapF_from h
  rcases List.mem_append.1 hy with hy | hy
  · have := (right_adds ha).2 y hy; omega
  · have := (right_adds hb).2 y hy; omega

theorem ints_at {w : World} {lo : Nat} {v : Value} {l : List Int} (h : w.ownsRow lo 3 1 v l.length (l.map (Value.int .i64))) : ∃ a cap, v = .slice a l.length cap ∧ ∀ i x, l[i]? = some x → ∃ g, a = some ⟨g, 0, none⟩ ∧ lo ≤ g ∧ Cl w.heap g (0 + i * 1) (.int .i64 x) := by
  rcases h.2 with ⟨rfl, h0⟩ | ⟨g, cap, cur, rfl, hb, hg, hn, hm, hc, ht⟩
  · exact ⟨none, 0, by rw [h0], fun i x hi => by have := get_lt hi; omega⟩
  · refine ⟨_, cap, rfl, fun i x hi => ⟨g, rfl, hb, cur, 3, (0, 0), hg, ?_⟩⟩
    have hil := get_lt hi
    have h1 : (cur.toList.take (l.length * 1))[i]? = (l.map (Value.int .i64))[i]? := by rw [ht]
    rw [List.getElem?_take_of_lt (by omega)] at h1
    simp only [List.getElem?_map, hi, Option.map_some] at h1
    rw [Nat.zero_add, Nat.mul_one]
    simpa using h1

theorem max_ct {C : Mem} {w : World} (hS : Sub C w) (a b : List Atom) (aa ab : Option Addr) (ca cb : Nat) (ha : Sl rAt C aa a) (hb : Sl rAt C ab b) :
    CallOk Try.prog 27 ∧ Calls Try.prog 27 #[.slice aa a.length ca, .slice ab b.length cb] w (fun e w' => ∃ ar cr, e = .returned (.tuple #[.slice ar (maxR a b).length cr, .int .i64 (maxE a b)]) ∧ Sl rAt (New w.heap.size w') ar (maxR a b) ∧ Kp [] w w') := by
  refine ⟨⟨_, Try.func27, rfl, by decide⟩, ?_⟩
  refine calls_of (args := [_, _]) 74 [.tmp 4, .tmp 5] τok Try.func27 rfl rfl rfl (Nat.le_of_ble_eq_true rfl) ?_
  have bad : ∀ e w', maxE a b = e → e ≠ 0 → Kp [] w w' → ∃ ar cr, Ending.returned (Go.Wx.one [.slice none 0 0, .int .i64 e]) = .returned (.tuple #[.slice ar (maxR a b).length cr, .int .i64 (maxE a b)]) ∧ Sl rAt (New w.heap.size w') ar (maxR a b) ∧ Kp [] w w' := fun e w' he h0 hk => by
    have hr : maxR a b = [] := by unfold maxR; rw [if_neg (by rw [he]; exact h0)]
    rw [hr, he]
    exact ⟨none, 0, rfl, Sl.nil _ _ _, hk⟩
  refine ev_call (right_ct a aa ca 16 w (Sl.atoms ha hS)) ?_
  rintro e w1 ⟨rfl, hk1⟩
  refine br (fun g1 => ?_) (fun g1 => ?_)
  · exact bad 19 _ (by unfold maxE; rw [if_pos (.inl (by simpa using g1))]) (by omega) hk1
  have g1 : rightF a 16 = true := by simpa using g1
  refine ev_call (right_ct b ab cb 16 w1 (Sl.atoms hb (hS.tr hk1))) ?_
  rintro e w2 ⟨rfl, hk2⟩
  have k02 := hk1.tr hk2
  refine br (fun g2 => ?_) (fun g2 => ?_)
  · exact bad 19 _ (by unfold maxE; rw [if_pos (.inr (by simpa using g2))]) (by omega) k02
  have g2 : rightF b 16 = true := by simpa using g2
  have hE : maxE a b = if 4 < (maxL a b).length then 5 else 0 := by unfold maxE; rw [if_neg (by simp [g1, g2])]
  have hal := (right_adds g1).1
  have hbl := (right_adds g2).1
  have hal1 := (right_up g1).2
  have hbl1 := (right_up g2).2
  have hrng := mapF_rng g1 g2
  refine MV.made fun bm w3 hbm hM3 hs3 hk3 => ?_
  have k03 := k02.tr hk3
  refine fill [.slice aa a.length ca, .slice ab b.length cb] rfl ?_
  refine new fun bx w4 hbx hBx hs4 hk4 => ?_
  have k04 := k03.tr hk4
  obtain ⟨C1, hC1⟩ : ∃ C1 : Mem, C1 = fun b' o v => C b' o v ∨ (b' = bx ∧ [Value.slice aa a.length ca, .slice ab b.length cb][o]? = some v) := ⟨_, rfl⟩
  have hS4 : Sub C1 w4 := by
    rw [hC1]
    rintro b' o v (h | ⟨rfl, h⟩)
    · exact (hS.tr k04) _ _ _ h
    · exact hBx.cl h
  have hm1 : ∀ b o v, C b o v → C1 b o v := by rw [hC1]; exact fun b o v h => Or.inl h
  have hls : Sl (rSl rAt) C1 (some ⟨bx, 0, none⟩) [a, b] := ⟨by simp, .inr ⟨bx, 0, rfl, fun i x hi => by
    match i with
    | 0 =>
      simp at hi
      subst hi
      exact ⟨_, ⟨aa, ca, rfl, ha.mono hm1⟩, fun j v hj => by
        match j with
        | 0 => simp at hj; subst hj; rw [hC1]; exact Or.inr ⟨rfl, rfl⟩
        | j + 1 => simp at hj⟩
    | 1 =>
      simp at hi
      subst hi
      exact ⟨_, ⟨ab, cb, rfl, hb.mono hm1⟩, fun j v hj => by
        match j with
        | 0 => simp at hj; subst hj; rw [hC1]; exact Or.inr ⟨rfl, rfl⟩
        | j + 1 => simp at hj⟩
    | i + 2 => simp at hi⟩⟩
  refine ev_call (concat_ct hS4 [a, b] (some ⟨bx, 0, none⟩) 2 hls (by simp) (by simp; omega) (by simp; omega)) ?_
  rintro e w5 ⟨v5, rfl, hO5, hk5⟩
  have k05 := k04.tr hk5
  have hfl : [a, b].flatten = a ++ b := by simp
  rw [hfl] at hO5
  have hlen : (a ++ b).length = a.length + b.length := by simp
  obtain ⟨ac, cc, rfl, hSc⟩ := hO5.den (by omega)
  have hbml := hM3.lt
  refine lp τok (σ := Nat × Nat) (fun q => [(6, .map (some bm)), (26, .slice ac (a ++ b).length cc), (27, .int .i64 (a ++ b).length), (28, .int .i64 q.1)])
    (fun q w' => q.1 ≤ (a ++ b).length ∧ q.2 ≤ q.1 ∧ MV w' bm (mapF ((a ++ b).take q.1)) q.2 ∧ Kp [bm] w5 w') (fun q => (a ++ b).length - q.1) (0, 0) rfl ⟨rfl, rfl, rfl, rfl, trivial⟩ ⟨Nat.zero_le _, Nat.le_refl _, (hM3.kp hk4 (by simp)).kp hk5 (by simp), Kp.refl _ _⟩ ?_
  rintro ⟨i, n⟩ w6 ⟨hi, hn, hM, hk6⟩
  simp only at hi hn hM
  refine br_dec (fun g3 => ?_) (fun g3 => ?_)
  · have hlt : i < (a ++ b).length := by omega
    obtain ⟨x, hx, hd⟩ := drop_get hlt
    have htk := take_get hx
    obtain ⟨bc, oc, rfl, hc0, hc1, hx1, hx2⟩ := sl_at hSc hx
    have z4 : bm < w4.heap.size := by have := hk4.size; omega
    have hcv : Cl w6.heap bc (oc + i * 2) (.int .i64 x.var) := hc0.2.cl.kp hk6 (by have := hc0.1; simp; omega)
    have hca : Cl w6.heap bc (oc + i * 2 + 1) (.int .i64 x.add) := hc1.2.cl.kp hk6 (by have := hc1.1; simp; omega)
    have hml := hM.lt
    refine ix i rfl hlt ?_
    refine ldN [.int .i64 x.var, .int .i64 x.add] rfl (fun j v hj => ?_) ?_
    · match j with
      | 0 => simp at hj; subst hj; exact hcv
      | 1 => simp at hj; subst hj; exact hca
      | j + 2 => simp at hj
    refine new fun b7 w7 hb7 hB7 hs7 hk7 => ?_
    refine stN (vs := [.int .i64 x.var, .int .i64 x.add]) hB7 rfl (by simp [Value.oneCell']) fun w8 hB8 hs8 hk8 => ?_
    have k68 : Kp [] w6 w8 := hk7.newSt hb7 hk8
    have hM8 := hM.kp k68 (by simp)
    have k58 : Kp [bm] w5 w8 := hk6.tr k68
    refine ld (hB8.cl rfl).cell ?_
    refine hM8.look hx1 ?_
    have next : ∀ w', MV w' bm (upd (mapF ((a ++ b).take i)) x) (n + 1) → Kp [bm] w5 w' → MV w' bm (mapF ((a ++ b).take (i + 1))) (n + 1) ∧ Kp [bm] w5 w' := fun w' h1 h2 => by
      rw [htk, mapF_snoc]
      exact ⟨h1, h2⟩
    generalize hF : mapF ((a ++ b).take i) = F at *
    refine br (fun g4 => ?_) (fun g4 => ?_)
    · have g4 : F x.var = none := by simpa using g4
      refine ld (hB8.cl rfl).cell ?_
      refine ld (hB8.cl rfl).cell ?_
      refine hM8.put (by omega) hx1 hx2 fun w9 hM9 hk9 => ?_
      have hu : upd F x = putF F x.var x.add := by unfold upd; rw [g4]
      rw [← hu] at hM9
      obtain ⟨n1, n2⟩ := next w9 hM9 (k58.trans hk9 (fun y hy _ => hy))
      refine int64 (by omega) (by omega) ?_
      exact ⟨(i + 1, n + 1), by simp only; omega, rfl, ⟨rfl, rfl, rfl, rfl, trivial⟩, hlt, by simp only; omega, n1, n2⟩
    · obtain ⟨u, hu⟩ : ∃ u, F x.var = some u := Option.isSome_iff_exists.1 (by simpa using g4)
      refine ld (hB8.cl rfl).cell ?_
      refine br_dec (fun g5 => ?_) (fun g5 => ?_)
      · have g5 : u < x.add := by
          have g5 : (F x.var).getD 0 < x.add := g5
          rw [hu] at g5
          exact g5
        refine ld (hB8.cl rfl).cell ?_
        refine ld (hB8.cl rfl).cell ?_
        refine hM8.put (by omega) hx1 hx2 fun w9 hM9 hk9 => ?_
        have hu' : upd F x = putF F x.var x.add := by unfold upd; rw [hu]; simp only; rw [if_pos g5]
        rw [← hu'] at hM9
        obtain ⟨n1, n2⟩ := next w9 hM9 (k58.trans hk9 (fun y hy _ => hy))
        refine int64 (by omega) (by omega) ?_
        exact ⟨(i + 1, n + 1), by simp only; omega, rfl, ⟨rfl, rfl, rfl, rfl, trivial⟩, hlt, by simp only; omega, n1, n2⟩
      · have g5 : ¬ u < x.add := by
          have g5 : ¬ (F x.var).getD 0 < x.add := g5
          rw [hu] at g5
          exact g5
        have hu' : upd F x = F := by unfold upd; rw [hu]; simp only; rw [if_neg g5]
        refine int64 (by omega) (by omega) ?_
        refine ⟨(i + 1, n), by simp only; omega, rfl, ⟨rfl, rfl, rfl, rfl, trivial⟩, hlt, by simp only; omega, ?_, k58⟩
        rw [htk, mapF_snoc, hF, hu']
        exact hM8
  rw [List.take_of_length_le (by omega)] at hM
  have own : ∀ {u}, Kp [bm] w5 u → Kp [] w u := fun k => k05.trans k (fun y hy hl => by have := k02.size; simp at hy; omega)
  obtain ⟨Dm, hDm, hperm, hsize⟩ := hM.keys (m := 17) (by omega) (fun x v h => (hrng x v h).1)
  have hkl : (maxL a b).map Atom.var = keysL (mapF (a ++ b)) (List.range 17) := vars_keys _ _
  have hkll : (keysL (mapF (a ++ b)) (List.range 17)).length = (maxL a b).length := by rw [← hkl]; simp
  refine run (hDm.len Try.underlying70 _) ?_
  rw [hsize, hkll]
  refine br_dec (fun g4 => ?_) (fun g4 => ?_)
  · exact bad 5 _ (by rw [hE, if_pos (by omega)]) (by omega) (own hk6)
  have g4 : (maxL a b).length ≤ 4 := by omega
  have hE0 : maxE a b = 0 := by rw [hE, if_neg (by omega)]
  have hR : maxR a b = maxL a b := by unfold maxR; rw [if_pos hE0]
  rw [hE0, hR]
  refine ev_call (keys_ct bm w6) ?_
  rintro e w7 ⟨rfl, rfl⟩
  refine ev_call (sorted_ct hDm (by rw [hsize, hkll]; unfold maxLen; omega) (by rw [hsize, hkll]; omega)) ?_
  rintro e w8 ⟨v8, ss, rfl, hss, hrow, hk8⟩
  have hsp := hss.trans hperm.symm
  have hsl := hsp.length_eq
  rw [sort_keys hsp, hsl] at hrow
  obtain ⟨asl, cs, rfl, hat⟩ := ints_at hrow
  rw [hkll]
  have k68 : Kp [] w6 w8 := (Kp.alloc _ _).tr hk8
  have k08 := own (hk6.tr k68)
  have hM8 := hM.kp k68 (by simp)
  have hmt : ∀ (j : Nat) (x : Atom), (maxL a b)[j]? = some x → mapF (a ++ b) x.var = some x.add ∧ (keysL (mapF (a ++ b)) (List.range 17))[j]? = some x.var := fun j x hj => by
    refine ⟨?_, by rw [← hkl, List.getElem?_map, hj]; rfl⟩
    have := List.mem_of_getElem? hj
    unfold maxL at this
    obtain ⟨v, _, hv⟩ := List.mem_filterMap.1 this
    cases h : mapF (a ++ b) v with
    | none => rw [h] at hv; cases hv
    | some n =>
      rw [h] at hv
      obtain rfl := Option.some.inj hv
      exact h
  refine lp τok (σ := Nat × Value) (fun q => [(6, .map (some bm)), (11, q.2), (58, .slice asl (maxL a b).length cs), (59, .int .i64 (maxL a b).length), (60, .int .i64 q.1)])
    (fun q w' => q.1 ≤ (maxL a b).length ∧ Own rAt 52 w8.heap.size w' q.2 ((maxL a b).take q.1) ∧ Kp [] w8 w') (fun q => (maxL a b).length - q.1) (0, .slice none 0 0) rfl ⟨rfl, rfl, rfl, rfl, rfl, trivial⟩ ⟨Nat.zero_le _, Own.nil _ _ (Nat.le_refl _), Kp.refl _ _⟩ ?_
  rintro ⟨j, v9⟩ w9 ⟨hj, hO9, hk9⟩
  simp only at hj hO9
  refine br_dec (fun g5 => ?_) (fun g5 => ?_)
  · have hlt : j < (maxL a b).length := by omega
    obtain ⟨x, hx, hd⟩ := drop_get hlt
    obtain ⟨hmx, hkx⟩ := hmt j x hx
    obtain ⟨g, rfl, hglo, hgc⟩ := hat j x.var hkx
    have hvr := hrng _ _ hmx
    have hI1 : I64 x.var := by unfold I64; omega
    have hI2 : I64 x.add := by unfold I64; omega
    refine ix j rfl hlt ?_
    refine ld (hgc.kp hk9 (by simp)).cell ?_
    refine (hM8.kp hk9 (by simp)).look1 hI1 ?_
    rw [hmx]
    refine fill [.int .i64 x.var, .int .i64 x.add] rfl ?_
    refine new fun bz wz hbz hBz hsz hkz => ?_
    have hlen9 : ((maxL a b).take j).length = j := by simp; omega
    refine (hO9.kp hkz).ap1 τok rfl rfl (by decide) x [.int .i64 x.var, .int .i64 x.add] ⟨rfl, hI1, hI2⟩ (fun j u hj => by rw [Nat.zero_add]; exact hBz.cl hj) (by rw [hlen9]; omega) (by rw [hlen9]; unfold maxLen; omega) fun v10 w10 hO10 hk10 _ => ?_
    refine int64 (by omega) (by omega) ?_
    refine ⟨(j + 1, v10), by simp only; omega, rfl, ⟨rfl, rfl, rfl, rfl, rfl, trivial⟩, hlt, ?_, (hk9.tr hkz).own hk10 (hO9.kp hkz)⟩
    rw [take_get hx]
    exact hO10
  · rw [List.take_of_length_le (by omega)] at hO9
    obtain ⟨ar, cr, rfl, hSr⟩ := hO9.den (by omega)
    exact ⟨ar, cr, rfl, hSr.mono (New.up k08.size (Kp.refl _ _)), k08.tr hk9⟩
end Go.Proofs.Ytbgiljognlbkhaa
