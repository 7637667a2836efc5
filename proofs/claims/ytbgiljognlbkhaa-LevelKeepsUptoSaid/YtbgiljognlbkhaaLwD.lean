/-
  Levels: the reference's Up, Max, Value.
-/
import Derived.Test.YtbgiljognlbkhaaLwC
set_option linter.unusedSimpArgs false
set_option linter.unusedVariables false
namespace Go.Proofs.Ytbgiljognlbkhaa
open Go.Wx Lv

theorem upR_ct {C : Mem} {w : World} (hS : Sub C w) (a : List Atom) (by' : Int) (aa : Option Addr) (ca : Nat) (ha : Sl rAt C aa a) (hby : I64 by') :
    CallOk Try.prog 31 ∧ Calls Try.prog 31 #[.slice aa a.length ca, .int .i64 by'] w (fun e w' => ∃ ar cr, e = .returned (.tuple #[.slice ar (upR a by').length cr, .int .i64 (upE a by')]) ∧ Sl rAt (New w.heap.size w') ar (upR a by') ∧ Kp [] w w') := by
  refine ⟨⟨_, Try.func31, rfl, by decide⟩, ?_⟩
  refine calls_of (args := [_, _]) 48 [.tmp 4, .tmp 5] τok Try.func31 rfl rfl rfl (Nat.le_of_ble_eq_true rfl) ?_
  have bad : ∀ e w', upE a by' = e → e ≠ 0 → Kp [] w w' → ∃ ar cr, Ending.returned (Go.Wx.one [.slice none 0 0, .int .i64 e]) = .returned (.tuple #[.slice ar (upR a by').length cr, .int .i64 (upE a by')]) ∧ Sl rAt (New w.heap.size w') ar (upR a by') ∧ Kp [] w w' := fun e w' he h0 hk => by
    have hr : upR a by' = [] := by unfold upR; rw [if_neg (by rw [he]; exact h0)]
    rw [hr, he]
    exact ⟨none, 0, rfl, Sl.nil _ _ _, hk⟩
  refine ev_call (rightR_ct a aa ca 16 w (Sl.atoms ha hS)) ?_
  rintro e w1 ⟨rfl, hk1⟩
  refine br (fun g1 => ?_) (fun g1 => ?_)
  · exact bad 19 _ (by unfold upE; rw [if_pos (by simpa using g1)]) (by omega) hk1
  have g1 : rightF a 16 = true := by simpa using g1
  refine br_dec (fun g2 => ?_) (fun g2 => ?_)
  · exact bad 1 _ (by unfold upE; rw [if_neg (by simp [g1]), if_pos g2]) (by omega) hk1
  have hE : upE a by' = if a.any (fun x => decide (1000 < x.add + by')) then 6 else 0 := by unfold upE; rw [if_neg (by simp [g1]), if_neg g2]
  have hadd := (right_adds g1).2
  have hal := (right_adds g1).1
  unfold I64 at hby
  have z1 := hk1.size
  have hul : (upL a by').length = a.length := by simp [upL]
  have hCl : ∀ b o u, C b o u → b < w1.heap.size := (hS.tr hk1).lt
  refine lp τok (σ := Nat × Value) (fun q => [(0, .slice aa a.length ca), (1, .int .i64 by'), (6, q.2), (7, .int .i64 q.1)])
    (fun q w' => q.1 ≤ a.length ∧ Own rAt 52 w1.heap.size w' q.2 ((upL a by').take q.1) ∧ Kp [] w1 w' ∧ ∀ x ∈ a.take q.1, x.add + by' ≤ 1000) (fun q => a.length - q.1) (0, .slice none 0 0) rfl ⟨rfl, rfl, rfl, rfl, trivial⟩ ⟨Nat.zero_le _, Own.nil _ _ (Nat.le_refl _), Kp.refl _ _, by simp⟩ ?_
  rintro ⟨i, v⟩ w3 ⟨hi, hO, hk3, hall⟩
  simp only at hi hO hall
  refine br_dec (fun g3 => ?_) (fun g3 => ?_)
  · have hlt : i < a.length := by omega
    obtain ⟨x, hx, hd⟩ := drop_get hlt
    have hxa := hadd x (List.mem_of_getElem? hx)
    have hul' : (upL a by')[i]? = some ⟨x.var, x.add + by'⟩ := by simp [upL, hx]
    obtain ⟨g, o, ha', hc0, hc1, _, _⟩ := sl_at ha hx
    subst ha'
    have hS3 := (hS.tr hk1).tr hk3
    have six : 1000 < x.add + by' → ∃ ar cr, Ending.returned (Go.Wx.one [.slice none 0 0, .int .i64 6]) = .returned (.tuple #[.slice ar (upR a by').length cr, .int .i64 (upE a by')]) ∧ Sl rAt (New w.heap.size w3) ar (upR a by') ∧ Kp [] w w3 := fun h => by
      refine bad 6 _ ?_ (by omega) (hk1.tr hk3)
      rw [hE, if_pos]
      exact List.any_eq_true.2 ⟨x, List.mem_of_getElem? hx, by simp; omega⟩
    refine br_dec (fun g4 => ?_) (fun g4 => ?_)
    · exact six (by omega)
    refine ix i rfl hlt ?_
    refine ldC hS3 hc1 ?_
    refine int64 (by omega) (by omega) ?_
    refine br_dec (fun g5 => ?_) (fun g5 => ?_)
    · exact six g5
    refine drawG τok (fun u => Sub C u) ?_
    refine readsG τok [0, 1, 2, 3, 4, 5, 6, 7, 8, 9, 10, 11, 12, 13] 3 #[true, true, true, true, true, true, true, true, true, true, true, true, true, true, false, false, false] rfl rfl (by kernel_rfl) (by kernel_rfl) (by kernel_rfl) (hS3.dr _) ?_
    refine ix i rfl hlt ?_
    refine ldQ (fun u hu => hu _ _ _ hc0) ?_
    refine ix i rfl hlt ?_
    refine ldQ (fun u hu => hu _ _ _ hc1) ?_
    refine int64 (by omega) (by omega) ?_
    refine nextG τok 14 2 #[true, true, true, true, true, true, true, true, true, true, true, true, true, true, true, false, false] rfl rfl rfl (by kernel_rfl) ?_
    refine fill [.int .i64 x.var, .int .i64 (x.add + by')] rfl ?_
    refine new fun bz wz hbz hBz hsz hkz => ?_
    have hkz : Kp [] w3 wz := hkz.rd
    refine ⟨.inl (hS3.tr hkz), ?_⟩
    refine nextG τok 15 1 #[true, true, true, true, true, true, true, true, true, true, true, true, true, true, true, true, false] rfl rfl rfl (by kernel_rfl) ?_
    have hlen9 : ((upL a by').take i).length = i := by rw [List.length_take, hul]; omega
    refine (hO.kp hkz).ap1 τok rfl rfl (by decide) ⟨x.var, x.add + by'⟩ [.int .i64 x.var, .int .i64 (x.add + by')] ⟨rfl, by unfold I64; simp only; omega, by unfold I64; simp only; omega⟩ (fun j u hj => by rw [Nat.zero_add]; exact hBz.cl hj) (by rw [hlen9]; omega) (by rw [hlen9]; unfold maxLen; omega) fun v4 w4 hO4 hk4 _ => ?_
    have k14 : Kp [] w1 w4 := (hk3.tr hkz).own hk4 (hO.kp hkz)
    have hS4 : Sub C w4 := (hS.tr hk1).tr k14
    refine ⟨.inl hS4, ?_⟩
    refine nextG τok 16 0 #[true, true, true, true, true, true, true, true, true, true, true, true, true, true, true, true, true] rfl rfl rfl (by kernel_rfl) ?_
    refine ⟨.inl hS4, ?_⟩
    refine doneG (by kernel_rfl) ?_
    refine int64 (by omega) (by omega) ?_
    refine ⟨(i + 1, v4), by simp only; omega, rfl, ⟨rfl, rfl, rfl, rfl, trivial⟩, hlt, ?_, k14, ?_⟩
    · rw [take_get hul']
      exact hO4
    · simp only
      rw [take_get hx]
      intro y hy
      rcases List.mem_append.1 hy with hy | hy
      · exact hall y hy
      · simp at hy; subst hy; omega
  · rw [List.take_of_length_le (by omega)] at hO
    rw [List.take_of_length_le (by omega)] at hall
    have hE0 : upE a by' = 0 := by
      rw [hE, if_neg]
      intro h
      obtain ⟨x, hx, h1⟩ := List.any_eq_true.1 h
      have := hall x hx
      simp at h1
      omega
    have hR : upR a by' = upL a by' := by unfold upR; rw [if_pos hE0]
    rw [hR, hE0]
    obtain ⟨a0, c0, rfl, hSl⟩ := hO.den (by omega)
    exact ⟨a0, c0, rfl, hSl.mono (New.up z1 (Kp.refl _ _)), hk1.tr hk3⟩

/-- vars that are all apart: nothing is there as yet -/
theorem mapF_fresh {a : List Atom} (h : a.Pairwise (fun x y => x.var < y.var)) {i : Nat} {x : Atom} (hx : a[i]? = some x) : mapF (a.take i) x.var = none := by
  refine mapF_none fun y hy e => ?_
  obtain ⟨j, hj⟩ := List.getElem?_of_mem hy
  have hjl := get_lt hj
  have hji : j < i := by simp at hjl; omega
  rw [List.getElem?_take_of_lt hji] at hj
  have := List.pairwise_iff_getElem.1 h j i (get_lt hj) (get_lt hx) hji
  rw [List.getElem?_eq_getElem (get_lt hj)] at hj
  rw [List.getElem?_eq_getElem (get_lt hx)] at hx
  have e1 := Option.some.inj hj
  have e2 := Option.some.inj hx
  rw [e1, e2] at this
  omega

theorem maxRef_ct {C : Mem} {w : World} (hS : Sub C w) (a b : List Atom) (aa ab : Option Addr) (ca cb : Nat) (ha : Sl rAt C aa a) (hb : Sl rAt C ab b) :
    CallOk Try.prog 28 ∧ Calls Try.prog 28 #[.slice aa a.length ca, .slice ab b.length cb] w (fun e w' => ∃ ar cr, e = .returned (.tuple #[.slice ar (maxR a b).length cr, .int .i64 (maxE a b)]) ∧ Sl rAt (New w.heap.size w') ar (maxR a b) ∧ Kp [] w w') := by
  refine ⟨⟨_, Try.func28, rfl, by decide⟩, ?_⟩
  refine calls_of (args := [_, _]) 80 [.tmp 4, .tmp 5] τok Try.func28 rfl rfl rfl (Nat.le_of_ble_eq_true rfl) ?_
  have bad : ∀ e w', maxE a b = e → e ≠ 0 → Kp [] w w' → ∃ ar cr, Ending.returned (Go.Wx.one [.slice none 0 0, .int .i64 e]) = .returned (.tuple #[.slice ar (maxR a b).length cr, .int .i64 (maxE a b)]) ∧ Sl rAt (New w.heap.size w') ar (maxR a b) ∧ Kp [] w w' := fun e w' he h0 hk => by
    have hr : maxR a b = [] := by unfold maxR; rw [if_neg (by rw [he]; exact h0)]
    rw [hr, he]
    exact ⟨none, 0, rfl, Sl.nil _ _ _, hk⟩
  refine ev_call (rightR_ct a aa ca 16 w (Sl.atoms ha hS)) ?_
  rintro e w1 ⟨rfl, hk1⟩
  refine br (fun g1 => ?_) (fun g1 => ?_)
  · exact bad 19 _ (by unfold maxE; rw [if_pos (.inl (by simpa using g1))]) (by omega) hk1
  have g1 : rightF a 16 = true := by simpa using g1
  refine ev_call (rightR_ct b ab cb 16 w1 (Sl.atoms hb (hS.tr hk1))) ?_
  rintro e w2 ⟨rfl, hk2⟩
  have k02 := hk1.tr hk2
  refine br (fun g2 => ?_) (fun g2 => ?_)
  · exact bad 19 _ (by unfold maxE; rw [if_pos (.inr (by simpa using g2))]) (by omega) k02
  have g2 : rightF b 16 = true := by simpa using g2
  have hE : maxE a b = if 4 < (maxL a b).length then 5 else 0 := by unfold maxE; rw [if_neg (by simp [g1, g2])]
  have hal := (right_adds g1).1
  have hbl := (right_adds g2).1
  have hrng := mapF_rng g1 g2
  have hS2 := hS.tr k02
  have z2 := k02.size
  refine lp τok (σ := Nat × Value) (fun q => [(0, .slice aa a.length ca), (1, .slice ab b.length cb), (6, q.2), (7, .int .i64 q.1)])
    (fun q w' => q.1 ≤ 17 ∧ Own rAt 52 w2.heap.size w' q.2 ((List.range q.1).filterMap fun (v : Nat) => (mapF (a ++ b) v).map fun n => ⟨(v : Int), n⟩) ∧ Kp [] w2 w') (fun q => 17 - q.1) (0, .slice none 0 0) rfl ⟨rfl, rfl, rfl, rfl, trivial⟩ ⟨Nat.zero_le _, Own.nil _ _ (Nat.le_refl _), Kp.refl _ _⟩ ?_
  rintro ⟨v, V⟩ w3 ⟨hv, hO, hk3⟩
  simp only at hv hO
  have hS3 := hS2.tr hk3
  refine br_dec (fun g3 => ?_) (fun g3 => ?_)
  · have g3 : v < 17 := by
      have g3 : (v : Int) ≤ 16 := g3
      omega
    refine lp τok (σ := Nat) (fun i => [(0, .slice aa a.length ca), (1, .slice ab b.length cb), (6, V), (7, .int .i64 v), (8, .int .i64 ((mapF (a.take i) v).getD (-1))), (9, .int .i64 i)])
      (fun i w' => i ≤ a.length ∧ w' = w3) (fun i => a.length - i) 0 rfl ⟨rfl, rfl, rfl, rfl, rfl, rfl, trivial⟩ ⟨Nat.zero_le _, rfl⟩ ?_
    rintro i w4 ⟨hi, rfl⟩
    refine br_dec (fun g4 => ?_) (fun g4 => ?_)
    · have hlt : i < a.length := by omega
      obtain ⟨x, hx, hd⟩ := drop_get hlt
      have htk : mapF (a.take (i + 1)) = upd (mapF (a.take i)) x := by rw [take_get hx, mapF_snoc]
      have hfr := mapF_fresh (right_up g1).1 hx
      obtain ⟨bc, oc, ha', hc0, hc1, _, _⟩ := sl_at ha hx
      subst ha'
      refine ix i rfl hlt ?_
      refine ldC hS3 hc0 ?_
      refine br_dec (fun g5 => ?_) (fun g5 => ?_)
      · have g5 : x.var = (v : Int) := g5
        refine ix i rfl hlt ?_
        refine ldC hS3 hc1 ?_
        refine int64 (by omega) (by omega) ?_
        refine ⟨i + 1, by omega, rfl, ⟨rfl, rfl, rfl, rfl, ?_, rfl, trivial⟩, hlt, rfl⟩
        show some _ = some _
        rw [htk, ← g5, upd_self, hfr]
        rfl
      · have g5 : ¬ x.var = (v : Int) := g5
        refine int64 (by omega) (by omega) ?_
        refine ⟨i + 1, by omega, rfl, ⟨rfl, rfl, rfl, rfl, ?_, rfl, trivial⟩, hlt, rfl⟩
        show some _ = some _
        rw [htk, upd_ne (fun e => g5 e.symm)]
    have e1 : a.take i = a := List.take_of_length_le (by omega)
    rw [e1]
    refine lp τok (σ := Nat) (fun i => [(0, .slice aa a.length ca), (1, .slice ab b.length cb), (6, V), (7, .int .i64 v), (8, .int .i64 ((mapF (a ++ b.take i) v).getD (-1))), (10, .int .i64 i)])
      (fun i w' => i ≤ b.length ∧ w' = w4) (fun i => b.length - i) 0 rfl ⟨rfl, rfl, rfl, rfl, by simp; rfl, rfl, trivial⟩ ⟨Nat.zero_le _, rfl⟩ ?_
    rintro i w5 ⟨hi, rfl⟩
    refine br_dec (fun g5 => ?_) (fun g5 => ?_)
    · have hlt : i < b.length := by omega
      obtain ⟨x, hx, hd⟩ := drop_get hlt
      have hxa := (right_adds g2).2 x (List.mem_of_getElem? hx)
      have htk : mapF (a ++ b.take (i + 1)) = upd (mapF (a ++ b.take i)) x := by rw [take_get hx, ← List.append_assoc, mapF_snoc]
      generalize mapF (a ++ b.take i) = F at *
      obtain ⟨bc, oc, hb', hc0, hc1, _, _⟩ := sl_at hb hx
      subst hb'
      refine ix i rfl hlt ?_
      refine ldC hS3 hc0 ?_
      refine br_dec (fun g6 => ?_) (fun g6 => ?_)
      · have g6 : x.var = (v : Int) := g6
        refine ix i rfl hlt ?_
        refine ldC hS3 hc1 ?_
        refine br_dec (fun g7 => ?_) (fun g7 => ?_)
        · have g7 : (F v).getD (-1) < x.add := g7
          refine ix i rfl hlt ?_
          refine ldC hS3 hc1 ?_
          refine int64 (by omega) (by omega) ?_
          refine ⟨i + 1, by omega, rfl, ⟨rfl, rfl, rfl, rfl, ?_, rfl, trivial⟩, hlt, rfl⟩
          show some _ = some _
          rw [htk, ← g6, upd_self]
          rw [← g6] at g7
          cases hf : F x.var with
          | none => rfl
          | some u =>
            rw [hf] at g7
            simp only [Option.getD_some] at g7 ⊢
            rw [if_pos g7]
        · have g7 : ¬ (F v).getD (-1) < x.add := g7
          refine int64 (by omega) (by omega) ?_
          refine ⟨i + 1, by omega, rfl, ⟨rfl, rfl, rfl, rfl, ?_, rfl, trivial⟩, hlt, rfl⟩
          show some _ = some _
          rw [htk, ← g6, upd_self]
          rw [← g6] at g7
          cases hf : F x.var with
          | none => rw [hf] at g7; simp at g7; omega
          | some u =>
            rw [hf] at g7
            simp only [Option.getD_some] at g7 ⊢
            rw [if_neg g7]
      · have g6 : ¬ x.var = (v : Int) := g6
        refine int64 (by omega) (by omega) ?_
        refine ⟨i + 1, by omega, rfl, ⟨rfl, rfl, rfl, rfl, ?_, rfl, trivial⟩, hlt, rfl⟩
        show some _ = some _
        rw [htk, upd_ne (fun e => g6 e.symm)]
    have e2 : b.take i = b := List.take_of_length_le (by omega)
    rw [e2]
    have hrange : (List.range (v + 1)).filterMap (fun (v : Nat) => (mapF (a ++ b) v).map fun n => (⟨(v : Int), n⟩ : Atom)) = (List.range v).filterMap (fun (v : Nat) => (mapF (a ++ b) v).map fun n => ⟨(v : Int), n⟩) ++ ((mapF (a ++ b) v).map fun n => (⟨(v : Int), n⟩ : Atom)).toList := by
      rw [List.range_succ, List.filterMap_append]
      congr 1
    generalize hF : mapF (a ++ b) = F at *
    have hflen : ((List.range v).filterMap (fun (v : Nat) => (F v).map fun n => (⟨(v : Int), n⟩ : Atom))).length ≤ v := by
      have := List.length_filterMap_le (fun (v : Nat) => (F v).map fun n => (⟨(v : Int), n⟩ : Atom)) (List.range v)
      simpa using this
    refine br_dec (fun g6 => ?_) (fun g6 => ?_)
    · have g6 : 0 ≤ (F v).getD (-1) := g6
      cases hf : F v with
      | none => rw [hf] at g6; simp at g6
      | some n =>
        have hn := (hrng v n hf).2
        rw [hf] at hrange
        refine fill [.int .i64 (v : Int), .int .i64 n] rfl ?_
        refine new fun bz wz hbz hBz hsz hkz => ?_
        refine (hO.kp hkz).ap1 τok rfl rfl (by decide) ⟨(v : Int), n⟩ [.int .i64 (v : Int), .int .i64 n] ⟨rfl, by unfold I64; simp only; omega, by unfold I64; simp only; omega⟩ (fun j u hj => by rw [Nat.zero_add]; exact hBz.cl hj) (by omega) (by unfold maxLen; omega) fun V' w6 hO6 hk6 _ => ?_
        refine int64 (by omega) (by omega) ?_
        refine ⟨(v + 1, V'), by simp only; omega, rfl, ⟨rfl, rfl, rfl, rfl, trivial⟩, by simp only; omega, ?_, (hk3.tr hkz).own hk6 (hO.kp hkz)⟩
        simp only
        rw [hrange]
        exact hO6
    · have g6 : ¬ 0 ≤ (F v).getD (-1) := g6
      cases hf : F v with
      | none =>
        rw [hf] at hrange
        refine int64 (by omega) (by omega) ?_
        refine ⟨(v + 1, V), by simp only; omega, rfl, ⟨rfl, rfl, rfl, rfl, trivial⟩, by simp only; omega, ?_, hk3⟩
        simp only
        rw [hrange]
        simpa using hO
      | some n =>
        have hn := (hrng v n hf).2
        rw [hf] at g6
        simp at g6
        omega
  have g3 : v = 17 := by
    have g3 : ¬ (v : Int) ≤ 16 := g3
    omega
  subst g3
  have hO : Own rAt 52 w2.heap.size w3 V (maxL a b) := hO
  have hml : (maxL a b).length ≤ 17 := by
    have := List.length_filterMap_le (fun (v : Nat) => (mapF (a ++ b) v).map fun n => (⟨(v : Int), n⟩ : Atom)) (List.range 17)
    simpa [maxL] using this
  obtain ⟨ar, cr, rfl, hSr⟩ := hO.den (by omega)
  refine br_dec (fun g4 => ?_) (fun g4 => ?_)
  · exact bad 5 _ (by rw [hE, if_pos (by omega)]) (by omega) (k02.tr hk3)
  have hE0 : maxE a b = 0 := by rw [hE, if_neg (by omega)]
  have hR : maxR a b = maxL a b := by unfold maxR; rw [if_pos hE0]
  rw [hE0, hR]
  exact ⟨ar, cr, rfl, hSr.mono (New.up z2 (Kp.refl _ _)), k02.tr hk3⟩

theorem valueR_ct (l : List Atom) (vals : List Int) (a av : Option Addr) (cap cv : Nat) (w : World) (hl : Sl rAt (Old w) a l) (hv : Ints w.heap.size w.heap av vals) :
    CallOk Try.prog 33 ∧ Calls Try.prog 33 #[.slice a l.length cap, .slice av vals.length cv] w (fun e w' => e = .returned (.int .i64 (valueF l vals)) ∧ Kp [] w w') := by
  refine ⟨⟨_, Try.func33, rfl, by decide⟩, ?_⟩
  obtain ⟨RES, hRES⟩ : ∃ r, valueF l vals = r := ⟨_, rfl⟩
  rw [hRES]
  unfold valueF at hRES
  have hll := hl.1
  have hS : Sub (Old w) w := Old.sub w
  refine calls_of (args := [_, _]) 46 [.tmp 4] τok Try.func33 rfl rfl rfl (Nat.le_of_ble_eq_true rfl) ?_
  refine br_dec (fun g1 => ?_) (fun g1 => ?_)
  · have h0 : l = [] := List.length_eq_zero_iff.1 (by
      have g1 : (l.length : Int) = 0 := g1
      omega)
    subst h0
    exact ⟨by rw [← hRES]; rfl, Kp.refl _ _⟩
  have h0 : 0 < l.length := by
    have g1 : ¬ (l.length : Int) = 0 := g1
    omega
  obtain ⟨x, hx, hd⟩ := drop_get h0
  obtain ⟨bc, oc, ha', hc0, hc1, xv, xa⟩ := sl_at hl hx
  subst ha'
  rw [List.drop_zero] at hd
  rw [hd] at hRES
  simp only [valGo] at hRES
  rw [if_pos (.inl trivial)] at hRES
  refine drawQ τok (fun w' => Kp [] w w') (by kernel_rfl) ((Kp.refl [] w).dr _) ?_
  refine ix 0 rfl h0 ?_
  refine ldK (hS _ _ _ hc0) ?_
  refine callK (fun w' hk' => ofR_ct vals av cv x.var w' _ (hv.kp hk' hk'.size) xv) ?_
  refine ix 0 rfl h0 ?_
  refine ldK (hS _ _ _ hc1) ?_
  obtain ⟨n, hn⟩ : ∃ n, wr (ofF vals x.var + x.add) = n := ⟨_, rfl⟩
  rw [hn] at hRES
  refine intv n hn ?_
  intro w1 hk1
  refine lp τok (σ := Nat × Int) (fun q => [(0, .slice (some ⟨bc, oc, none⟩) l.length cap), (1, .slice av vals.length cv), (5, .int .i64 q.2), (6, .int .i64 q.1)])
    (fun q w' => 1 ≤ q.1 ∧ q.1 ≤ l.length ∧ RES = valGo vals (l.drop q.1) q.1 q.2 ∧ Kp [] w w') (fun q => l.length - q.1) (1, n) rfl ⟨rfl, rfl, rfl, rfl, trivial⟩ ⟨Nat.le_refl _, h0, hRES.symm, hk1⟩ ?_
  clear hRES hn
  rintro ⟨k, m⟩ w2 ⟨hk1', hk, hr, hk2⟩
  simp only at hk1' hk hr
  refine br_dec (fun g2 => ?_) (fun g2 => ?_)
  · have hlt : k < l.length := by omega
    obtain ⟨y, hy, hdy⟩ := drop_get hlt
    rw [hdy] at hr
    simp only [valGo] at hr
    obtain ⟨b', o', ha', hc0', hc1', yv, ya⟩ := sl_at hl hy
    obtain ⟨rfl, rfl⟩ : bc = b' ∧ oc = o' := by
      have := Option.some.inj ha'
      injection this with e1 e2
      exact ⟨e1, e2⟩
    have hS2 := hS.tr hk2
    refine drawQ τok (fun w' => Kp [] w2 w') (by kernel_rfl) ((Kp.refl [] w2).dr _) ?_
    refine ix k rfl hlt ?_
    refine ldK (hS2 _ _ _ hc0') ?_
    refine callK (fun w' hk' => ofR_ct vals av cv y.var w' _ (hv.kp (hk2.tr hk') (hk2.tr hk').size) yv) ?_
    refine ix k rfl hlt ?_
    refine ldK (hS2 _ _ _ hc1') ?_
    obtain ⟨n', hn'⟩ : ∃ n, wr (ofF vals y.var + y.add) = n := ⟨_, rfl⟩
    rw [hn'] at hr
    refine intv n' hn' ?_
    intro w3 hk3
    refine br_dec (fun g3 => ?_) (fun g3 => ?_)
    · have g3 : m < n' := g3
      refine int64 (by omega) (by omega) ?_
      refine ⟨(k + 1, n'), by simp only; omega, rfl, ⟨rfl, rfl, rfl, rfl, trivial⟩, by simp only; omega, hlt, ?_, hk2.tr hk3⟩
      rw [hr, if_pos (.inr g3)]
    · have g3 : ¬ m < n' := g3
      refine int64 (by omega) (by omega) ?_
      refine ⟨(k + 1, m), by simp only; omega, rfl, ⟨rfl, rfl, rfl, rfl, trivial⟩, by simp only; omega, hlt, ?_, hk2.tr hk3⟩
      rw [hr, if_neg (by omega)]
  · rw [List.drop_eq_nil_of_le (by omega)] at hr
    exact ⟨by rw [hr]; rfl, hk2⟩
end Go.Proofs.Ytbgiljognlbkhaa
