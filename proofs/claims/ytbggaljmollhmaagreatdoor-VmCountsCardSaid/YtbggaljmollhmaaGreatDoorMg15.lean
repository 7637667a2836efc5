/-
  Own texts put together: VrH, VrI, WxE.
-/
import Derived.Test.YtbggaljmollhmaaGreatDoorMg14
import Derived.Test.YtbggaljmollhmaaGreatDoorRows
import Derived.ProofKit
import Derived.OpenShut
/-
  The document's numbers (chapter 01): Add, Monus, Mul.
-/
set_option linter.unusedSimpArgs false
set_option linter.unusedVariables false
namespace Go.Proofs.YtbggaljmollhmaaGreatDoor
open Go.Wx Nm Vm Vc
theorem digs_four {l : List Nat} (h : Dig BB l) : (digs 256 (val BB l)).length ≤ 4 * l.length := by
  refine digs_len_le (by decide) ?_
  rw [← bb_pow]
  exact val_lt h
theorem IsRow.to {l : List Nat} {w w1 w2 : World} {v : Value} (h : IsRow l w w1 v) (k : Kp [] w1 w2) : ∃ a c, v = .slice a l.length c ∧ Sl rZ (New w.heap.size w2) a l ∧ l.length ≤ c := by
  obtain ⟨a, c, rfl, h1, h2⟩ := h
  exact ⟨a, c, rfl, h1.mono fun b o t ht => ⟨ht.1, ht.2.kp k (by simp)⟩, h2⟩
section
variable {C D : Mem} {w : World}
theorem add01_ct (hS : Sub C w) (hD : Sub D w) (x y : List Nat) (a a' : Option Addr) (c c' : Nat) (hx : Sl rW C a x) (hy : Sl rW D a' y) (hxl : x.length ≤ 200) (hyl : y.length ≤ 200) :
    CallOk Tryz.prog 16 ∧ Calls Tryz.prog 16 #[.slice a x.length c, .slice a' y.length c'] w (fun e w' => (∃ v, e = .returned v ∧ IsNat (val BB x + val BB y) w w' v) ∧ Kp [] w w') := by
  refine ⟨⟨_, Tryz.func16, rfl, by decide⟩, ?_⟩
  have hX4 := digs_four hx.dig
  have hY4 := digs_four hy.dig
  refine calls_of (args := [_, _]) 11 [.tmp 4] τok Tryz.func16 rfl rfl rfl (Nat.le_of_ble_eq_true rfl) ?_
  have hc1 := digits01_ct hS x a c hx (by omega)
  obtain ⟨X, hX⟩ : ∃ X, X = digs 256 (val BB x) := ⟨_, rfl⟩
  obtain ⟨Y, hY⟩ : ∃ Y, Y = digs 256 (val BB y) := ⟨_, rfl⟩
  have hvX : val 256 X = val BB x := by rw [hX, val_digs (by decide)]
  have hvY : val 256 Y = val BB y := by rw [hY, val_digs (by decide)]
  have hdX : Dig 256 X := by rw [hX]; exact digs_dig (by decide) _
  have hdY : Dig 256 Y := by rw [hY]; exact digs_dig (by decide) _
  rw [← hX] at hc1 hX4
  refine ev_call hc1 ?_
  rintro e w1 ⟨⟨v1, rfl, a1, c1, rfl, hs1, hl1⟩, hk1⟩
  have hc2 := digits01_ct (hD.tr hk1) y a' c' hy (by omega)
  rw [← hY] at hc2 hY4
  refine ev_call hc2 ?_
  rintro e w2 ⟨⟨v2, rfl, a2, c2, rfl, hs2, hl2⟩, hk2⟩
  have hc3 := plus01_ct ((New.sub _ w1).tr hk2) (New.sub _ w2) X Y a1 a2 c1 c2 hs1 hs2 hdX hdY (by omega) (by omega)
  obtain ⟨Z, hZ⟩ : ∃ Z, Z = digs 256 (val 256 X + val 256 Y) := ⟨_, rfl⟩
  have hvZ : val 256 Z = val BB x + val BB y := by rw [hZ, val_digs (by decide), hvX, hvY]
  have hdZ : Dig 256 Z := by rw [hZ]; exact digs_dig (by decide) _
  have hZl : Z.length ≤ max X.length Y.length + 1 := by
    have e1 : X = digs 256 (val 256 X) := by rw [hvX, hX]
    have e2 : Y = digs 256 (val 256 Y) := by rw [hvY, hY]
    have := add_len (B := 256) (by decide) (val 256 X) (val 256 Y)
    rw [← e1, ← e2, ← hZ] at this
    exact this
  rw [← hZ] at hc3
  refine ev_call hc3 ?_
  rintro e w3 ⟨⟨v3, rfl, a3, c3, rfl, hs3, hl3⟩, hk3⟩
  have hc4 := words01_ct (New.sub _ w3) Z a3 c3 hs3 hdZ (by omega) hl3
  rw [hvZ] at hc4
  refine ev_call hc4 ?_
  rintro e w4 ⟨⟨v, rfl, hv⟩, hk4⟩
  have k03 := (hk1.tr hk2).tr hk3
  exact ⟨⟨v, rfl, isNat_up k03 hv⟩, k03.tr hk4⟩
theorem monus01_ct (hS : Sub C w) (hD : Sub D w) (x y : List Nat) (a a' : Option Addr) (c c' : Nat) (hx : Sl rW C a x) (hy : Sl rW D a' y) (hxl : x.length ≤ 200) (hyl : y.length ≤ 200) :
    CallOk Tryz.prog 18 ∧ Calls Tryz.prog 18 #[.slice a x.length c, .slice a' y.length c'] w (fun e w' => (∃ v, e = .returned v ∧ IsNat (val BB x - val BB y) w w' v) ∧ Kp [] w w') := by
  refine ⟨⟨_, Tryz.func18, rfl, by decide⟩, ?_⟩
  have hX4 := digs_four hx.dig
  have hY4 := digs_four hy.dig
  refine calls_of (args := [_, _]) 19 [.tmp 4] τok Tryz.func18 rfl rfl rfl (Nat.le_of_ble_eq_true rfl) ?_
  have hc1 := digits01_ct hS x a c hx (by omega)
  obtain ⟨X, hX⟩ : ∃ X, X = digs 256 (val BB x) := ⟨_, rfl⟩
  obtain ⟨Y, hY⟩ : ∃ Y, Y = digs 256 (val BB y) := ⟨_, rfl⟩
  have hvX : val 256 X = val BB x := by rw [hX, val_digs (by decide)]
  have hvY : val 256 Y = val BB y := by rw [hY, val_digs (by decide)]
  have hdX : Dig 256 X := by rw [hX]; exact digs_dig (by decide) _
  have hdY : Dig 256 Y := by rw [hY]; exact digs_dig (by decide) _
  rw [← hX] at hc1 hX4
  refine ev_call hc1 ?_
  rintro e w1 ⟨⟨v1, rfl, a1, c1, rfl, hs1, hl1⟩, hk1⟩
  have hc2 := digits01_ct (hD.tr hk1) y a' c' hy (by omega)
  rw [← hY] at hc2 hY4
  refine ev_call hc2 ?_
  rintro e w2 ⟨⟨v2, rfl, a2, c2, rfl, hs2, hl2⟩, hk2⟩
  have k02 := hk1.tr hk2
  have hc3 := less01_ct ((New.sub _ w1).tr hk2) (New.sub _ w2) (val BB x) (val BB y) X Y hX hY a1 a2 c1 c2 hs1 hs2
  refine ev_call hc3 ?_
  rintro e w3 ⟨rfl, hk3⟩
  have k03 := k02.tr hk3
  refine br_dec (fun h => ?_) (fun h => ?_)
  · have h : val BB x < val BB y := h
    refine fill [] rfl ?_
    refine new fun b4 w4 hb4 hB4 hs4 hk4 => ?_
    refine ⟨⟨_, rfl, some ⟨b4, 0, none⟩, 0, ?_, ?_, ?_⟩, k03.tr hk4⟩
    · rw [show val BB x - val BB y = 0 by omega, digs_zero]; rfl
    · rw [show val BB x - val BB y = 0 by omega, digs_zero]; exact Sl.nil _ _ _
    · rw [show val BB x - val BB y = 0 by omega, digs_zero]; simp
  have h : ¬ val BB x < val BB y := h
  have hle : Y.length ≤ X.length := by rw [hX, hY]; exact len_mono (by decide) (by omega)
  have hc4 := minus01_ct (((New.sub _ w1).tr hk2).tr hk3) ((New.sub _ w2).tr hk3) X Y a1 a2 c1 c2 hs1 hs2 hdX hdY (by omega) hle (by omega)
  obtain ⟨Z, hZ⟩ : ∃ Z, Z = digs 256 (val 256 X - val 256 Y) := ⟨_, rfl⟩
  have hvZ : val 256 Z = val BB x - val BB y := by rw [hZ, val_digs (by decide), hvX, hvY]
  have hdZ : Dig 256 Z := by rw [hZ]; exact digs_dig (by decide) _
  have hZl : Z.length ≤ X.length := by
    have e1 : X = digs 256 (val 256 X) := by rw [hvX, hX]
    rw [hZ, e1, val_digs (by decide)]
    exact len_mono (by decide) (Nat.sub_le _ _)
  rw [← hZ] at hc4
  refine ev_call hc4 ?_
  rintro e w4 ⟨⟨v3, rfl, a3, c3, rfl, hs3, hl3⟩, hk4⟩
  have hc5 := words01_ct (New.sub _ w4) Z a3 c3 hs3 hdZ (by omega) hl3
  rw [hvZ] at hc5
  refine ev_call hc5 ?_
  rintro e w5 ⟨⟨v, rfl, hv⟩, hk5⟩
  have k04 := k03.tr hk4
  exact ⟨⟨v, rfl, isNat_up k04 hv⟩, k04.tr hk5⟩
theorem set_bd {o : List Nat} {k0 z i j : Nat} (hk : k0 = i + j) (hb : ∀ k, o.getD k 0 ≤ 65025 * (if i ≤ k ∧ k < i + j then i + 1 else i)) (hz : z ≤ 65025 * (i + 1)) : ∀ k, (o.set k0 z).getD k 0 ≤ 65025 * (if i ≤ k ∧ k < i + (j + 1) then i + 1 else i) := by
  intro k
  by_cases h : k0 = k
  · subst h
    rw [if_pos (by omega)]
    by_cases hl : k0 < o.length
    · rw [List.getD_eq_getElem?_getD, List.getElem?_set_self hl]
      exact hz
    · rw [List.getD_eq_getElem?_getD, List.getElem?_eq_none (by rw [List.length_set]; omega)]
      exact Nat.zero_le _
  · rw [List.getD_eq_getElem?_getD, List.getElem?_set_ne h, ← List.getD_eq_getElem?_getD]
    have := hb k
    split at this
    · rw [if_pos (by omega)]; exact this
    · split
      · omega
      · exact this
set_option maxHeartbeats 1000000 in
theorem mul01_ct (hS : Sub C w) (hD : Sub D w) (x y : List Nat) (a a' : Option Addr) (c c' : Nat) (hx : Sl rW C a x) (hy : Sl rW D a' y) (hxl : x.length ≤ 100) (hyl : y.length ≤ 100) :
    CallOk Tryz.prog 17 ∧ Calls Tryz.prog 17 #[.slice a x.length c, .slice a' y.length c'] w (fun e w' => (∃ v, e = .returned v ∧ IsNat (val BB x * val BB y) w w' v) ∧ Kp [] w w') := by
  refine ⟨⟨_, Tryz.func17, rfl, by decide⟩, ?_⟩
  have hX4 := digs_four hx.dig
  have hY4 := digs_four hy.dig
  refine calls_of (args := [_, _]) 56 [.tmp 4] τok Tryz.func17 rfl rfl rfl (Nat.le_of_ble_eq_true rfl) ?_
  have hc1 := digits01_ct hS x a c hx (by omega)
  obtain ⟨X, hX⟩ : ∃ X, X = digs 256 (val BB x) := ⟨_, rfl⟩
  obtain ⟨Y, hY⟩ : ∃ Y, Y = digs 256 (val BB y) := ⟨_, rfl⟩
  have hvX : val 256 X = val BB x := by rw [hX, val_digs (by decide)]
  have hvY : val 256 Y = val BB y := by rw [hY, val_digs (by decide)]
  have hdX : Dig 256 X := by rw [hX]; exact digs_dig (by decide) _
  have hdY : Dig 256 Y := by rw [hY]; exact digs_dig (by decide) _
  rw [← hX] at hc1 hX4
  refine ev_call hc1 ?_
  rintro e w1 ⟨⟨v1, rfl, a1, c1, rfl, hs1, hl1⟩, hk1⟩
  have hc2 := digits01_ct (hD.tr hk1) y a' c' hy (by omega)
  rw [← hY] at hc2 hY4
  refine ev_call hc2 ?_
  rintro e w2 ⟨⟨v2, rfl, a2, c2, rfl, hs2, hl2⟩, hk2⟩
  have k02 := hk1.tr hk2
  have hS1 : Sub (New w.heap.size w1) w2 := (New.sub _ w1).tr hk2
  have hS2 : Sub (New w1.heap.size w2) w2 := New.sub _ w2
  obtain ⟨M, hM⟩ : ∃ M, M = X.length := ⟨_, rfl⟩
  obtain ⟨N, hN⟩ : ∃ N, N = Y.length := ⟨_, rfl⟩
  rw [← hM, ← hN]
  refine int64 (by omega) (by omega) ?_
  refine mk τok (z := [.int .i64 0]) rfl rfl (M + N) (by omega) (by decide) (by omega) (by omega) fun b3 w3 hb3 hB3 hs3 hk3 => ?_
  have hR3 := RowN.rep hB3
  have hb3l := hR3.lt
  refine lp τok (σ := Nat × List Nat) (fun q => [(5, .slice a1 M c1), (6, .slice a2 N c2), (7, .slice (some ⟨b3, 0, none⟩) (M + N) (M + N)), (8, .int .i64 q.1)])
    (fun q w' => q.1 ≤ M ∧ q.2.length = M + N ∧ (∀ k, q.2.getD k 0 ≤ 65025 * q.1) ∧ RowN .i64 w'.heap b3 q.2 3 ∧ Kp [b3] w3 w' ∧ val 256 q.2 = val 256 (X.take q.1) * val 256 Y) (fun q => M - q.1) (0, List.replicate (M + N) 0) rfl
    ⟨rfl, rfl, rfl, rfl, trivial⟩ ⟨Nat.zero_le _, by simp, fun k => by
      rw [List.getD_eq_getElem?_getD, List.getElem?_replicate]
      split <;> simp, hR3, Kp.refl _ _, by simp [val, val_rep]⟩ ?_
  rintro ⟨i, o⟩ w4 ⟨hi, hol, hob, hR, hk4, hval⟩
  simp only at hi hol hob hR hval
  refine br_dec (fun h => ?_) (fun h => ?_)
  · have h : (i : Int) < M := h
    have hlt : i < M := by omega
    obtain ⟨u, hu, _⟩ := drop_get (l := X) (k := i) (by omega)
    obtain ⟨bx, ox, hax, hcx, _⟩ := hs1.nat hu
    subst hax
    have hu' : u < 256 := hdX u (List.mem_of_getElem? hu)
    refine lp τok (σ := Nat × List Nat) (fun q => [(5, .slice (some ⟨bx, ox, none⟩) M c1), (6, .slice a2 N c2), (7, .slice (some ⟨b3, 0, none⟩) (M + N) (M + N)), (8, .int .i64 i), (9, .int .i64 q.1)])
      (fun q w' => q.1 ≤ N ∧ q.2.length = M + N ∧ (∀ k, q.2.getD k 0 ≤ 65025 * (if i ≤ k ∧ k < i + q.1 then i + 1 else i)) ∧ RowN .i64 w'.heap b3 q.2 3 ∧ Kp [b3] w3 w' ∧ val 256 q.2 = val 256 (X.take i) * val 256 Y + 256 ^ i * u * val 256 (Y.take q.1)) (fun q => N - q.1) (0, o) rfl
      ⟨rfl, rfl, rfl, rfl, rfl, trivial⟩ ⟨Nat.zero_le _, hol, fun k => by rw [if_neg (by omega)]; exact hob k, hR, hk4, by simp [val, hval]⟩ ?_
    clear hR hol hob hval hk4 h
    rintro ⟨j, o⟩ w5 ⟨hj, hol, hob, hR, hk4, hval⟩
    simp only at hj hol hob hR hval
    refine br_dec (fun g => ?_) (fun g => ?_)
    · have g : (j : Int) < N := g
      have hltj : j < N := by omega
      obtain ⟨v, hv, _⟩ := drop_get (l := Y) (k := j) (by omega)
      obtain ⟨by', oy, hay, hcy, _⟩ := hs2.nat hv
      subst hay
      have hv' : v < 256 := hdY v (List.mem_of_getElem? hv)
      have hx5 : Cl w5.heap bx (ox + i * 1) (.int .i64 (u : Int)) := ((hS1 _ _ _ hcx).kp hk3 (by simp)).kp hk4 (by have := (hS1 _ _ _ hcx).lt; simp; omega)
      have hy5 : Cl w5.heap by' (oy + j * 1) (.int .i64 (v : Int)) := ((hS2 _ _ _ hcy).kp hk3 (by simp)).kp hk4 (by have := (hS2 _ _ _ hcy).lt; simp; omega)
      obtain ⟨d, hd⟩ : ∃ d, o.getD (i + j) 0 = d := ⟨_, rfl⟩
      have hcd := hR.cl (k := i + j) (by omega)
      have hdb := hob (i + j)
      rw [if_neg (by omega), hd] at hdb
      rw [hd] at hcd
      have hmul : u * v ≤ 255 * 255 := Nat.mul_le_mul (by omega) (by omega)
      obtain ⟨uv, huv⟩ : ∃ z, z = u * v := ⟨_, rfl⟩
      rw [← huv] at hmul
      have hz1 : d + uv ≤ 65025 * (i + 1) := by omega
      obtain ⟨z, hz⟩ : ∃ z, z = d + uv := ⟨_, rfl⟩
      rw [← hz] at hz1
      refine drawV τok (fun w' => Kp [] w5 w') ?_
      refine readsV τok [0, 1, 2, 3, 4, 5, 6, 7, 8, 9, 10, 11, 12, 13, 14, 15, 16, 17, 18, 19] 2 #[true, true, true, true, true, true, true, true, true, true, true, true, true, true, true, true, true, true, true, true, false, false] rfl rfl (by kernel_rfl) (by kernel_rfl) (by kernel_rfl) ((Kp.refl [] w5).dr _) ?_
      refine int64 (by omega) (by omega) ?_
      refine int64 (by omega) (by omega) ?_
      refine ix (i + j) (by omega) (by omega) ?_
      refine ldQ (fun z hz => hcd.kp hz (by simp)) ?_
      refine ix i rfl (by omega) ?_
      refine ldQ (fun z hz => hx5.kp hz (by simp)) ?_
      refine ix j rfl (by omega) ?_
      refine ldQ (fun z hz => hy5.kp hz (by simp)) ?_
      refine i64n (uv : Int) (by omega) (by omega) (by rw [huv]; simp) ?_
      refine i64n (z : Int) (by omega) (by omega) (by omega) ?_
      refine nextV τok 20 1 #[true, true, true, true, true, true, true, true, true, true, true, true, true, true, true, true, true, true, true, true, true, false] rfl rfl rfl (by kernel_rfl) ?_
      refine ix (i + j) (by omega) (by omega) ?_
      refine ⟨.inl ((Kp.refl [] w5).dr _), ?_⟩
      refine nextV τok 21 0 #[true, true, true, true, true, true, true, true, true, true, true, true, true, true, true, true, true, true, true, true, true, true] rfl rfl rfl (by kernel_rfl) ?_
      refine stN' (hR.kp ((Kp.refl [] w5).dr (w5.drawn + 1)) (by simp)) (by omega) fun w8 hR8 hs8 hk8 => ?_
      refine ⟨.inr (by kernel_rfl), ?_⟩
      refine doneV (by kernel_rfl) ?_
      refine int64 (by omega) (by omega) ?_
      refine ⟨(j + 1, o.set (i + j) z), by simp only; omega, rfl, ⟨rfl, rfl, rfl, rfl, rfl, trivial⟩, hltj, by simp only; rw [List.length_set]; exact hol, set_bd rfl hob hz1, hR8, hk4.trans hk8.rd (fun x hx _ => hx), ?_⟩
      simp only
      have e1 := val_set (B := 256) (l := o) (i := i + j) (x := z) (by omega)
      rw [hd, hz, Nat.mul_add] at e1
      rw [val_take_succ hv, Nat.mul_add]
      have e5 : 256 ^ i * u * (256 ^ j * v) = 256 ^ (i + j) * uv := by
        rw [huv, Nat.pow_add]
        simp only [Nat.mul_assoc, Nat.mul_left_comm, Nat.mul_comm]
      rw [e5, hz]
      omega
    · have g : ¬ (j : Int) < N := g
      have hjN : j = N := by omega
      subst hjN
      rw [List.take_of_length_le (l := Y) (by omega)] at hval
      refine int64 (by omega) (by omega) ?_
      refine ⟨(i + 1, o), by simp only; omega, rfl, ⟨rfl, rfl, rfl, rfl, trivial⟩, hlt, hol, fun k => ?_, hR, hk4, ?_⟩
      · have := hob k
        show o.getD k 0 ≤ 65025 * (i + 1)
        split at this <;> omega
      · show val 256 o = _
        rw [hval, val_take_succ hu, Nat.add_mul]
  · have h : ¬ (i : Int) < M := h
    have hiM : i = M := by omega
    subst hiM
    rw [List.take_of_length_le (by omega), hvX, hvY] at hval
    have hsl : Sl rZ (New w2.heap.size w4) (some ⟨b3, 0, none⟩) o := hR.sl (fun d hd => by
      obtain ⟨k, hk, rfl⟩ := List.getElem_of_mem hd
      have := hob k
      rw [List.getD_eq_getElem?_getD, List.getElem?_eq_getElem hk, Option.getD_some] at this
      unfold ZZ
      omega) (by omega) (by omega)
    have hc5 := carried01_ct (New.sub _ w4) o (some ⟨b3, 0, none⟩) (i + N) hsl (fun d hd => by
      obtain ⟨k, hk, rfl⟩ := List.getElem_of_mem hd
      have := hob k
      rw [List.getD_eq_getElem?_getD, List.getElem?_eq_getElem hk, Option.getD_some] at this
      omega) (by omega)
    rw [hol] at hc5
    obtain ⟨Z, hZ⟩ : ∃ Z, Z = digs 256 (val 256 o) := ⟨_, rfl⟩
    have hvZ : val 256 Z = val BB x * val BB y := by rw [hZ, val_digs (by decide), hval]
    have hdZ : Dig 256 Z := by rw [hZ]; exact digs_dig (by decide) _
    have hZl : Z.length ≤ i + N := by
      have := mul_len' (B := 256) (by decide) (val BB x) (val BB y)
      rw [← hX, ← hY, ← hval, ← hZ, ← hM, ← hN] at this
      exact this
    rw [← hZ] at hc5
    refine ev_call hc5 ?_
    rintro e w6 ⟨⟨v3, rfl, a3, c3, rfl, hs6, hl6⟩, hk6⟩
    have hc7 := words01_ct (New.sub _ w6) Z a3 c3 hs6 hdZ (by omega) hl6
    rw [hvZ] at hc7
    refine ev_call hc7 ?_
    rintro e w7 ⟨⟨v, rfl, hv⟩, hk7⟩
    have k24 : Kp [] w2 w4 := hk3.trans hk4 fun x hx hl => by simp at hx; omega
    have k06 := (k02.tr k24).tr hk6
    exact ⟨⟨v, rfl, isNat_up k06 hv⟩, k06.tr hk7⟩
end
end Go.Proofs.YtbggaljmollhmaaGreatDoor

/-
  The law on numbers: VmCounts.
-/
set_option linter.unusedSimpArgs false
set_option linter.unusedVariables false
namespace Go.Proofs.YtbggaljmollhmaaGreatDoor
open Go.Wx Nm Vm Vc Cd
theorem digs_few {V : Nat} (h : V ≤ 1152921504606846976) : (digs BB V).length ≤ 2 := digs_len_le BB_two (by unfold BB; omega)
/-- the code of the law, as it stands in memory -/
theorem code_sl {w : World} {bp bm x y n : Nat} (hx : x ≤ 1048576) (hy : y ≤ 1048576) (hn : n ≤ 3) (hP : Bk w.heap bp [.int .i64 8] 3)
    (hM : Bk w.heap bm [.int .i64 2, .int .i64 (x : Int), .int .i64 0, .slice none 0 0, .int .i64 2, .int .i64 (y : Int), .int .i64 0, .slice none 0 0, .int .i64 12, .int .i64 (n : Int), .int .i64 0, .slice none 0 0, .int .i64 2, .int .i64 (x : Int), .int .i64 0, .slice none 0 0, .int .i64 12, .int .i64 (n : Int), .int .i64 0, .slice none 0 0, .int .i64 10, .int .i64 0, .int .i64 0, .slice none 0 0, .int .i64 11, .int .i64 0, .int .i64 0, .slice (some ⟨bp, 0, none⟩) 1 1, .int .i64 6, .int .i64 0, .int .i64 0, .slice none 0 0, .int .i64 1, .int .i64 0, .int .i64 0, .slice none 0 0, .int .i64 6, .int .i64 0, .int .i64 0, .slice none 0 0] 43) (hle : bp ≤ bm) :
    Sl rIns (New bp w) (some ⟨bm, 0, none⟩) (codeC x y n) := by
  have h8 : Sl rInt (New bp w) (some ⟨bp, 0, none⟩) [8] := ints_row (xs := [8]) hP (fun x hx => by simp at hx; subst hx; simp [I64]) (by simp)
  have hz : I64 0 := by simp [I64]
  have hxi : I64 (x : Int) := by unfold I64; omega
  have hyi : I64 (y : Int) := by unfold I64; omega
  have hni : I64 (n : Int) := by unfold I64; omega
  refine ins_sl (css := [[.int .i64 2, .int .i64 (x : Int), .int .i64 0, .slice none 0 0], [.int .i64 2, .int .i64 (y : Int), .int .i64 0, .slice none 0 0], [.int .i64 12, .int .i64 (n : Int), .int .i64 0, .slice none 0 0], [.int .i64 2, .int .i64 (x : Int), .int .i64 0, .slice none 0 0], [.int .i64 12, .int .i64 (n : Int), .int .i64 0, .slice none 0 0], [.int .i64 10, .int .i64 0, .int .i64 0, .slice none 0 0], [.int .i64 11, .int .i64 0, .int .i64 0, .slice (some ⟨bp, 0, none⟩) 1 1], [.int .i64 6, .int .i64 0, .int .i64 0, .slice none 0 0], [.int .i64 1, .int .i64 0, .int .i64 0, .slice none 0 0], [.int .i64 6, .int .i64 0, .int .i64 0, .slice none 0 0]]) hM hle (fun i z hi => ?_) (by simp) (by simp [codeC])
  match i with
  | 0 => obtain rfl := Option.some.inj hi; exact ⟨_, rfl, none, 0, rfl, Sl.nil _ _ _, by simp [I64], hxi, hz⟩
  | 1 => obtain rfl := Option.some.inj hi; exact ⟨_, rfl, none, 0, rfl, Sl.nil _ _ _, by simp [I64], hyi, hz⟩
  | 2 => obtain rfl := Option.some.inj hi; exact ⟨_, rfl, none, 0, rfl, Sl.nil _ _ _, by simp [I64], hni, hz⟩
  | 3 => obtain rfl := Option.some.inj hi; exact ⟨_, rfl, none, 0, rfl, Sl.nil _ _ _, by simp [I64], hxi, hz⟩
  | 4 => obtain rfl := Option.some.inj hi; exact ⟨_, rfl, none, 0, rfl, Sl.nil _ _ _, by simp [I64], hni, hz⟩
  | 5 => obtain rfl := Option.some.inj hi; exact ⟨_, rfl, none, 0, rfl, Sl.nil _ _ _, by simp [I64], hz, hz⟩
  | 6 => obtain rfl := Option.some.inj hi; exact ⟨_, rfl, some ⟨bp, 0, none⟩, 1, rfl, h8, by simp [I64], hz, hz⟩
  | 7 => obtain rfl := Option.some.inj hi; exact ⟨_, rfl, none, 0, rfl, Sl.nil _ _ _, by simp [I64], hz, hz⟩
  | 8 => obtain rfl := Option.some.inj hi; exact ⟨_, rfl, none, 0, rfl, Sl.nil _ _ _, by simp [I64], hz, hz⟩
  | 9 => obtain rfl := Option.some.inj hi; exact ⟨_, rfl, none, 0, rfl, Sl.nil _ _ _, by simp [I64], hz, hz⟩
  | i + 10 => simp [codeC] at hi
set_option maxHeartbeats 1000000 in
theorem vmCounts_ct {w : World} (hK : Sub Kd w) (a b : Nat) (ha : a < 4294967296) (hb : b < 4294967296) (id : Int) (hid : I64 id) :
    CallOk Tryz.prog 5 ∧ Calls Tryz.prog 5 #[.int .u32 (a : Int), .int .u32 (b : Int), .int .i64 id] w (fun e w' => e = .returned (.bool true) ∧ Kp [] w w') := by
  refine ⟨⟨_, Tryz.func5, rfl, by decide⟩, ?_⟩
  refine calls_ev (args := [_, _, _]) 109 [.tmp 6] Tryz.func5 rfl rfl rfl (Nat.le_of_ble_eq_true rfl) ?_
  refine ev_seq τok ?_
  refine ev_seq τok ?_
  refine ev_call (awake_ct hK) ?_
  rintro e w1 ⟨rfl, hk1⟩
  obtain ⟨x, hx⟩ : ∃ x, x = a % 1048577 := ⟨_, rfl⟩
  obtain ⟨y, hy⟩ : ∃ y, y = b % 1048577 := ⟨_, rfl⟩
  refine ev_seq τok ?_
  refine remU (x := a) (y := 1048577) x (by decide) hx.symm ?_
  refine int64 (by omega) (by omega) ?_
  refine remU (x := b) (y := 1048577) y (by decide) hy.symm ?_
  refine int64 (by omega) (by omega) ?_
  refine ev_seq τok ?_
  refine br_dec (fun g1 => ?_) (fun g1 => ?_)
  · exact ⟨rfl, hk1⟩
  have g1 : ¬ id < 1 := g1
  refine br_dec (fun g2 => ?_) (fun g2 => ?_)
  · exact ⟨rfl, hk1⟩
  have g2 : ¬ 3 < id := g2
  obtain ⟨n, rfl⟩ : ∃ n : Nat, id = n := ⟨id.toNat, by omega⟩
  have hn : 1 ≤ n ∧ n ≤ 3 := by omega
  have hxl : x ≤ 1048576 := by omega
  have hyl : y ≤ 1048576 := by omega
  refine ev_seq τok ?_
  refine fill [.int .i64 8] rfl ?_
  refine new fun bp w2 hbp hP hs2 hk2 => ?_
  refine fill [.int .i64 2, .int .i64 (x : Int), .int .i64 0, .slice none 0 0, .int .i64 2, .int .i64 (y : Int), .int .i64 0, .slice none 0 0, .int .i64 12, .int .i64 (n : Int), .int .i64 0, .slice none 0 0, .int .i64 2, .int .i64 (x : Int), .int .i64 0, .slice none 0 0, .int .i64 12, .int .i64 (n : Int), .int .i64 0, .slice none 0 0, .int .i64 10, .int .i64 0, .int .i64 0, .slice none 0 0, .int .i64 11, .int .i64 0, .int .i64 0, .slice (some ⟨bp, 0, none⟩) 1 1, .int .i64 6, .int .i64 0, .int .i64 0, .slice none 0 0, .int .i64 1, .int .i64 0, .int .i64 0, .slice none 0 0, .int .i64 6, .int .i64 0, .int .i64 0, .slice none 0 0] (by kernel_rfl) ?_
  refine new fun bm w3 hbm hM hs3 hk3 => ?_
  have hsl := code_sl hxl hyl hn.2 (hP.kp hk3 (by simp)) hM (by have := hP.lt; omega)
  refine ev_call (lone_ct (some ⟨bm, 0, none⟩) 10 10 w3) ?_
  rintro e w4 ⟨rfl, hk4⟩
  have k03 := (hk1.tr hk2).tr hk3
  have k04 := k03.tr hk4
  have hr := vRun_ct (ck_sub (n := bp) (hK.tr k03) hk4) (hsl.mono fun b o v h => .inl h) (cap := 10) (by simp [codeC]) (check_lone (by simp [codeC]) (blk_codeC hxl hyl hn) (by decide)) (words := 20) (fuel := 20) (by decide) (by decide) (runs_codeC ck_kt (fun b o v h => Nat.lt_of_lt_of_le (ck_lt (hK.tr k03) b o v h) hk4.size) hxl hyl hn)
  refine ev_call hr ?_
  rintro e w5 ⟨xv, rfl, ⟨v, mo, rfl, ao, co, hv, hvs⟩, hk5⟩
  refine new fun b6 w6 hb6 hB6 hs6 hk6 => ?_
  refine stN (vs := [.int .i64 2, .int .i64 0, v, .int .i64 8, .int .i64 0, .int .i64 mo]) hB6 rfl (by
    intro y hy
    simp only [List.mem_cons, List.not_mem_nil, or_false] at hy
    rcases hy with rfl | rfl | rfl | rfl | rfl | rfl
    · rfl
    · rfl
    · rw [hv]; rfl
    · rfl
    · rfl
    · rfl) fun w7 hB7 hs7 hk7 => ?_
  have k57 : Kp [] w5 w7 := hk6.newSt hb6 hk7
  have k07 := (k04.tr hk5).tr k57
  refine ev_seq τok ?_
  obtain ⟨X, hX⟩ : ∃ X, digs BB x = X := ⟨_, rfl⟩
  obtain ⟨Y, hY⟩ : ∃ Y, digs BB y = Y := ⟨_, rfl⟩
  have hvX : val BB X = x := by rw [← hX, val_digs BB_two]
  have hvY : val BB Y = y := by rw [← hY, val_digs BB_two]
  have hXl : X.length ≤ 2 := by rw [← hX]; exact digs_few (by omega)
  have hYl : Y.length ≤ 2 := by rw [← hY]; exact digs_few (by omega)
  refine u64n x (by omega) rfl ?_
  refine ev_call (of01_ct x (by omega) w7) ?_
  rintro e w8 ⟨⟨vx, rfl, hnx⟩, hk8⟩
  obtain ⟨ax, cx, rfl, hsX⟩ := hnx.to hX (Kp.refl [] w7) (Kp.refl [] w8)
  have hSX : Sub (New w7.heap.size w8) w8 := New.sub _ w8
  refine u64n y (by omega) rfl ?_
  refine ev_call (of01_ct y (by omega) w8) ?_
  rintro e w8y ⟨⟨vy, rfl, hny⟩, hk8y⟩
  obtain ⟨ay, cy, rfl, hsY⟩ := hny.to hY (Kp.refl [] w8) (Kp.refl [] w8y)
  have hSY : Sub (New w8.heap.size w8y) w8y := New.sub _ w8y
  refine ev_seq τok ?_
  obtain ⟨V, hV⟩ : ∃ V, primN (n : Int) (primN (n : Int) x y) x = V := ⟨_, rfl⟩
  obtain ⟨W, hW⟩ : ∃ W, digs BB V = W := ⟨_, rfl⟩
  have hv1 : primN (n : Int) x y ≤ 1099511627776 := primN_le (A := 1048576) (B := 1048576) hxl hyl (by decide) (by decide)
  have hv2 : V ≤ 1152921504606846976 := by rw [← hV]; exact primN_le (A := 1099511627776) (B := 1048576) hv1 hxl (by decide) (by decide)
  have hWl : W.length ≤ 2 := by rw [← hW]; exact digs_few hv2
  have hk9 := Kp.refl [] w8y
  refine ev_mid τok (fun q : Option Addr × Nat => [(9, .pointer (some ⟨b6, 0, none⟩)), (12, .slice q.1 W.length q.2)]) (fun q w' => Kp [] w8y w' ∧ Sl rW (New w8y.heap.size w') q.1 W) ?_ ?_
  · refine br_dec (fun i1 => ?_) (fun i1 => ?_)
    · have i1 : n = 1 := by have i1 : (n : Int) = 1 := i1; omega
      have hpr : primN (n : Int) (primN (n : Int) x y) x = (x + y) + x := by rw [i1]; simp [primN]
      -- add01_ct: the contract; x + y: the first result; x + y + x: the second
      have hc1 := add01_ct ((hSX.tr hk8y).tr hk9) (hSY.tr hk9) X Y ax ay cx cy hsX hsY (by omega) (by omega)
      rw [hvX, hvY] at hc1
      refine ev_call hc1 ?_
      rintro e u1 ⟨⟨v1, rfl, hn1⟩, ku1⟩
      obtain ⟨U, hU⟩ : ∃ U, digs BB (x + y) = U := ⟨_, rfl⟩
      have hvU : val BB U = x + y := by rw [← hU, val_digs BB_two]
      have hUl : U.length ≤ 2 := by rw [← hU]; exact digs_few (by omega)
      obtain ⟨au, cu, rfl, hsU⟩ := hn1.to hU (Kp.refl [] _) (Kp.refl [] u1)
      have hc2 := add01_ct (New.sub _ u1) (((hSX.tr hk8y).tr hk9).tr ku1) U X au ax cu cx hsU hsX (by omega) (by omega)
      rw [hvU, hvX] at hc2
      refine ev_call hc2 ?_
      rintro e u2 ⟨⟨v2, rfl, hn2⟩, ku2⟩
      have hVW : digs BB (x + y + x) = W := by rw [← hW, ← hV, hpr]
      obtain ⟨a2, c2, rfl, hsW⟩ := hn2.to hVW ((hk9.tr ku1)) (Kp.refl [] u2)
      refine ⟨(a2, c2), rfl, ⟨rfl, rfl, trivial⟩, (hk9.tr ku1).tr ku2, hsW⟩
    · refine br_dec (fun i2 => ?_) (fun i2 => ?_)
      · have i2 : n = 2 := by have i2 : (n : Int) = 2 := i2; omega
        have hpr : primN (n : Int) (primN (n : Int) x y) x = (x * y) * x := by rw [i2]; simp [primN]
        have hm : x * y ≤ 1048576 * 1048576 := Nat.mul_le_mul hxl hyl
        -- mul01_ct: the contract; x * y: the first result; x * y * x: the second
        have hc1 := mul01_ct ((hSX.tr hk8y).tr hk9) (hSY.tr hk9) X Y ax ay cx cy hsX hsY (by omega) (by omega)
        rw [hvX, hvY] at hc1
        refine ev_call hc1 ?_
        rintro e u1 ⟨⟨v1, rfl, hn1⟩, ku1⟩
        obtain ⟨U, hU⟩ : ∃ U, digs BB (x * y) = U := ⟨_, rfl⟩
        have hvU : val BB U = x * y := by rw [← hU, val_digs BB_two]
        have hUl : U.length ≤ 2 := by rw [← hU]; exact digs_few (by omega)
        obtain ⟨au, cu, rfl, hsU⟩ := hn1.to hU (Kp.refl [] _) (Kp.refl [] u1)
        have hc2 := mul01_ct (New.sub _ u1) (((hSX.tr hk8y).tr hk9).tr ku1) U X au ax cu cx hsU hsX (by omega) (by omega)
        rw [hvU, hvX] at hc2
        refine ev_call hc2 ?_
        rintro e u2 ⟨⟨v2, rfl, hn2⟩, ku2⟩
        have hVW : digs BB (x * y * x) = W := by rw [← hW, ← hV, hpr]
        obtain ⟨a2, c2, rfl, hsW⟩ := hn2.to hVW ((hk9.tr ku1)) (Kp.refl [] u2)
        refine ⟨(a2, c2), rfl, ⟨rfl, rfl, trivial⟩, (hk9.tr ku1).tr ku2, hsW⟩
      · have i3 : n = 3 := by
          have i1 : ¬ (n : Int) = 1 := i1
          have i2 : ¬ (n : Int) = 2 := i2
          omega
        have hpr : primN (n : Int) (primN (n : Int) x y) x = (x - y) - x := by rw [i3]; simp [primN]
        -- monus01_ct: the contract; x - y: the first result; x - y - x: the second
        have hc1 := monus01_ct ((hSX.tr hk8y).tr hk9) (hSY.tr hk9) X Y ax ay cx cy hsX hsY (by omega) (by omega)
        rw [hvX, hvY] at hc1
        refine ev_call hc1 ?_
        rintro e u1 ⟨⟨v1, rfl, hn1⟩, ku1⟩
        obtain ⟨U, hU⟩ : ∃ U, digs BB (x - y) = U := ⟨_, rfl⟩
        have hvU : val BB U = x - y := by rw [← hU, val_digs BB_two]
        have hUl : U.length ≤ 2 := by rw [← hU]; exact digs_few (by omega)
        obtain ⟨au, cu, rfl, hsU⟩ := hn1.to hU (Kp.refl [] _) (Kp.refl [] u1)
        have hc2 := monus01_ct (New.sub _ u1) (((hSX.tr hk8y).tr hk9).tr ku1) U X au ax cu cx hsU hsX (by omega) (by omega)
        rw [hvU, hvX] at hc2
        refine ev_call hc2 ?_
        rintro e u2 ⟨⟨v2, rfl, hn2⟩, ku2⟩
        have hVW : digs BB (x - y - x) = W := by rw [← hW, ← hV, hpr]
        obtain ⟨a2, c2, rfl, hsW⟩ := hn2.to hVW ((hk9.tr ku1)) (Kp.refl [] u2)
        refine ⟨(a2, c2), rfl, ⟨rfl, rfl, trivial⟩, (hk9.tr ku1).tr ku2, hsW⟩
  rintro ⟨aw, cw⟩ wA ⟨hkA, hsW⟩
  simp only at hsW
  have hB := ((hB7.kp hk8 (by simp)).kp hk8y (by simp)).kp hkA (by simp)
  have k0A := ((k07.tr hk8).tr hk8y).tr hkA
  have hSW : Sub (New w8y.heap.size wA) wA := New.sub _ wA
  obtain ⟨LEN, hLEN⟩ : ∃ l, l = W.length := ⟨_, rfl⟩
  refine ev_of τok ?_
  refine fill [.int .u8 0] rfl ?_
  refine new fun bb wB hbb hBB hsB hkB => ?_
  have hO0 : Own rU8 5 wA.heap.size wB (.slice (some ⟨bb, 0, none⟩) 1 1) [0] := Own.one8 (x := 0) hBB (by omega) (by decide)
  refine u64n W.length (by omega) rfl ?_
  refine ev_call (form02_ct W.length (by omega) wB) ?_
  rintro e wC ⟨vf, rfl, hOf, hkC⟩
  have h10 := formM_len10 (n := W.length) (by omega)
  obtain ⟨af, cf, rfl, hSf⟩ := hOf.den (by omega)
  refine (hO0.kp hkC).apF τok rfl rfl Nat.one_pos flat8 (New.sub _ _) (formM W.length) hSf (by simp only [List.length_singleton]; omega) (by simp only [List.length_singleton, maxLen]; omega) fun v4 wD hOD hkD _ => ?_
  have hkAD : Kp [] wA wD := (hkB.tr hkC).own hkD (hO0.kp hkC)
  have hnb : ∀ k, (numsB (0 :: (W.length : Int) :: (W.take k).map fun x : Nat => (x : Int))).length ≤ 100 := fun k => by
    have := numsB_len (xs := 0 :: (W.length : Int) :: (W.take k).map fun x : Nat => (x : Int)) (fun z hz => by
      simp only [List.mem_cons, List.mem_map] at hz
      rcases hz with rfl | rfl | ⟨u, hu, rfl⟩
      · decide
      · simp; omega
      · have := hsW.dig u (List.mem_of_mem_take hu)
        have : u < 4294967296 := this
        simp; omega)
    simp only [List.length_cons, List.length_map, List.length_take] at this
    omega
  refine lp τok (σ := Nat × Value) (fun q => [(9, .pointer (some ⟨b6, 0, none⟩)), (12, .slice aw W.length cw), (13, q.2), (14, .int .i64 q.1)]) (fun q w' => q.1 ≤ W.length ∧ Own rU8 5 wA.heap.size w' q.2 (numsB (0 :: (W.length : Int) :: (W.take q.1).map fun x : Nat => (x : Int))) ∧ Kp [] wA w') (fun q => W.length - q.1) (0, v4) rfl
    ⟨rfl, rfl, rfl, rfl, trivial⟩ ⟨Nat.zero_le _, by
      have : numsB (0 :: (W.length : Int) :: (W.take 0).map fun x : Nat => (x : Int)) = [0] ++ formM W.length := by
        simp [numsB, formM_small]
      rw [this]
      exact hOD, hkAD⟩ ?_
  rintro ⟨k, vb⟩ wE ⟨hk, hOE, hkE⟩
  simp only at hk hOE
  refine br_dec (fun g => ?_) (fun g => ?_)
  · have g : (k : Int) < W.length := g
    have hlt : k < W.length := by omega
    obtain ⟨u, hu, _⟩ := drop_get hlt
    obtain ⟨bw, ow, rfl, hcw, hu'⟩ := hsW.nat hu
    have hu' : u < 4294967296 := hu'
    refine ix k rfl hlt ?_
    refine ldC (hSW.tr hkE) hcw ?_
    refine u64n u (by omega) rfl ?_
    refine ev_call (form02_ct u (by omega) wE) ?_
    rintro e wF ⟨vf, rfl, hOf, hkF⟩
    have h10 := formM_len10 (n := u) (by omega)
    have hn1 := hnb k
    obtain ⟨af, cf, rfl, hSf⟩ := hOf.den (by omega)
    refine (hOE.kp hkF).apF τok rfl rfl Nat.one_pos flat8 (New.sub _ _) (formM u) hSf (by omega) (by simp only [maxLen]; omega) fun v4 wG hOG hkG _ => ?_
    refine int64 (by omega) (by omega) ?_
    refine ⟨(k + 1, v4), by simp only; omega, rfl, ⟨rfl, rfl, rfl, rfl, trivial⟩, hlt, ?_, (hkE.tr hkF).own hkG (hOE.kp hkF)⟩
    have : numsB (0 :: (W.length : Int) :: (W.take (k + 1)).map fun x : Nat => (x : Int)) = numsB (0 :: (W.length : Int) :: (W.take k).map fun x : Nat => (x : Int)) ++ formM u := by
      rw [take_get hu, List.map_append, ← List.cons_append, ← List.cons_append, numsB_app]
      congr 1
      simp [numsB]
    show Own _ _ _ _ v4 (numsB (0 :: (W.length : Int) :: (W.take (k + 1)).map fun x : Nat => (x : Int)))
    rw [this]
    exact hOG
  · have g : ¬ (k : Int) < W.length := g
    have hn1 := hnb k
    rw [List.take_of_length_le (by omega)] at hOE hn1
    have hval : numsB (valB V) = numsB (0 :: (W.length : Int) :: W.map fun x : Nat => (x : Int)) := by
      unfold valB
      rw [hW]
    rw [hV, hval] at hv hvs
    obtain ⟨BS, hBS⟩ : ∃ BS, BS = numsB (0 :: (W.length : Int) :: W.map fun x : Nat => (x : Int)) := ⟨_, rfl⟩
    rw [← hBS] at hv hvs hOE hn1
    obtain ⟨ab, cb, rfl, hSb⟩ := hOE.den (by omega)
    have hBE := hB.kp hkE (by simp)
    refine ld (hBE.cl (v := .int .i64 2) rfl).cell ?_
    refine ld (hBE.cl (v := .int .i64 8) rfl).cell ?_
    refine ld (hBE.cl (v := v) rfl).cell ?_
    have hsame := same02_ct ((New.sub _ w5).tr ((((k57.tr hk8).tr hk8y).tr hkA).tr hkE)) (New.sub _ wE) BS BS ao ab co cb hvs hSb
    rw [decide_eq_true rfl] at hsame
    rw [hv]
    refine ev_call hsame ?_
    rintro e wZ ⟨rfl, hkZ⟩
    exact ⟨rfl, (k0A.tr hkE).tr hkZ⟩
end Go.Proofs.YtbggaljmollhmaaGreatDoor

/-
  The closing, for a law that answers true and leaves what it was given as it was: from the walk's contract to the row.
-/
set_option linter.unusedSimpArgs false
set_option linter.unusedVariables false
namespace Go.Wx
open Go.ChangeShapes Go.WideShapes Go.ChangeAt Go.RowKit

/-- the arguments read as they did, whatever new memory there is -/
theorem args_stay {H : Type} {enc : TypeId × Value → H} {P : Program} (hl : laidOutB P = true) {W W' : World} (hb : Below W.heap.size W W') :
    ∀ (ts : List TypeId) (vs : List Value) (ds : List (DataW H)) (ps : List MemPlace), (ts.all fun t => P.readableRec t && Nat.blt t P.types.size) = true → DataW.TrodAll enc P W 0 (fun _ => true) true ts vs ds ps →
      (∀ x ∈ ps, x.block < W.heap.size) → ∀ sp : Nat → Bool, (∀ p ∈ ps, sp p.block = true) → DataW.TrodAll enc P W' 0 sp true ts vs ds ps
  | [], vs, ds, ps, _, h, _, sp, _ => by
    obtain ⟨rfl, rfl, rfl⟩ := trodAll_nil h
    rfl
  | t :: ts, vs, ds, ps, hts, h, hlt, sp, hsp => by
    obtain ⟨v, vs', d, ds', p, q, rfl, rfl, rfl, h0, h1⟩ := trodAll_cons h
    simp only [List.all_cons, Bool.and_eq_true] at hts
    refine ⟨p, q, ?_, args_stay hl hb ts _ _ _ hts.2 h1 (fun x hx => hlt x (by simp [hx])) sp (fun x hx => hsp x (by simp [hx])), rfl⟩
    exact WideElems.Trod_stays hl hts.1.1 (by simpa [Nat.blt_eq] using hts.1.2) h0 (fun x hx => hb.same (hlt x (by simp [hx]))) (fun x hx => hsp x (by simp [hx]))

theorem post_true {H : Type} {enc : TypeId × Value → H} {P : Program} {f : Func} {s : ChangeSpec} {apart fresh handsOn : Bool} {W W' : World} {args : Array Value} {ds gs : List (DataW H)} {before : List MemPlace} {tb : TypeId}
    (hl : laidOutB P = true) (hts : (f.params.toList.all fun t => P.readableRec t && Nat.blt t P.types.size) = true) (hrt : f.resultTypes = #[tb]) (hb : P.underlying tb = some .bool)
    (hW : DataW.Whole enc P f.params.toList s.vars apart W args.toList ds gs before) (hs : s.vars = []) (hres : (s.fn H ds).results = [.lit (.bool true)]) (hargs : (s.fn H ds).args = ds) (hvars : (s.fn H ds).vars = [])
    (hk : Kp [] W W') : s.post enc P f apart fresh handsOn false W args (.bool true) W' := by
  have hW' := hW
  obtain ⟨p, q, hA, hV, rfl, hfz, hnd⟩ := hW
  rw [hs] at hV
  obtain ⟨rfl, rfl⟩ := trodVars_none hV
  have hbl := hk.below
  have hlt : ∀ x ∈ p, x.block < W.heap.size := fun x hx => hW'.lt x (by simp [hx])
  refine ⟨ds, [], p ++ [], [], p, [], hW', ?_, ?_, ?_, ?_, fun h => by cases h⟩
  · rw [List.append_nil, hres, hrt]
    exact trodAll_mk1 (shut_bool hb true)
  · rw [List.append_nil, hargs]
    exact args_stay hl hbl _ _ _ _ hts hA hlt _ fun x hx => by simpa using hlt x hx
  · rw [List.append_nil, hvars, hs]
    rfl
  · exact hbl.frame _
end Go.Wx

