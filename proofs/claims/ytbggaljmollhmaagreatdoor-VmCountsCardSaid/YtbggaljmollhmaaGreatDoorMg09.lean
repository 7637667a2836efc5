/-
  Own texts put together: NtB, VcM, VcA.
-/
import Derived.Test.YtbggaljmollhmaaGreatDoorMg08
import Derived.Maps.OwnSet
import Derived.Maps.Range
/-
  Package nat: Sub32, Compare, Monus, Mul.
-/
set_option linter.unusedSimpArgs false
set_option linter.unusedVariables false
namespace Nm
theorem top_bit {n : Nat} (h : n < 4294967296) : n / 2147483648 = (n.testBit 31).toNat := by
  rw [Nat.testBit_eq_decide_div_mod_eq]
  have : n / 2 ^ 31 % 2 = n / 2147483648 := by omega
  rw [this]
  have : n / 2147483648 = 0 ∨ n / 2147483648 = 1 := by omega
  rcases this with h | h <;> rw [h] <;> rfl
theorem bit31 {n : Nat} (h : n < 4294967296) : n.testBit 31 = decide (2147483648 ≤ n) := by
  rw [Nat.testBit_eq_decide_div_mod_eq]
  have : n / 2 ^ 31 % 2 = n / 2147483648 := by omega
  rw [this]
  congr 1
  apply propext
  omega
theorem borrow32 {x y b d : Nat} (hx : x < 4294967296) (hy : y < 4294967296) (hb : b ≤ 1) (hd : d = (x + 8589934592 - y - b) % 4294967296) :
    (((4294967295 ^^^ x) &&& y) ||| ((4294967295 ^^^ (x ^^^ y)) &&& d)) / 2147483648 = if x < y + b then 1 else 0 := by
  have hd' : d < 4294967296 := by omega
  have h1 : ((4294967295 ^^^ x) &&& y) < 2 ^ 32 := Nat.lt_of_le_of_lt Nat.and_le_right (by omega)
  have h2 : ((4294967295 ^^^ (x ^^^ y)) &&& d) < 2 ^ 32 := Nat.lt_of_le_of_lt Nat.and_le_right (by omega)
  have h3 := Nat.or_lt_two_pow h1 h2
  rw [top_bit (by omega)]
  have hm : (4294967295 : Nat).testBit 31 = true := by decide
  rw [Nat.testBit_or, Nat.testBit_and, Nat.testBit_and, Nat.testBit_xor, Nat.testBit_xor, Nat.testBit_xor, hm, bit31 hx, bit31 hy, bit31 hd']
  by_cases e1 : 2147483648 ≤ x <;> by_cases e2 : 2147483648 ≤ y <;> by_cases e3 : 2147483648 ≤ d <;> simp [e1, e2, e3] <;> omega
theorem val_split {B : Nat} (l : List Nat) (i : Nat) : val B l = val B (l.take i) + B ^ i * val B (l.drop i) := by
  by_cases h : i ≤ l.length
  · conv => lhs; rw [← List.take_append_drop i l]
    rw [val_append, List.length_take, Nat.min_eq_left h]
  · rw [List.take_of_length_le (by omega), List.drop_of_length_le (by omega)]
    simp [val]
theorem val_drop {B : Nat} (l : List Nat) (i : Nat) : val B (l.drop i) = l.getD i 0 + B * val B (l.drop (i + 1)) := by
  by_cases h : i < l.length
  · obtain ⟨x, hx, hd⟩ := Go.Wx.drop_get h
    rw [hd]
    simp [val, List.getD_eq_getElem?_getD, hx]
  · rw [List.drop_of_length_le (by omega), List.drop_of_length_le (by omega), List.getD_eq_getElem?_getD, List.getElem?_eq_none (by omega)]
    simp [val]
theorem val_take_lt {B : Nat} {l : List Nat} (hB : 0 < B) (h : Dig B l) (i : Nat) : val B (l.take i) < B ^ i := by
  refine Nat.lt_of_lt_of_le (val_lt (dig_take h i)) (Nat.pow_le_pow_right hB ?_)
  rw [List.length_take]
  omega
theorem mul_lt_pow {a b p B : Nat} (ha : a < p) (hb : b < B) : a + p * b < p * B := by
  have : p * (b + 1) ≤ p * B := Nat.mul_le_mul_left _ hb
  rw [Nat.mul_add] at this
  omega
end Nm
namespace Go.Wx
section
variable {P : Program} {k : Value → World → Prop} {kq : Value → Prop} {C : World → Prop} {t : TypeId} {w : World}
theorem xor32_run {x y : Nat} (hx : x < 4294967296) (hy : y < 4294967296) (w : World) : (binOp .xor t (.int .u32 (x : Int)) (.int .u32 (y : Int))).run P w = .ok (.int .u32 ((x ^^^ y : Nat) : Int)) w := by
  have h1 : (x ^^^ y) < 2 ^ 32 := Nat.xor_lt_two_pow (by omega) (by omega)
  have e : (BitVec.ofInt 32 (x : Int) ^^^ BitVec.ofInt 32 (y : Int)).toNat = x ^^^ y := by
    rw [BitVec.toNat_xor]
    simp only [BitVec.ofInt_natCast, BitVec.toNat_ofNat]
    rw [Nat.mod_eq_of_lt (by omega), Nat.mod_eq_of_lt (by omega)]
  have := wrap32 (x := ((x ^^^ y : Nat) : Int)) (by omega) (by omega)
  simp only [binOp_xor, Op.intBits, IntKind.bits, Sem.run_pure]
  exact congrArg (fun z => Result.ok z w) (congrArg _ ((congrArg (fun n : Nat => IntKind.wrap _ (n : Int)) e).trans this))
theorem not32_run {x : Nat} (hx : x < 4294967296) (w : World) : (Op.unary .xor (.int .u32 (x : Int))).run P w = .ok (.int .u32 ((4294967295 ^^^ x : Nat) : Int)) w := by
  have := xor32_run (P := P) (t := 0) (x := 4294967295) (y := x) (by omega) hx w
  exact this
theorem xor32 {x y : Nat} (z : Nat) (hx : x < 4294967296) (hy : y < 4294967296) (hz : x ^^^ y = z) (h : k (.int .u32 (z : Int)) w) : EvRun P (binOp .xor t (.int .u32 (x : Int)) (.int .u32 (y : Int))) w k := by
  subst hz
  exact run (xor32_run hx hy w) h
theorem not32 {x : Nat} (z : Nat) (hx : x < 4294967296) (hz : 4294967295 ^^^ x = z) (h : k (.int .u32 (z : Int)) w) : EvRun P (Op.unary .xor (.int .u32 (x : Int))) w k := by
  subst hz
  exact run (not32_run hx w) h
end
end Go.Wx
namespace Go.Proofs.YtbggaljmollhmaaGreatDoor
open Go.Wx Nm Vm
section
variable {C : Mem} {w : World}
theorem sub32_ct (x y z : Nat) (hx : x < 4294967296) (hy : y < 4294967296) (hz : z ≤ 1) (w : World) :
    CallOk Tryz.prog 173 ∧ Calls Tryz.prog 173 #[.int .u32 (x : Int), .int .u32 (y : Int), .int .u32 (z : Int)] w (fun e w' => ∃ d q : Nat, e = .returned (.tuple #[.int .u32 (d : Int), .int .u32 (q : Int)]) ∧ d < BB ∧ q ≤ 1 ∧ d + y + z = x + BB * q ∧ w' = w) := by
  refine ⟨⟨_, Tryz.func173, rfl, by decide⟩, ?_⟩
  refine calls_of (args := [_, _, _]) 25 [.tmp 6, .tmp 7] τok Tryz.func173 rfl rfl rfl (Nat.le_of_ble_eq_true rfl) ?_
  obtain ⟨d, hd⟩ : ∃ d, d = (x + 8589934592 - y - z) % 4294967296 := ⟨_, rfl⟩
  have hd' : d < 4294967296 := by omega
  have w1 : IntKind.wrap .u32 ((x : Int) - y) = (((x + 4294967296 - y) % 4294967296 : Nat) : Int) := by rw [wrap32']; omega
  refine intv _ w1 ?_
  have w2 : IntKind.wrap .u32 ((((x + 4294967296 - y) % 4294967296 : Nat) : Int) - z) = (d : Int) := by rw [wrap32', hd]; omega
  refine intv _ w2 ?_
  refine not32 _ hx rfl ?_
  have hn : (4294967295 ^^^ x) < 2 ^ 32 := Nat.xor_lt_two_pow (by omega) (by omega)
  refine and32 _ (by omega) hy rfl ?_
  have h1 : ((4294967295 ^^^ x) &&& y) < 2 ^ 32 := Nat.lt_of_le_of_lt Nat.and_le_right (by omega)
  refine xor32 _ hx hy rfl ?_
  have hxy : (x ^^^ y) < 2 ^ 32 := Nat.xor_lt_two_pow (by omega) (by omega)
  refine not32 _ (by omega) rfl ?_
  have hn2 : (4294967295 ^^^ (x ^^^ y)) < 2 ^ 32 := Nat.xor_lt_two_pow (by omega) (by omega)
  refine and32 _ (by omega) hd' rfl ?_
  have h2 : ((4294967295 ^^^ (x ^^^ y)) &&& d) < 2 ^ 32 := Nat.lt_of_le_of_lt Nat.and_le_right (by omega)
  refine or32 _ (by omega) (by omega) rfl ?_
  have hb := borrow32 hx hy hz hd
  obtain ⟨q, hq⟩ : ∃ q, q = if x < y + z then 1 else 0 := ⟨_, rfl⟩
  rw [← hq] at hb
  refine shr32 (n := 31) q (by decide) hb ?_
  refine ⟨d, q, rfl, hd', ?_, ?_, rfl⟩
  · rw [hq]; split <;> omega
  · rw [hq, hd]; unfold BB; split <;> omega

theorem compare_ct (hS : Sub C w) (x y : List Nat) (a a' : Option Addr) (c c' : Nat) (hx : Sl rW C a x) (hy : Sl rW C a' y) :
    CallOk Tryz.prog 172 ∧ Calls Tryz.prog 172 #[.slice a x.length c, .slice a' y.length c'] w (fun e w' => e = .returned (.int .i64 (if val BB x < val BB y then -1 else if val BB y < val BB x then 1 else 0)) ∧ Kp [] w w') := by
  refine ⟨⟨_, Tryz.func172, rfl, by decide⟩, ?_⟩
  have hdx : Dig BB x := hx.dig
  have hdy : Dig BB y := hy.dig
  have hxl := hx.1
  have hyl := hy.1
  refine calls_of (args := [_, _]) 29 [.tmp 4] τok Tryz.func172 rfl rfl rfl (Nat.le_of_ble_eq_true rfl) ?_
  refine fill _ rfl ?_
  refine new fun b1 w1 hb1 hB1 hs1 hk1 => ?_
  refine ev_call (longest_ct (n := x.length) (m := y.length) hB1 (by omega) (by omega)) ?_
  rintro e w2 ⟨rfl, hk2⟩
  obtain ⟨M, hM⟩ : ∃ M, M = max x.length y.length := ⟨_, rfl⟩
  rw [← hM]
  refine int64 (by omega) (by omega) ?_
  have hk02 := hk1.tr hk2
  refine lp τok (σ := Nat) (fun n => [(0, .slice a x.length c), (1, .slice a' y.length c'), (5, .int .i64 ((n : Int) - 1))]) (fun n w' => n ≤ M ∧ Kp [] w w' ∧ val BB (x.drop n) = val BB (y.drop n)) (fun n => n) M rfl ⟨rfl, rfl, rfl, trivial⟩
    ⟨Nat.le_refl _, hk02, by rw [List.drop_of_length_le (by omega), List.drop_of_length_le (by omega)]⟩ ?_
  rintro n w3 ⟨hn, hk3, heq⟩
  refine br_dec (fun h => ?_) (fun h => ?_)
  · obtain ⟨i, rfl⟩ : ∃ i, n = i + 1 := ⟨n - 1, by omega⟩
    have e1 : (((i + 1 : Nat) : Int) - 1) = (i : Int) := by omega
    rw [e1]
    refine ev_call (word_ct (hS.tr hk3) x a c hx i) ?_
    rintro e w5 ⟨rfl, hk5⟩
    refine ev_call (word_ct ((hS.tr hk3).tr hk5) y a' c' hy i) ?_
    rintro e w6 ⟨rfl, hk6⟩
    have hk06 := (hk3.tr hk5).tr hk6
    have vx := val_split (B := BB) x i
    have vy := val_split (B := BB) y i
    rw [val_drop] at vx vy
    rw [← heq] at vy
    obtain ⟨u, hu⟩ : ∃ u, x.getD i 0 = u := ⟨_, rfl⟩
    obtain ⟨v, hv⟩ : ∃ v, y.getD i 0 = v := ⟨_, rfl⟩
    rw [hu] at vx ⊢
    rw [hv] at vy ⊢
    have tx := val_take_lt (B := BB) (by decide) hdx i
    have ty := val_take_lt (B := BB) (by decide) hdy i
    rw [Nat.mul_add] at vx vy
    refine br_dec (fun g => ?_) (fun g => ?_)
    · have g : u < v := by omega
      have : BB ^ i * (u + 1) ≤ BB ^ i * v := Nat.mul_le_mul_left _ g
      rw [Nat.mul_add] at this
      rw [if_pos (by omega)]
      exact ⟨rfl, hk06⟩
    refine br_dec (fun g2 => ?_) (fun g2 => ?_)
    · have g2 : v < u := by omega
      have : BB ^ i * (v + 1) ≤ BB ^ i * u := Nat.mul_le_mul_left _ g2
      rw [Nat.mul_add] at this
      rw [if_neg (by omega), if_pos (by omega)]
      exact ⟨rfl, hk06⟩
    refine int64 (by omega) (by omega) ?_
    refine ⟨i, by omega, rfl, ⟨rfl, rfl, rfl, trivial⟩, by omega, hk06, ?_⟩
    rw [val_drop x i, val_drop y i, hu, hv, heq]
    omega
  · have hn0 : n = 0 := by omega
    subst hn0
    rw [List.drop_zero, List.drop_zero] at heq
    rw [heq, if_neg (Nat.lt_irrefl _), if_neg (Nat.lt_irrefl _)]
    exact ⟨rfl, hk3⟩
theorem isNat_up {n : Nat} {w w1 w2 : World} {v : Value} (hk : Kp [] w w1) (h : IsNat n w1 w2 v) : IsNat n w w2 v := by
  obtain ⟨a, c, rfl, h1, h2⟩ := h
  exact ⟨a, c, rfl, h1.mono fun b o v h => ⟨Nat.le_trans hk.size h.1, h.2⟩, h2⟩
set_option maxHeartbeats 1000000 in
theorem monus_ct (hS : Sub C w) (x y : List Nat) (a a' : Option Addr) (c c' : Nat) (hx : Sl rW C a x) (hy : Sl rW C a' y) (hxl : x.length ≤ 900000) (hyl : y.length ≤ 900000) :
    CallOk Tryz.prog 146 ∧ Calls Tryz.prog 146 #[.slice a x.length c, .slice a' y.length c'] w (fun e w' => (∃ v, e = .returned v ∧ IsNat (val BB x - val BB y) w w' v) ∧ Kp [] w w') := by
  refine ⟨⟨_, Tryz.func146, rfl, by decide⟩, ?_⟩
  have hdx : Dig BB x := hx.dig
  have hdy : Dig BB y := hy.dig
  refine calls_of (args := [_, _]) 39 [.tmp 4] τok Tryz.func146 rfl rfl rfl (Nat.le_of_ble_eq_true rfl) ?_
  refine ev_call (compare_ct hS x y a a' c c' hx hy) ?_
  rintro e w1 ⟨rfl, hk1⟩
  refine br_dec (fun h => ?_) (fun h => ?_)
  · have hlt : val BB x < val BB y := by
      by_cases g : val BB x < val BB y
      · exact g
      · rw [if_neg g] at h
        split at h <;> omega
    refine fill [] rfl ?_
    refine new fun b2 w2 hb2 hB2 hs2 hk2 => ?_
    refine ⟨⟨_, rfl, some ⟨b2, 0, none⟩, 0, ?_, ?_, ?_⟩, hk1.tr hk2⟩
    · rw [show val BB x - val BB y = 0 by omega, digs_zero]; rfl
    · rw [show val BB x - val BB y = 0 by omega, digs_zero]; exact Sl.nil _ _ _
    · rw [show val BB x - val BB y = 0 by omega, digs_zero]; simp
  have hle : val BB y ≤ val BB x := by
    by_cases g : val BB x < val BB y
    · rw [if_pos g] at h; exact absurd (by decide) h
    · omega
  obtain ⟨M, hM⟩ : ∃ M, M = x.length := ⟨_, rfl⟩
  rw [← hM]
  refine mk τok (z := [.int .u32 0]) rfl rfl M rfl (by decide) (by omega) (by omega) fun b3 w3 hb3 hB3 hs3 hk3 => ?_
  have hk03 := hk1.tr hk3
  have hR3 := RowN.rep hB3
  have hb3g : w.heap.size ≤ b3 := by rw [hb3]; exact hk1.size
  have hb3l := hR3.lt
  refine lp τok (σ := Nat × List Nat × Nat) (fun q => [(0, .slice a M c), (1, .slice a' y.length c'), (5, .slice (some ⟨b3, 0, none⟩) M M), (6, .int .u32 (q.2.2 : Int)), (16, .slice (some ⟨b3, 0, none⟩) M M), (17, .int .i64 M), (18, .int .i64 q.1)])
    (fun q w' => q.1 ≤ M ∧ q.2.1.length = M ∧ Dig BB q.2.1 ∧ q.2.2 ≤ 1 ∧ RowN .u32 w'.heap b3 q.2.1 40 ∧ Kp [b3] w3 w' ∧ val BB (q.2.1.take q.1) + val BB (y.take q.1) = val BB (x.take q.1) + BB ^ q.1 * q.2.2) (fun q => M - q.1) (0, List.replicate M 0, 0) rfl
    ⟨rfl, rfl, rfl, rfl, rfl, rfl, rfl, trivial⟩ ⟨Nat.zero_le _, by simp, dig_rep (by decide) _, Nat.zero_le _, hR3, Kp.refl _ _, by simp [val]⟩ ?_
  rintro ⟨i, o, cy⟩ w4 ⟨hi, hol, hod, hcy, hR, hk4, hval⟩
  simp only at hi hol hod hcy hR hval
  have hS4 : Sub C w4 := (hS.tr hk03).kp hk4 fun b o v hc => by have := hS.lt b o v hc; simp; omega
  refine br_dec (fun h => ?_) (fun h => ?_)
  · have hlt : i < M := by omega
    obtain ⟨u, hu, _⟩ := drop_get (l := x) (k := i) (by omega)
    obtain ⟨bx, ox, rfl, hcx, hu'⟩ := hx.nat hu
    have hu' : u < 4294967296 := hu'
    obtain ⟨v, hv⟩ : ∃ v, y.getD i 0 = v := ⟨_, rfl⟩
    have hv' : v < 4294967296 := by rw [← hv]; exact dig_getD hdy (by decide) i
    refine drawG τok (fun w' => Kp [b3] w3 w' ∧ Sub C w') ?_
    refine readsG τok [0, 1, 2, 3, 4, 5, 6, 7, 9] 8 #[true, true, true, true, true, true, true, true, false, true, false, false, false, false, false, false, false] rfl rfl (by kernel_rfl) (by kernel_rfl) (by kernel_rfl) ⟨hk4.dr _, by exact fun b o v hc => hS4 b o v hc⟩ ?_
    refine ix i rfl (by omega) ?_
    refine ldQ (fun z hz => hz.2 _ _ _ hcx) ?_
    refine nextG τok 8 7 #[true, true, true, true, true, true, true, true, true, true, false, false, false, false, false, false, false] rfl rfl rfl (by kernel_rfl) ?_
    refine ev_call (word_ct (C := C) (by exact fun b o v hc => hS4 b o v hc) y a' c' hy i) ?_
    rintro e w5 ⟨rfl, hk5⟩
    have hk5 : Kp [] w4 w5 := hk5.rd
    have hR5 := hR.kp hk5 (by simp)
    refine ⟨.inl ⟨hk4.tr hk5, hS4.tr hk5⟩, ?_⟩
    rw [hv]
    refine nextG τok 10 6 #[true, true, true, true, true, true, true, true, true, true, true, false, false, false, false, false, false] rfl rfl rfl (by kernel_rfl) ?_
    refine ev_call (sub32_ct u v cy hu' hv' hcy w5) ?_
    rintro e w6 ⟨d, cz, rfl, hd, hcz, e3, rfl⟩
    refine ⟨.inl ⟨hk4.tr hk5, hS4.tr hk5⟩, ?_⟩
    refine nextG τok 11 5 #[true, true, true, true, true, true, true, true, true, true, true, true, false, false, false, false, false] rfl rfl rfl (by kernel_rfl) ?_
    refine ⟨.inl ⟨hk4.tr hk5, hS4.tr hk5⟩, ?_⟩
    refine readsG τok [12, 13] 3 #[true, true, true, true, true, true, true, true, true, true, true, true, true, true, false, false, false] rfl rfl (by kernel_rfl) (by kernel_rfl) (by kernel_rfl) ⟨hk4.tr hk5, hS4.tr hk5⟩ ?_
    refine nextG τok 14 2 #[true, true, true, true, true, true, true, true, true, true, true, true, true, true, true, false, false] rfl rfl rfl (by kernel_rfl) ?_
    refine ix i rfl hlt ?_
    refine ⟨.inl ⟨hk4.tr hk5, hS4.tr hk5⟩, ?_⟩
    refine nextG τok 15 1 #[true, true, true, true, true, true, true, true, true, true, true, true, true, true, true, true, false] rfl rfl rfl (by kernel_rfl) ?_
    refine stN' hR5 (by omega) fun w8 hR8 hs8 hk8 => ?_
    have hk48 := (hk4.tr hk5).trans hk8 (fun x hx _ => hx)
    refine ⟨.inl ⟨hk48, (hS4.tr hk5).kp hk8 fun b o v hc => by have := hS.lt b o v hc; simp; omega⟩, ?_⟩
    refine nextG τok 16 0 #[true, true, true, true, true, true, true, true, true, true, true, true, true, true, true, true, true] rfl rfl rfl (by kernel_rfl) ?_
    refine ⟨.inr (by kernel_rfl), ?_⟩
    refine doneG (by kernel_rfl) ?_
    refine int64 (by omega) (by omega) ?_
    refine ⟨(i + 1, o.set i d, cz), by simp only; omega, rfl, ⟨rfl, rfl, rfl, rfl, rfl, rfl, rfl, trivial⟩, hlt, by simp only; rw [List.length_set]; exact hol, dig_set hod hd, hcz, hR8, hk48, ?_⟩
    simp only
    have e1 : (o.set i d).take (i + 1) = o.take i ++ [d] := by
      rw [take_get (l := o.set i _) (k := i) (x := d) (by rw [List.getElem?_set]; simp; omega), List.take_set_of_le (Nat.le_refl _)]
    rw [e1, val_append, val_take_succ hu, val_take_getD, hv, List.length_take, Nat.min_eq_left (by omega), Nat.pow_succ]
    have e2 : val BB [d] = d := by simp [val]
    rw [e2, Nat.mul_assoc]
    have e4 : BB ^ i * d + BB ^ i * v + BB ^ i * cy = BB ^ i * u + BB ^ i * (BB * cz) := by
      rw [← Nat.mul_add, ← Nat.mul_add, e3, Nat.mul_add]
    omega
  · have hiM : i = M := by omega
    subst hiM
    have vy := val_split (B := BB) y i
    have hxlt := val_lt hdx
    rw [← hM] at hxlt
    have hdrop : val BB (y.drop i) = 0 := by
      rcases Nat.eq_zero_or_pos (val BB (y.drop i)) with h | h
      · exact h
      · have : BB ^ i * 1 ≤ BB ^ i * val BB (y.drop i) := Nat.mul_le_mul_left _ h
        omega
    rw [hdrop, Nat.mul_zero, Nat.add_zero] at vy
    rw [List.take_of_length_le (l := o) (by omega), List.take_of_length_le (l := x) (by omega), ← vy] at hval
    have holt := val_lt hod
    rw [hol] at holt
    have hcz : cy = 0 := by
      rcases Nat.eq_zero_or_pos cy with h | h
      · exact h
      · have : BB ^ i * 1 ≤ BB ^ i * cy := Nat.mul_le_mul_left _ h
        omega
    subst hcz
    rw [Nat.mul_zero, Nat.add_zero] at hval
    have hsl : Sl rW (New w.heap.size w4) (some ⟨b3, 0, none⟩) o := hR.sl hod (by omega) hb3g
    have hnc := norm_ct (New.sub w.heap.size w4) o (some ⟨b3, 0, none⟩) i hsl (by omega)
    rw [hol, show val BB o = val BB x - val BB y by omega] at hnc
    refine ev_call hnc ?_
    rintro e w5 ⟨⟨v, rfl, hv5⟩, hk5⟩
    have hk04 : Kp [] w w4 := hk03.trans hk4 fun x hx hl => by simp at hx; omega
    exact ⟨⟨_, rfl, isNat_up hk04 hv5⟩, hk04.tr hk5⟩

set_option maxHeartbeats 1000000 in
theorem nmul_ct (hS : Sub C w) (x y : List Nat) (a a' : Option Addr) (c c' : Nat) (hx : Sl rW C a x) (hy : Sl rW C a' y) (hxl : x.length ≤ 400000) (hyl : y.length ≤ 400000) :
    CallOk Tryz.prog 147 ∧ Calls Tryz.prog 147 #[.slice a x.length c, .slice a' y.length c'] w (fun e w' => (∃ v, e = .returned v ∧ IsNat (val BB x * val BB y) w w' v) ∧ Kp [] w w') := by
  refine ⟨⟨_, Tryz.func147, rfl, by decide⟩, ?_⟩
  have hdx : Dig BB x := hx.dig
  have hdy : Dig BB y := hy.dig
  refine calls_of (args := [_, _]) 68 [.tmp 4] τok Tryz.func147 rfl rfl rfl (Nat.le_of_ble_eq_true rfl) ?_
  obtain ⟨M, hM⟩ : ∃ M, M = x.length := ⟨_, rfl⟩
  obtain ⟨N, hN⟩ : ∃ N, N = y.length := ⟨_, rfl⟩
  rw [← hM, ← hN]
  refine int64 (by omega) (by omega) ?_
  refine mk τok (z := [.int .u32 0]) rfl rfl (M + N) (by omega) (by decide) (by omega) (by omega) fun b3 w3 hb3 hB3 hs3 hk3 => ?_
  have hR3 := RowN.rep hB3
  have hb3l := hR3.lt
  refine lp τok (σ := Nat × List Nat) (fun q => [(0, .slice a M c), (1, .slice a' N c'), (5, .slice (some ⟨b3, 0, none⟩) (M + N) (M + N)), (18, .slice a M c), (19, .int .i64 M), (20, .int .i64 q.1)])
    (fun q w' => q.1 ≤ M ∧ q.2.length = M + N ∧ Dig BB q.2 ∧ RowN .u32 w'.heap b3 q.2 40 ∧ Kp [b3] w3 w' ∧ val BB q.2 = val BB (x.take q.1) * val BB y) (fun q => M - q.1) (0, List.replicate (M + N) 0) rfl
    ⟨rfl, rfl, rfl, rfl, rfl, rfl, trivial⟩ ⟨Nat.zero_le _, by simp, dig_rep (by decide) _, hR3, Kp.refl _ _, by simp [val, val_rep]⟩ ?_
  rintro ⟨i, o⟩ w4 ⟨hi, hol, hod, hR, hk4, hval⟩
  simp only at hi hol hod hR hval
  have hS4 : Sub C w4 := (hS.tr hk3).kp hk4 fun b o v hc => by have := hS.lt b o v hc; simp; omega
  refine br_dec (fun h => ?_) (fun h => ?_)
  · have hlt : i < M := by omega
    obtain ⟨u, hu, _⟩ := drop_get (l := x) (k := i) (by omega)
    obtain ⟨bx, ox, hax, hcx, hu'⟩ := hx.nat hu
    subst hax
    have hu' : u < 4294967296 := hu'
    refine ix i rfl (by omega) ?_
    refine ldC hS4 hcx ?_
    -- what stands above is nothing yet
    have hhigh : ∀ k, i + N ≤ k → o.getD k 0 = 0 := fun k hk => by
      by_cases hkl : k < o.length
      · obtain ⟨d, hd, hdd⟩ := drop_get hkl
        have hlt1 : val BB (x.take i) * val BB y < BB ^ i * BB ^ N := by
          have h1 := val_take_lt (B := BB) (by decide) hdx i
          have h2 := val_lt hdy
          rw [← hN] at h2
          exact Nat.mul_lt_mul'' h1 h2
        rw [← hval, ← Nat.pow_add] at hlt1
        have h3 : BB ^ (i + N) ≤ BB ^ k := Nat.pow_le_pow_right (by decide) hk
        have h4 := val_split (B := BB) o k
        have h5 : val BB (o.drop k) = 0 := by
          rcases Nat.eq_zero_or_pos (val BB (o.drop k)) with h | h
          · exact h
          · have : BB ^ k * 1 ≤ BB ^ k * val BB (o.drop k) := Nat.mul_le_mul_left _ h
            omega
        have h6 := val_zero (by decide) h5 d (by rw [hdd]; simp)
        rw [List.getD_eq_getElem?_getD, hd]
        exact h6
      · rw [List.getD_eq_getElem?_getD, List.getElem?_eq_none (by omega)]; rfl
    refine lp τok (σ := Nat × List Nat × Nat) (fun q => [(0, .slice (some ⟨bx, ox, none⟩) M c), (1, .slice a' N c'), (5, .slice (some ⟨b3, 0, none⟩) (M + N) (M + N)), (6, .int .i64 i), (7, .int .u32 (u : Int)), (8, .int .u64 (q.2.2 : Int)), (18, .slice (some ⟨bx, ox, none⟩) M c), (19, .int .i64 M), (20, .int .i64 i), (25, .slice a' N c'), (26, .int .i64 N), (27, .int .i64 q.1)])
      (fun q w' => q.1 ≤ N ∧ q.2.1.length = M + N ∧ Dig BB q.2.1 ∧ q.2.2 < 4294967296 ∧ RowN .u32 w'.heap b3 q.2.1 40 ∧ Kp [b3] w3 w' ∧ (∀ k, i + N ≤ k → q.2.1.getD k 0 = 0) ∧ val BB q.2.1 + BB ^ (i + q.1) * q.2.2 = val BB (x.take i) * val BB y + BB ^ i * u * val BB (y.take q.1)) (fun q => N - q.1) (0, o, 0) rfl
      ⟨rfl, rfl, rfl, rfl, rfl, rfl, rfl, rfl, rfl, rfl, rfl, rfl, trivial⟩ ⟨Nat.zero_le _, hol, hod, by simp only; omega, hR, hk4, hhigh, by simp [val, hval]⟩ ?_
    clear hR hol hod hhigh hval hk4 hS4 h
    rintro ⟨j, o, cy⟩ w5 ⟨hj, hol, hod, hcy, hR, hk4, hhigh, hval⟩
    simp only at hj hol hod hcy hR hhigh hval
    have hS5 : Sub C w5 := (hS.tr hk3).kp hk4 fun b o v hc => by have := hS.lt b o v hc; simp; omega
    refine br_dec (fun g => ?_) (fun g => ?_)
    · have hltj : j < N := by omega
      obtain ⟨v, hv, _⟩ := drop_get (l := y) (k := j) (by omega)
      obtain ⟨by', oy, hay, hcy', hv'⟩ := hy.nat hv
      subst hay
      have hv' : v < 4294967296 := hv'
      refine ix j rfl (by omega) ?_
      refine ldC hS5 hcy' ?_
      have hmul : u * v ≤ 4294967295 * 4294967295 := Nat.mul_le_mul (by omega) (by omega)
      refine u64n u (by omega) rfl ?_
      refine u64n v (by omega) rfl ?_
      obtain ⟨uv, huv⟩ : ∃ z, z = u * v := ⟨_, rfl⟩
      refine u64n uv (by omega) (by rw [huv]; simp) ?_
      refine int64 (by omega) (by omega) ?_
      obtain ⟨d, hd⟩ : ∃ d, o.getD (i + j) 0 = d := ⟨_, rfl⟩
      have hd' : d < 4294967296 := by rw [← hd]; exact dig_getD hod (by decide) _
      have hcd := hR.cl (k := i + j) (by omega)
      rw [hd] at hcd
      refine ix (i + j) (by omega) (by omega) ?_
      refine ld hcd.cell ?_
      refine u64n d (by omega) rfl ?_
      refine u64n (uv + d) (by omega) (by omega) ?_
      refine u64n (uv + d + cy) (by omega) (by simp only; omega) ?_
      refine int64 (by omega) (by omega) ?_
      obtain ⟨dl, hdl⟩ : ∃ z, z = (uv + d + cy) % 4294967296 := ⟨_, rfl⟩
      obtain ⟨dh, hdh⟩ : ∃ z, z = (uv + d + cy) / 4294967296 := ⟨_, rfl⟩
      refine u32m dl hdl.symm ?_
      refine ix (i + j) (by omega) (by omega) ?_
      refine stN' hR (by omega) fun w8 hR8 hs8 hk8 => ?_
      refine shr64 (n := 32) dh (by decide) hdh.symm ?_
      refine int64 (by omega) (by omega) ?_
      refine ⟨(j + 1, o.set (i + j) dl, dh), by simp only; omega, rfl, ⟨rfl, rfl, rfl, rfl, rfl, rfl, rfl, rfl, rfl, rfl, rfl, rfl, trivial⟩, hltj, by simp only; rw [List.length_set]; exact hol, dig_set hod (by unfold BB; omega), by simp only; omega, hR8, hk4.trans hk8 (fun x hx _ => hx), fun k hk => ?_, ?_⟩
      · simp only
        rw [List.getD_eq_getElem?_getD, List.getElem?_set_ne (by omega), ← List.getD_eq_getElem?_getD]
        exact hhigh k hk
      · simp only
        have e1 := val_set (B := BB) (l := o) (i := i + j) (x := dl) (by omega)
        rw [hd] at e1
        rw [show i + (j + 1) = i + j + 1 by omega, Nat.pow_succ, val_take_succ hv, Nat.mul_add]
        have e3 : BB * dh + dl = uv + d + cy := by unfold BB; omega
        have e4 : BB ^ (i + j) * (BB * dh) + BB ^ (i + j) * dl = BB ^ (i + j) * uv + BB ^ (i + j) * d + BB ^ (i + j) * cy := by
          rw [← Nat.mul_add, e3, Nat.mul_add, Nat.mul_add]
        have e5 : BB ^ i * u * (BB ^ j * v) = BB ^ (i + j) * uv := by
          rw [huv, Nat.pow_add]
          simp only [Nat.mul_assoc, Nat.mul_left_comm, Nat.mul_comm]
        rw [e5, Nat.mul_assoc (BB ^ (i + j)) BB dh]
        omega
    · have hjN : j = N := by omega
      subst hjN
      rw [List.take_of_length_le (l := y) (by omega)] at hval
      refine int64 (by omega) (by omega) ?_
      refine u32m cy (by simp only; omega) ?_
      refine ix (i + j) (by omega) (by omega) ?_
      refine stN' hR (by omega) fun w8 hR8 hs8 hk8 => ?_
      refine int64 (by omega) (by omega) ?_
      refine ⟨(i + 1, o.set (i + j) cy), by simp only; omega, rfl, ⟨rfl, rfl, rfl, rfl, rfl, rfl, trivial⟩, hlt, by simp only; rw [List.length_set]; exact hol, dig_set hod (by unfold BB; omega), hR8, hk4.trans hk8 (fun x hx _ => hx), ?_⟩
      simp only
      have e1 := val_set (B := BB) (l := o) (i := i + j) (x := cy) (by omega)
      rw [hhigh _ (Nat.le_refl _)] at e1
      rw [val_take_succ hu, Nat.add_mul]
      omega
  · have hiM : i = M := by omega
    subst hiM
    rw [List.take_of_length_le (by omega)] at hval
    have hsl : Sl rW (New w.heap.size w4) (some ⟨b3, 0, none⟩) o := hR.sl hod (by omega) (by omega)
    have hnc := norm_ct (New.sub w.heap.size w4) o (some ⟨b3, 0, none⟩) (i + N) hsl (by omega)
    rw [hol, hval] at hnc
    refine ev_call hnc ?_
    rintro e w5 ⟨⟨v, rfl, hv5⟩, hk5⟩
    have hk04 : Kp [] w w4 := hk3.trans hk4 fun x hx hl => by simp at hx; omega
    exact ⟨⟨_, rfl, isNat_up hk04 hv5⟩, hk04.tr hk5⟩
end
end Go.Proofs.YtbggaljmollhmaaGreatDoor

/-
  A map of ints in memory as a function (as in the Level texts).
-/
set_option linter.unusedSimpArgs false
set_option linter.unusedVariables false
namespace Go.Proofs.YtbggaljmollhmaaGreatDoor
open Go.Wx

def putF (f : Int → Option Int) (k v : Int) : Int → Option Int := fun x => if x = k then some v else f x
theorem wf_of {x : Int} (h : I64 x) : (Lit.int .i64 x).wf = true := by
  unfold I64 at h
  simp [Lit.wf, IntKind.min, IntKind.max, IntKind.signed, IntKind.bits]
  omega
def MV (w : World) (b : Nat) (f : Int → Option Int) (n : Nat) : Prop := ∃ D : DataW Unit, w.ownsMap Tryz.prog 3 (plainElem Tryz.prog 3) b n D ∧
  ∀ x, I64 x → Maps.has D (.int .i64 x) = (f x).isSome ∧ D.atKey (.int .i64 x) (.lit (.int .i64 0)) = .lit (.int .i64 ((f x).getD 0))
theorem MV.kp {w w' : World} {b n : Nat} {f : Int → Option Int} {X : List Nat} (h : MV w b f n) (k : Kp X w w') (hb : b ∉ X) : MV w' b f n := by
  obtain ⟨D, h1, h2⟩ := h
  have hl := h1.lt
  obtain ⟨es, clock, hb', Ft, hs, hD⟩ := h1
  exact ⟨D, ⟨es, clock, by rw [k.block b hl hb]; exact hb', Ft, hs, hD⟩, h2⟩
theorem MV.lt {w : World} {b n : Nat} {f : Int → Option Int} (h : MV w b f n) : b < w.heap.size := by
  obtain ⟨D, h1, _⟩ := h
  exact h1.lt
theorem MV.made {w : World} {k : Value → World → Prop} (hk : ∀ b w', b = w.heap.size → MV w' b (fun _ => none) 0 → w'.heap.size = b + 1 → Kp [] w w' → k (.map (some b)) w') : EvRun Tryz.prog (Instr.makeMap 126 none) w k := by
  refine run (show (Instr.makeMap 126 none).run Tryz.prog w = .ok (.map (some w.heap.size)) (w.alloc (.map #[] 0)) from rfl) (hk _ _ rfl ⟨.map [], World.ownsMap_made w _ _ _, fun x _ => ⟨rfl, rfl⟩⟩ (by simp) (Kp.alloc _ _))
theorem MV.look1 {w : World} {b n : Nat} {f : Int → Option Int} (h : MV w b f n) {x : Int} (hx : I64 x) {k : Value → World → Prop} (hk : k (.int .i64 ((f x).getD 0)) w) : EvRun Tryz.prog (Instr.lookup 126 (.map (some b)) (.int .i64 x) false) w k := by
  obtain ⟨D, h1, h2⟩ := h
  obtain ⟨c, hr, hc, _⟩ := h1.lookup_int (Maps.int_keyed Tryz.underlying3) Tryz.underlying126 Tryz.underlying3 (Tryz.zeroValue3 w) (Maps.keyOf_int_mk Tryz.underlying3 (wf_of hx))
  rw [(h2 x hx).2] at hc
  simp at hc
  rw [← hc] at hr
  exact run hr hk
theorem MV.put {w : World} {b n : Nat} {f : Int → Option Int} (h : MV w b f n) (hn : n < 1000000) {x v : Int} (hx : I64 x) (hv : I64 v) {k : World → Prop} (hk : ∀ w', MV w' b (putF f x v) (n + 1) → Kp [b] w w' → k w') : EvRunU Tryz.prog (Instr.mapUpdate 126 (.map (some b)) (.int .i64 x) (.int .i64 v)) w k := by
  obtain ⟨D, h1, h2⟩ := h
  obtain ⟨w', hr, h3, hg⟩ := h1.update (Maps.int_keyed Tryz.underlying3) Tryz.underlying126 (by unfold maxLen; omega) (Maps.keyOf_int_mk Tryz.underlying3 (wf_of hx)) (plainElem_int Tryz.underlying3 (wf_of hv))
  refine runU hr (hk w' ⟨_, h3, fun y hy => ?_⟩ (by simpa using grown_kp hg))
  by_cases e : y = x
  · subst e
    rw [Maps.has_put_same h1.isMap (by trivial), Maps.atKey_put_same h1.isMap (by trivial)]
    simp [putF]
  · have hne : (Lit.int .i64 y) ≠ .int .i64 x := by simpa using e
    rw [Maps.has_put_other hne, Maps.atKey_put_other hne]
    simp only [putF, if_neg e]
    exact h2 y hy
end Go.Proofs.YtbggaljmollhmaaGreatDoor

/-
  Package heap at big numbers: what stands in memory; New, Small, Box, heads, right, thing, Read.
-/
set_option linter.unusedSimpArgs false
set_option linter.unusedVariables false
namespace Go.Wx
theorem Own.kpG {α : Type} {R : Rd α} {e lo : Nat} {w w' : World} {v : Value} {l : List α} {X : List Nat} (h : Own R e lo w v l) (hf : Flat R) (k : Kp X w w') (hx : ∀ g, v.ownBlock = some g → g ∉ X) : Own R e lo w' v l := by
  obtain ⟨⟨css, h1, h2⟩, h3⟩ := h
  exact ⟨⟨css, own_kp h1 k hx, h2.mono fun cs x hx' => hf _ _ _ _ hx'⟩, Nat.le_trans h3 k.size⟩
section
variable {P : Program} {τ : Tau} (hτ : TauOk P τ) {T e sz bs : Nat} (hs : look τ.slcs T = some (e, sz, bs)) {C : World → Prop} {kq : Value → Prop} {a : Option Addr} {len cap : Nat}
include hτ hs
theorem slcLHQ {j j' : IntKind} {i i' : Int} (l h : Nat) (v : Value) (hi : i = l) (hi' : i' = h) (h1 : l ≤ h) (h2 : h ≤ cap) (hv : sliced a l h cap sz = v) (hk : kq v) : EvRunQ P C (Instr.sliceAt T (.slice a len cap) (some (.int j i)) (some (.int j' i')) none) kq := by
  obtain ⟨hu, hz⟩ := slc_elem hτ hs
  subst hi hi' hv
  refine runQ (v := sliced a l h cap sz) (fun w _ => ?_) hk
  rw [run_sliceAt_slice w T _ _ _ _ hu, run_slice_lh w T a len cap hu j j' l h (by omega) (by omega) (by omega), hz]
  simp
end
theorem sliced_lh {b o l h cap sz : Nat} (hl : l < cap) : sliced (some ⟨b, o, none⟩) l h cap sz = .slice (some ⟨b, o + l * sz, none⟩) (h - l) (cap - l) := by
  unfold sliced
  rw [if_neg (by omega)]
  simp [add_off]
end Go.Wx
namespace Vc
open Nm Vm
/-- how many words the number takes, its head among them -/
def sz (n : Nat) : Nat := 1 + (digs BB n).length
def flat (G : List Nat) : List Nat := G.flatMap fun n => (2 + 4 * (digs BB n).length) :: digs BB n
def usd (G : List Nat) : Nat := (flat G).length
/-- where the x-th number begins -/
def pos (G : List Nat) (x : Nat) : Nat := usd (G.take x)
/-- a word that is the number n -/
def Wd (G : List Nat) (n u : Nat) : Prop := (n ≤ mostSmall ∧ u = 8 * n + 1) ∨ ∃ x, G[x]? = some n ∧ u = 2 * pos G x
theorem usd_snoc (G : List Nat) (n : Nat) : usd (G ++ [n]) = usd G + sz n := by
  unfold usd flat sz
  simp
  omega
theorem flat_snoc (G : List Nat) (n : Nat) : flat (G ++ [n]) = flat G ++ (2 + 4 * (digs BB n).length) :: digs BB n := by unfold flat; simp
theorem pos_snoc {G : List Nat} {n x : Nat} (h : x < G.length) : pos (G ++ [n]) x = pos G x := by
  unfold pos
  rw [List.take_append_of_le_length (by omega)]
theorem pos_new (G : List Nat) (n : Nat) : pos (G ++ [n]) G.length = usd G := by
  unfold pos
  rw [List.take_append_of_le_length (by omega), List.take_length]
theorem Wd.snoc {G : List Nat} {n u m : Nat} (h : Wd G n u) : Wd (G ++ [m]) n u := by
  rcases h with h | ⟨x, hx, hu⟩
  · exact .inl h
  · have := Go.Wx.get_lt hx
    exact .inr ⟨x, by rw [List.getElem?_append_left this]; exact hx, by rw [pos_snoc this]; exact hu⟩
theorem Wd.new (G : List Nat) (n : Nat) : Wd (G ++ [n]) n (2 * usd G) := .inr ⟨G.length, by simp, by rw [pos_new]⟩
theorem flat_part {G : List Nat} {x n : Nat} (h : G[x]? = some n) : ∃ r, flat G = flat (G.take x) ++ (2 + 4 * (digs BB n).length) :: (digs BB n ++ r) := by
  have hlt := Go.Wx.get_lt h
  refine ⟨flat (G.drop (x + 1)), ?_⟩
  obtain ⟨y, hy, hd⟩ := Go.Wx.drop_get hlt
  rw [h] at hy
  obtain rfl := Option.some.inj hy
  conv => lhs; rw [← List.take_append_drop x G, hd]
  unfold flat
  simp
theorem pos_le {G : List Nat} {x n : Nat} (h : G[x]? = some n) : pos G x + sz n ≤ usd G := by
  obtain ⟨r, hr⟩ := flat_part h
  unfold pos usd sz
  rw [hr]
  simp
  omega
theorem flat_head {G : List Nat} {x n : Nat} (h : G[x]? = some n) : (flat G)[pos G x]? = some (2 + 4 * (digs BB n).length) := by
  obtain ⟨r, hr⟩ := flat_part h
  unfold pos usd
  rw [hr, List.getElem?_append_right (Nat.le_refl _), Nat.sub_self]
  rfl
theorem flat_body {G : List Nat} {x n : Nat} (h : G[x]? = some n) : ((flat G).drop (pos G x + 1)).take (digs BB n).length = digs BB n := by
  obtain ⟨r, hr⟩ := flat_part h
  unfold pos usd
  rw [hr, show (flat (G.take x)).length + 1 = (flat (G.take x)).length + 1 from rfl, List.drop_append, List.drop_of_length_le (by omega), List.nil_append, Nat.add_sub_cancel_left]
  simp
theorem pos_lt {G : List Nat} {x y n : Nat} (hy : G[x]? = some n) (h : x < y) (hl : y ≤ G.length) : pos G x < pos G y := by
  have h1 : pos G x + sz n ≤ pos G y := by
    have e : (G.take y)[x]? = some n := by rw [List.getElem?_take, if_pos h]; exact hy
    have := pos_le e
    have e2 : pos (G.take y) x = pos G x := by unfold pos; rw [List.take_take, Nat.min_eq_left (by omega)]
    rw [e2] at this
    exact this
  unfold sz at h1
  omega
theorem pos_inj {G : List Nat} {x y n m : Nat} (hx : G[x]? = some n) (hy : G[y]? = some m) (h : pos G x = pos G y) : x = y := by
  have h1 := Go.Wx.get_lt hx
  have h2 := Go.Wx.get_lt hy
  rcases Nat.lt_trichotomy x y with h3 | h3 | h3
  · have := pos_lt hx h3 (by omega); omega
  · exact h3
  · have := pos_lt hy h3 (by omega); omega
theorem flat_dig {G : List Nat} (h : ∀ n ∈ G, (digs BB n).length ≤ 65535) : Dig BB (flat G) := fun d hd => by
  unfold flat at hd
  obtain ⟨n, hn, hd⟩ := List.mem_flatMap.1 hd
  have := h n hn
  rcases List.mem_cons.1 hd with rfl | hd
  · have hB : BB = 4294967296 := rfl
    omega
  · exact digs_dig BB_two n d hd
end Vc
namespace Go.Proofs.YtbggaljmollhmaaGreatDoor
open Go.Wx Nm Vm Vc

def kindsL : List Value := [.int .i64 1023, .int .i64 1, .int .i64 16, .int .i64 4095, .int .i64 0, .int .i64 255, .int .i64 0, .int .i64 1, .int .i64 65535]
def Kt (C : Mem) : Prop := ∀ (j : Nat) v, kindsL[j]? = some v → C 0 j v

/-- the heap in memory: numbers alone -/
structure Hp (lo : Nat) (w : World) (bh bp : Nat) (vw : Value) (words : Nat) (G : List Nat) : Prop where
  h : Bk w.heap bh [.int .i64 words, vw, .map (some bp)] 131
  map : ∃ f, MV w bp f G.length ∧ ∀ (x n : Nat), G[x]? = some n → f (pos G x) = some ((sz n : Nat) : Int)
  row : Own rW 82 lo w vw (flat G)
  nd : (bh :: bp :: vw.ownBlock.toList).Nodup
  ge : lo ≤ bh ∧ lo ≤ bp
  len : ∀ n ∈ G, (digs BB n).length ≤ 65535 ∧ mostSmall < n
  few : usd G ≤ 65536
  bd : words ≤ 65536
theorem Hp.kp {lo : Nat} {w w' : World} {bh bp : Nat} {vw : Value} {words : Nat} {G : List Nat} {X : List Nat} (h : Hp lo w bh bp vw words G) (k : Kp X w w') (hx : ∀ b ∈ bh :: bp :: vw.ownBlock.toList, b ∉ X) : Hp lo w' bh bp vw words G := by
  obtain ⟨f, hf, hf2⟩ := h.map
  exact ⟨h.h.kp k (hx bh (by simp)), ⟨f, hf.kp k (hx bp (by simp)), hf2⟩, h.row.kpG (flatN _ _) k (fun g hg => hx g (by simp [hg])), h.nd, h.ge, h.len, h.few, h.bd⟩
theorem usd_len {G : List Nat} (h : ∀ n ∈ G, (digs BB n).length ≤ 65535 ∧ mostSmall < n) : G.length ≤ usd G := by
  unfold usd flat
  clear h
  induction G with
  | nil => simp
  | cons a G ih => simp only [List.flatMap_cons, List.length_append, List.length_cons]; omega

section
variable {C : Mem} {w : World}
theorem empty_ct (w : World) : CallOk Tryz.prog 62 ∧ Calls Tryz.prog 62 #[] w (fun e w' => ∃ bp, e = .returned (.agg #[.slice none 0 0, .map (some bp)]) ∧ MV w' bp (fun _ => none) 0 ∧ w.heap.size ≤ bp ∧ Kp [] w w') := by
  refine ⟨⟨_, Tryz.func62, rfl, by decide⟩, ?_⟩
  refine calls_of (args := []) 3 [.cell 0 128] τok Tryz.func62 rfl rfl rfl (Nat.le_of_ble_eq_true rfl) ?_
  refine new fun b w1 hb hB hs hk => ?_
  refine MV.made fun bp w2 hbp hM hs2 hk2 => ?_
  have hB := hB.kp hk2 (by simp)
  refine stN (vs := [.slice none 0 0, .map (some bp)]) hB rfl (by simp [Value.oneCell']) fun w3 hB3 hs3 hk3 => ?_
  refine resN τok rfl [.slice none 0 0, .map (some bp)] rfl (fun j v hj => hB3.cl hj) ?_
  have hz := hk.size
  exact ⟨bp, rfl, hM.kp hk3 (by simp; omega), by omega, (hk.tr hk2).trans hk3 fun x hx hl => by simp at hx; omega⟩

theorem hnew_ct (words : Nat) (h1 : 1 ≤ words) (h2 : words ≤ 65536) (w : World) : CallOk Tryz.prog 26 ∧ Calls Tryz.prog 26 #[.int .i64 (words : Int)] w (fun e w' => ∃ bh bp, e = .returned (.tuple #[.pointer (some ⟨bh, 0, none⟩), .int .i64 0]) ∧ Hp w.heap.size w' bh bp (.slice none 0 0) words [] ∧ Kp [] w w') := by
  refine ⟨⟨_, Tryz.func26, rfl, by decide⟩, ?_⟩
  refine calls_of (args := [_]) 14 [.tmp 2, .tmp 3] τok Tryz.func26 rfl rfl rfl (Nat.le_of_ble_eq_true rfl) ?_
  refine br_no (by omega) ?_
  refine br_no (by omega) ?_
  refine ev_call (empty_ct w) ?_
  rintro e w1 ⟨bp, rfl, hM, hbp, hk1⟩
  refine new fun bh w2 hb hB hs hk2 => ?_
  have hz := hk1.size
  have hml := hM.lt
  refine ⟨bh, bp, rfl, ⟨hB, ⟨_, hM.kp hk2 (by simp), fun x n hx => by simp at hx⟩, Own.nil _ _ (by have := hk2.size; omega), by simp [Value.ownBlock]; omega, ⟨by omega, hbp⟩, by simp, by simp [usd, Vc.flat], h2⟩, hk1.tr hk2⟩

theorem atOnce_ct (k n : Nat) (hk : k ≤ 3) (hn : n ≤ mostSmall) (w : World) : CallOk Tryz.prog 136 ∧ Calls Tryz.prog 136 #[.int .i64 (k : Int), .int .i64 (n : Int)] w (fun e w' => e = .returned (.int .u32 ((8 * n + 2 * k + 1 : Nat) : Int)) ∧ w' = w) := by
  refine ⟨⟨_, Tryz.func136, rfl, by decide⟩, ?_⟩
  have hn' : n ≤ 536870911 := hn
  refine calls_of (args := [_, _]) 13 [.tmp 4] τok Tryz.func136 rfl rfl rfl (Nat.le_of_ble_eq_true rfl) ?_
  refine u32n n (by omega) rfl ?_
  obtain ⟨n8, h8⟩ : ∃ z, z = n * 8 := ⟨_, rfl⟩
  refine shl32 (n := 3) n8 (by decide) (by rw [h8]; exact Nat.mod_eq_of_lt (by omega)) ?_
  refine u32n k (by omega) rfl ?_
  obtain ⟨k2, h2⟩ : ∃ z, z = k * 2 := ⟨_, rfl⟩
  refine shl32 (n := 1) k2 (by decide) (by rw [h2]; exact Nat.mod_eq_of_lt (by omega)) ?_
  have e1 : n8 ||| k2 = n8 + k2 := by
    have := Nat.shiftLeft_add_eq_or_of_lt (b := k2) (i := 3) (by omega) n
    rw [Nat.shiftLeft_eq] at this
    rw [h8]
    exact this.symm
  obtain ⟨s, hs⟩ : ∃ z, z = n8 + k2 := ⟨_, rfl⟩
  refine or32 s (by omega) (by omega) (by rw [e1, hs]) ?_
  have e2 : s ||| 1 = s + 1 := by
    have := Nat.shiftLeft_add_eq_or_of_lt (b := 1) (i := 1) (by omega) (4 * n + k)
    rw [Nat.shiftLeft_eq, show (4 * n + k) * 2 ^ 1 = s by omega] at this
    exact this.symm
  refine or32 (x := s) (y := 1) (8 * n + 2 * k + 1) (by omega) (by decide) (by rw [e2]; omega) ?_
  exact ⟨rfl, rfl⟩
theorem hsmall_ct (n : Nat) (hn : n ≤ mostSmall) (w : World) : CallOk Tryz.prog 137 ∧ Calls Tryz.prog 137 #[.int .i64 (n : Int)] w (fun e w' => e = .returned (.tuple #[.int .u32 ((8 * n + 1 : Nat) : Int), .int .i64 0]) ∧ w' = w) := by
  refine ⟨⟨_, Tryz.func137, rfl, by decide⟩, ?_⟩
  have hn' : n ≤ 536870911 := hn
  refine calls_of (args := [_]) 12 [.tmp 2, .tmp 3] τok Tryz.func137 rfl rfl rfl (Nat.le_of_ble_eq_true rfl) ?_
  refine br_no (by omega) ?_
  refine ev_call (atOnce_ct 0 n (by omega) hn w) ?_
  rintro e w1 ⟨rfl, rfl⟩
  exact ⟨rfl, rfl⟩
theorem hbox_ct (w : World) : CallOk Tryz.prog 98 ∧ Calls Tryz.prog 98 #[] w (fun e w' => e = .returned (.int .u32 3) ∧ w' = w) := by
  refine ⟨⟨_, Tryz.func98, rfl, by decide⟩, ?_⟩
  refine calls_of (args := []) 2 [.tmp 0] τok Tryz.func98 rfl rfl rfl (Nat.le_of_ble_eq_true rfl) ?_
  refine ev_call (atOnce_ct 1 0 (by omega) (by decide) w) ?_
  rintro e w1 ⟨rfl, rfl⟩
  exact ⟨rfl, rfl⟩

/-! ### heads -/
theorem headOf_ct (size : Nat) (hs : size ≤ 65535) (w : World) : CallOk Tryz.prog 171 ∧ Calls Tryz.prog 171 #[.int .i64 2, .int .i64 (size : Int), .int .i64 0] w (fun e w' => e = .returned (.int .u32 ((2 + 4 * size : Nat) : Int)) ∧ w' = w) := by
  refine ⟨⟨_, Tryz.func171, rfl, by decide⟩, ?_⟩
  refine calls_of (args := [_, _, _]) 17 [.tmp 6] τok Tryz.func171 rfl rfl rfl (Nat.le_of_ble_eq_true rfl) ?_
  refine u32n 2 (by decide) rfl ?_
  refine u32n size (by omega) rfl ?_
  obtain ⟨s4, h4⟩ : ∃ z, z = size * 4 := ⟨_, rfl⟩
  refine shl32 (n := 2) s4 (by decide) (by rw [h4]; exact Nat.mod_eq_of_lt (by omega)) ?_
  have e1 : 2 ||| s4 = 2 + 4 * size := by
    have := Nat.shiftLeft_add_eq_or_of_lt (b := 2) (i := 2) (by omega) size
    rw [Nat.shiftLeft_eq, show size * 2 ^ 2 = size * 4 by omega] at this
    rw [h4, Nat.or_comm]
    omega
  refine or32 (x := 2) (y := s4) (2 + 4 * size) (by decide) (by omega) e1 ?_
  refine u32n 0 (by decide) rfl ?_
  refine shl32 (x := 0) (n := 18) 0 (by decide) (by decide) ?_
  refine or32 (x := 2 + 4 * size) (y := 0) (2 + 4 * size) (by omega) (by decide) (by simp) ?_
  exact ⟨rfl, rfl⟩
theorem hkind_ct (size : Nat) (hs : size ≤ 65535) (w : World) : CallOk Tryz.prog 151 ∧ Calls Tryz.prog 151 #[.int .u32 ((2 + 4 * size : Nat) : Int)] w (fun e w' => e = .returned (.int .i64 2) ∧ w' = w) := by
  refine ⟨⟨_, Tryz.func151, rfl, by decide⟩, ?_⟩
  refine calls_of (args := [_]) 6 [.tmp 2] τok Tryz.func151 rfl rfl rfl (Nat.le_of_ble_eq_true rfl) ?_
  refine and32 (x := 2 + 4 * size) (y := 3) 2 (by omega) (by decide) (by rw [show (3 : Nat) = 2 ^ 2 - 1 from rfl, Nat.and_two_pow_sub_one_eq_mod]; omega) ?_
  refine int64 (by decide) (by decide) ?_
  exact ⟨rfl, rfl⟩
theorem hsize_ct (size : Nat) (hs : size ≤ 65535) (w : World) : CallOk Tryz.prog 152 ∧ Calls Tryz.prog 152 #[.int .u32 ((2 + 4 * size : Nat) : Int)] w (fun e w' => e = .returned (.int .i64 (size : Int)) ∧ w' = w) := by
  refine ⟨⟨_, Tryz.func152, rfl, by decide⟩, ?_⟩
  refine calls_of (args := [_]) 7 [.tmp 2] τok Tryz.func152 rfl rfl rfl (Nat.le_of_ble_eq_true rfl) ?_
  refine shr32 (n := 2) size (by decide) (by omega) ?_
  refine and32 (y := 65535) size (by omega) (by decide) (by rw [show (65535 : Nat) = 2 ^ 16 - 1 from rfl, Nat.and_two_pow_sub_one_eq_mod]; omega) ?_
  refine int64 (by omega) (by omega) ?_
  exact ⟨rfl, rfl⟩
theorem hid_ct (size : Nat) (hs : size ≤ 65535) (w : World) : CallOk Tryz.prog 154 ∧ Calls Tryz.prog 154 #[.int .u32 ((2 + 4 * size : Nat) : Int)] w (fun e w' => e = .returned (.int .i64 (((2 + 4 * size) / 262144 : Nat) : Int)) ∧ w' = w) := by
  refine ⟨⟨_, Tryz.func154, rfl, by decide⟩, ?_⟩
  refine calls_of (args := [_]) 6 [.tmp 2] τok Tryz.func154 rfl rfl rfl (Nat.le_of_ble_eq_true rfl) ?_
  obtain ⟨z, hz⟩ : ∃ z, z = (2 + 4 * size) / 262144 := ⟨_, rfl⟩
  refine shr32 (n := 18) z (by decide) (by rw [hz]) ?_
  refine int64 (by omega) (by omega) ?_
  rw [← hz]
  exact ⟨rfl, rfl⟩

/-! ### reading -/
variable {lo bh bp words : Nat} {vw : Value} {G : List Nat}
theorem Hp.slice (h : Hp lo w bh bp vw words G) : ∃ a c, vw = .slice a (usd G) c ∧ usd G ≤ c ∧ (usd G = 0 ∨ ∃ g, a = some ⟨g, 0, none⟩ ∧ ∀ (i x : Nat), (flat G)[i]? = some x → Cu w.heap g i (.int .u32 (x : Int)) ∧ x < BB) := by
  obtain ⟨css, h1, h2⟩ := h.row.row
  obtain ⟨a, c, hv, hc⟩ := h.row.cap
  obtain ⟨a', c', hv', hs⟩ := h.row.den (by have := h.few; unfold usd at this; omega)
  rw [hv] at hv'
  injection hv' with e1 e2 e3
  subst e1 e3
  refine ⟨a, c, hv, hc, ?_⟩
  rcases hs.2 with h0 | ⟨b, o, rfl, h3⟩
  · exact .inl h0
  · right
    have ho : o = 0 := by
      rcases h1.2 with ⟨e, h0⟩ | ⟨g, cap, cur, e, _⟩
      · rw [hv] at e; cases e
      · rw [hv] at e
        injection e with e
        injection e with e
        injection e
    subst ho
    refine ⟨b, rfl, fun i x hx => ?_⟩
    obtain ⟨cs, ⟨rfl, hB⟩, h4⟩ := h3 i x hx
    have := (h4 0 _ rfl).2
    simp only [rW, rNat, Nat.zero_add, Nat.mul_one, Nat.add_zero] at this
    exact ⟨this, hB⟩
theorem hright_ct (h : Hp lo w bh bp vw words G) {n u : Nat} (hu : Wd G n u) : CallOk Tryz.prog 153 ∧ Calls Tryz.prog 153 #[.pointer (some ⟨bh, 0, none⟩), .int .u32 (u : Int)] w (fun e w' => e = .returned (.bool true) ∧ w' = w) := by
  refine ⟨⟨_, Tryz.func153, rfl, by decide⟩, ?_⟩
  have hfew := h.few
  have hu32 : u < 4294967296 := by
    rcases hu with ⟨h1, h2⟩ | ⟨x, hx, h2⟩
    · unfold mostSmall at h1; omega
    · have := pos_le hx; omega
  refine calls_of (args := [_, _]) 38 [.tmp 4] τok Tryz.func153 rfl rfl rfl (Nat.le_of_ble_eq_true rfl) ?_
  refine and32 (y := 1) (u % 2) hu32 (by decide) (by rw [show (1 : Nat) = 2 ^ 1 - 1 from rfl, Nat.and_two_pow_sub_one_eq_mod]) ?_
  refine br_dec (fun g => ?_) (fun g => ?_)
  · have g : u % 2 = 0 := by omega
    rcases hu with ⟨h1, h2⟩ | ⟨x, hx, h2⟩
    · omega
    have hp := pos_le hx
    obtain ⟨f, hf, hf2⟩ := h.map
    refine ld (h.h.cl rfl).cell ?_
    refine shr32 (n := 1) (pos G x) (by decide) (by omega) ?_
    refine int64 (by omega) (by omega) ?_
    refine hf.look1 (by unfold I64; omega) ?_
    rw [hf2 x n hx]
    have : decide ((0 : Int) < (sz n : Int)) = true := by unfold sz; simp; omega
    exact ⟨by simp only [Option.getD_some]; rw [← this]; rfl, rfl⟩
  · rcases hu with ⟨h1, h2⟩ | ⟨x, hx, h2⟩
    rotate_left
    · omega
    unfold mostSmall at h1
    refine shr32 (n := 3) n (by decide) (by omega) ?_
    refine int64 (by omega) (by omega) ?_
    refine shr32 (n := 1) (u / 2) (by decide) rfl ?_
    refine and32 (y := 3) 0 (by omega) (by decide) (by rw [show (3 : Nat) = 2 ^ 2 - 1 from rfl, Nat.and_two_pow_sub_one_eq_mod]; omega) ?_
    exact ⟨rfl, rfl⟩
theorem hrightBox_ct (h : Hp lo w bh bp vw words G) : CallOk Tryz.prog 153 ∧ Calls Tryz.prog 153 #[.pointer (some ⟨bh, 0, none⟩), .int .u32 3] w (fun e w' => e = .returned (.bool true) ∧ w' = w) := by
  refine ⟨⟨_, Tryz.func153, rfl, by decide⟩, ?_⟩
  refine calls_of (args := [_, _]) 38 [.tmp 4] τok Tryz.func153 rfl rfl rfl (Nat.le_of_ble_eq_true rfl) ?_
  refine and32 (x := 3) (y := 1) 1 (by decide) (by decide) (by decide) ?_
  refine shr32 (x := 3) (n := 3) 0 (by decide) (by decide) ?_
  refine int64 (by decide) (by decide) ?_
  refine shr32 (x := 3) (n := 1) 1 (by decide) (by decide) ?_
  refine and32 (x := 1) (y := 3) 1 (by decide) (by decide) (by decide) ?_
  exact ⟨rfl, rfl⟩

theorem hclone_ct (a : Option Addr) (c : Nat) (l : List Nat) {D : Mem} (hD : Sub D w) (hl : Sl rW D a l) (hll : l.length ≤ 1000000) (hne : a ≠ none) :
    CallOk Tryz.prog 155 ∧ Calls Tryz.prog 155 #[.slice a l.length c] w (fun e w' => ∃ a' c', e = .returned (.slice a' l.length c') ∧ Sl rW (New w.heap.size w') a' l ∧ Kp [] w w') := by
  refine ⟨⟨_, Tryz.func155, rfl, by decide⟩, ?_⟩
  refine calls_of (args := [_]) 8 [.tmp 2] τok Tryz.func155 rfl rfl rfl (Nat.le_of_ble_eq_true rfl) ?_
  refine eqNil τok rfl ?_
  refine br (fun h1 => ?_) (fun h1 => ?_)
  · cases a
    · exact absurd rfl hne
    · cases h1
  refine fill [] rfl ?_
  refine new fun b1 w1 hb1 hB1 hs1 hk1 => ?_
  have hO := Own.empty rW hB1 (lo := w.heap.size) (by omega)
  refine hO.apF τok rfl rfl (by decide) (flatN _ _) (hD.tr hk1) l hl (by simp; omega) (by simp [maxLen]; omega) fun v2 w2 hO2 hk2 _ => ?_
  rw [List.nil_append] at hO2
  obtain ⟨a2, c2, rfl, hs⟩ := hO2.den (by omega)
  exact ⟨a2, c2, rfl, hs, hk1.own hk2 hO⟩

theorem thing_ct (h : Hp lo w bh bp vw words G) {x n : Nat} (hx : G[x]? = some n) : CallOk Tryz.prog 150 ∧ Calls Tryz.prog 150 #[.pointer (some ⟨bh, 1, none⟩), .int .i64 (pos G x : Int)] w
    (fun e w' => ∃ g c, e = .returned (.tuple #[.int .u32 ((2 + 4 * (digs BB n).length : Nat) : Int), .slice (some ⟨g, pos G x + 1, none⟩) (digs BB n).length c]) ∧ Sl rW (Old w) (some ⟨g, pos G x + 1, none⟩) (digs BB n) ∧ Kp [] w w') := by
  refine ⟨⟨_, Tryz.func150, rfl, by decide⟩, ?_⟩
  have hfew := h.few
  have hp := pos_le hx
  have hln := (h.len n (List.mem_of_getElem? hx)).1
  unfold sz at hp
  obtain ⟨a, c, hv, hc, h0 | ⟨g, hag, hcell⟩⟩ := h.slice
  · omega
  subst hag
  have hh := h.h
  rw [hv] at hh
  refine calls_of (args := [_, _]) 27 [.tmp 4, .tmp 5] τok Tryz.func150 rfl rfl rfl (Nat.le_of_ble_eq_true rfl) ?_
  refine ld (hh.cl rfl).cell ?_
  refine ix (pos G x) rfl (by omega) ?_
  have hhead := (hcell _ _ (flat_head hx)).1.cl
  refine ld (by rw [Nat.mul_one, Nat.zero_add]; exact hhead.cell) ?_
  refine drawG τok (fun w' => Kp [] w w') ?_
  refine readsG τok [0, 1, 2, 3, 4, 5, 6, 7, 8, 9] 5 #[true, true, true, true, true, true, true, true, true, true, false, false, false, false, false] rfl rfl (by kernel_rfl) (by kernel_rfl) (by kernel_rfl) ((Kp.refl [] w).dr _) ?_
  refine ldK (hh.cl rfl) ?_
  refine int64 (by omega) (by omega) ?_
  refine int64 (by omega) (by omega) ?_
  refine nextG τok 10 4 #[true, true, true, true, true, true, true, true, true, true, true, false, false, false, false] rfl rfl rfl (by kernel_rfl) ?_
  refine ev_call (hsize_ct (digs BB n).length hln _) ?_
  rintro e w1 ⟨rfl, rfl⟩
  have k0 : Kp [] w { w with drawn := w.drawn + 1 } := (Kp.refl [] w).dr _
  refine ⟨.inl k0, ?_⟩
  refine readsG τok [11, 12, 13] 1 #[true, true, true, true, true, true, true, true, true, true, true, true, true, true, false] rfl rfl (by kernel_rfl) (by kernel_rfl) (by kernel_rfl) k0 ?_
  refine int64 (by omega) (by omega) ?_
  refine slcLHQ τok rfl (pos G x + 1) (pos G x + 1 + (digs BB n).length) (.slice (some ⟨g, pos G x + 1, none⟩) (digs BB n).length (c - (pos G x + 1))) (by omega) (by omega) (by omega) (by omega) ?_ ?_
  · by_cases hcc : pos G x + 1 < c
    · rw [sliced_lh hcc]
      simp
    · have := h.len n (List.mem_of_getElem? hx)
      exfalso
      have hz : digs BB n = [] := List.length_eq_zero_iff.1 (by omega)
      have := (digs_nil_iff BB_two).1 hz
      unfold mostSmall at *
      omega
  refine nextG τok 14 0 #[true, true, true, true, true, true, true, true, true, true, true, true, true, true, true] rfl rfl rfl (by kernel_rfl) ?_
  refine ⟨.inl k0, ?_⟩
  refine doneG (by kernel_rfl) ?_
  refine ⟨g, _, rfl, ⟨by omega, .inr ⟨g, pos G x + 1, rfl, fun i d hd => ?_⟩⟩, k0⟩
  have hlt := get_lt hd
  have e : (flat G)[pos G x + 1 + i]? = some d := by
    have := flat_body hx
    rw [← this, List.getElem?_take, if_pos hlt, List.getElem?_drop] at hd
    exact hd
  obtain ⟨h1, h2⟩ := hcell _ _ e
  refine ⟨[.int .u32 (d : Int)], ⟨rfl, h2⟩, fun j v hj => ?_⟩
  match j, hj with
  | 0, hj =>
    obtain rfl := Option.some.inj hj
    show Cl w.heap g (pos G x + 1 + i * 1 + 0) _
    rw [Nat.mul_one, Nat.add_zero]
    exact h1.cl

/-- what Read answers of a number -/
theorem read_ct (h : Hp lo w bh bp vw words G) {n u : Nat} (hu : Wd G n u) : CallOk Tryz.prog 111 ∧ Calls Tryz.prog 111 #[.pointer (some ⟨bh, 0, none⟩), .int .u32 (u : Int)] w
    (fun e w' => ((n ≤ mostSmall ∧ e = .returned (.tuple #[.int .i64 1, .int .i64 (n : Int), .slice none 0 0, .int .i64 0])) ∨
      (∃ id a c, e = .returned (.tuple #[.int .i64 5, .int .i64 id, .slice a (digs BB n).length c, .int .i64 0]) ∧ Sl rW (New w.heap.size w') a (digs BB n))) ∧ Kp [] w w') := by
  refine ⟨⟨_, Tryz.func111, rfl, by decide⟩, ?_⟩
  have hfew := h.few
  have hu32 : u < 4294967296 := by
    rcases hu with ⟨h1, h2⟩ | ⟨x, hx, h2⟩
    · unfold mostSmall at h1; omega
    · have := pos_le hx; omega
  refine calls_of (args := [_, _]) 42 [.tmp 4, .tmp 5, .tmp 6, .tmp 7] τok Tryz.func111 rfl rfl rfl (Nat.le_of_ble_eq_true rfl) ?_
  refine ev_call (hright_ct h hu) ?_
  rintro e w1 ⟨rfl, rfl⟩
  refine and32 (y := 1) (u % 2) hu32 (by decide) (by rw [show (1 : Nat) = 2 ^ 1 - 1 from rfl, Nat.and_two_pow_sub_one_eq_mod]) ?_
  rcases hu with ⟨h1, h2⟩ | ⟨x, hx, h2⟩
  · have h1' : n ≤ 536870911 := h1
    refine br_yes (by omega) ?_
    refine shr32 (n := 1) (u / 2) (by decide) rfl ?_
    refine and32 (y := 3) 0 (by omega) (by decide) (by rw [show (3 : Nat) = 2 ^ 2 - 1 from rfl, Nat.and_two_pow_sub_one_eq_mod]; omega) ?_
    refine int64 (by decide) (by decide) ?_
    refine int64 (by decide) (by decide) ?_
    refine shr32 (n := 3) n (by decide) (by omega) ?_
    refine int64 (by omega) (by omega) ?_
    exact ⟨.inl ⟨h1, rfl⟩, Kp.refl _ _⟩
  · have hp := pos_le hx
    have hln := (h.len n (List.mem_of_getElem? hx)).1
    refine br_no (by omega) ?_
    refine shr32 (n := 1) (pos G x) (by decide) (by omega) ?_
    refine int64 (by omega) (by omega) ?_
    refine ev_call (thing_ct h hx) ?_
    rintro e w2 ⟨g, c, rfl, hs, hk2⟩
    refine ev_call (hkind_ct (digs BB n).length hln w2) ?_
    rintro e w3 ⟨rfl, rfl⟩
    refine int64 (by decide) (by decide) ?_
    refine ev_call (hid_ct (digs BB n).length hln w3) ?_
    rintro e w4 ⟨rfl, rfl⟩
    refine ev_call (hclone_ct (some ⟨g, pos G x + 1, none⟩) c (digs BB n) ((Old.sub _).tr hk2) hs (by omega) (by simp)) ?_
    rintro e w5 ⟨a5, c5, rfl, hs5, hk5⟩
    exact ⟨.inr ⟨_, a5, c5, rfl, hs5.mono fun b o v hv => ⟨Nat.le_trans hk2.size hv.1, hv.2⟩⟩, hk2.tr hk5⟩
theorem readBox_ct (h : Hp lo w bh bp vw words G) : CallOk Tryz.prog 111 ∧ Calls Tryz.prog 111 #[.pointer (some ⟨bh, 0, none⟩), .int .u32 3] w
    (fun e w' => e = .returned (.tuple #[.int .i64 2, .int .i64 0, .slice none 0 0, .int .i64 0]) ∧ w' = w) := by
  refine ⟨⟨_, Tryz.func111, rfl, by decide⟩, ?_⟩
  refine calls_of (args := [_, _]) 42 [.tmp 4, .tmp 5, .tmp 6, .tmp 7] τok Tryz.func111 rfl rfl rfl (Nat.le_of_ble_eq_true rfl) ?_
  refine ev_call (hrightBox_ct h) ?_
  rintro e w1 ⟨rfl, rfl⟩
  refine and32 (x := 3) (y := 1) 1 (by decide) (by decide) (by decide) ?_
  refine shr32 (x := 3) (n := 1) 1 (by decide) (by decide) ?_
  refine and32 (x := 1) (y := 3) 1 (by decide) (by decide) (by decide) ?_
  refine int64 (by decide) (by decide) ?_
  refine int64 (by decide) (by decide) ?_
  refine shr32 (x := 3) (n := 3) 0 (by decide) (by decide) ?_
  refine int64 (by decide) (by decide) ?_
  exact ⟨rfl, rfl⟩
theorem used_ct (h : Hp lo w bh bp vw words G) : CallOk Tryz.prog 140 ∧ Calls Tryz.prog 140 #[.pointer (some ⟨bh, 0, none⟩)] w (fun e w' => e = .returned (.int .i64 (usd G : Int)) ∧ w' = w) := by
  refine ⟨⟨_, Tryz.func140, rfl, by decide⟩, ?_⟩
  refine calls_of (args := [_]) 9 [.tmp 2] τok Tryz.func140 rfl rfl rfl (Nat.le_of_ble_eq_true rfl) ?_
  obtain ⟨a, c, hv, _⟩ := h.slice
  have hh := h.h
  rw [hv] at hh
  refine ld (hh.cl rfl).cell ?_
  exact ⟨rfl, rfl⟩
end
end Go.Proofs.YtbggaljmollhmaaGreatDoor

