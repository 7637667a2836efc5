/-
  Own texts put together: VcU, VrA, VrB, VrC, VrD, VrE, VrF, VrG.
-/
import Derived.Test.YtbggaljmollhmaaGreatDoorMg13
/-
  The law on numbers: awake.
-/
set_option linter.unusedSimpArgs false
set_option linter.unusedVariables false
namespace Go.Proofs.YtbggaljmollhmaaGreatDoor
open Go.Wx Nm Vm Vc Cd
theorem ins_sl {w : World} {b n T : Nat} {css : List (List Value)} {code : List Ins} (h : Bk w.heap b css.flatten T) (hn : n ≤ b) (hd : ∀ (i : Nat) x, code[i]? = some x → ∃ cs, css[i]? = some cs ∧ rIns.den (New n w) cs x) (h4 : ∀ cs ∈ css, cs.length = 4) (hl : code.length ≤ 1099511627776) : Sl rIns (New n w) (some ⟨b, 0, none⟩) code := by
  refine ⟨hl, .inr ⟨b, 0, rfl, fun i x hi => ?_⟩⟩
  obtain ⟨cs, h1, h2⟩ := hd i x hi
  refine ⟨cs, h2, fun j v hj => ⟨hn, h.cu ?_⟩⟩
  show css.flatten[0 + i * 4 + j]? = some v
  rw [Nat.zero_add]
  have := flat_get (k := 4) css h4 i j cs v h1 hj
  simpa [List.flatMap] using this
/-- the table of kinds -/
def Kd : Mem := fun b o v => b = 0 ∧ kindsL[o]? = some v
def CK (n : Nat) (w : World) : Mem := fun b o v => New n w b o v ∨ Kd b o v
theorem ck_sub {n : Nat} {w w' : World} (hK : Sub Kd w) (k : Kp [] w w') : Sub (CK n w) w' := fun b o v h => h.elim (fun h => ((New.sub n w) _ _ _ h).kp k (by simp)) fun h => (hK _ _ _ h).kp k (by simp)
theorem ck_kt {n : Nat} {w : World} : Kt (CK n w) := fun j v h => .inr ⟨rfl, h⟩
theorem ck_lt {n : Nat} {w : World} (hK : Sub Kd w) : ∀ b o v, CK n w b o v → b < w.heap.size := fun b o v h => (ck_sub hK (Kp.refl [] w) b o v h).lt
theorem lone_ct (a : Option Addr) (len c : Nat) (w : World) : CallOk Tryz.prog 14 ∧ Calls Tryz.prog 14 #[.slice a len c] w (fun e w' => e = .returned (.agg #[.int .i64 (-1), .slice none 0 0, .slice none 0 0, .slice none 0 0, .slice a len c]) ∧ Kp [] w w') := by
  refine ⟨⟨_, Tryz.func14, rfl, by decide⟩, ?_⟩
  refine calls_of (args := [_]) 5 [.cell 2 28] τok Tryz.func14 rfl rfl rfl (Nat.le_of_ble_eq_true rfl) ?_
  refine new fun b w1 hb hB hs hk => ?_
  refine stN (vs := [.int .i64 (-1), .slice none 0 0, .slice none 0 0, .slice none 0 0, .slice a len c]) hB rfl (by simp [Value.oneCell']) fun w2 hB2 hs2 hk2 => ?_
  refine resN τok rfl _ rfl (fun j v hj => hB2.cl hj) ?_
  exact ⟨rfl, hk.newSt hb hk2⟩
set_option maxHeartbeats 1000000 in
theorem awake_ct {w : World} (hK : Sub Kd w) : CallOk Tryz.prog 8 ∧ Calls Tryz.prog 8 #[] w (fun e w' => e = .returned (.bool true) ∧ Kp [] w w') := by
  refine ⟨⟨_, Tryz.func8, rfl, by decide⟩, ?_⟩
  refine calls_of (args := []) 37 [.tmp 0] τok Tryz.func8 rfl rfl rfl (Nat.le_of_ble_eq_true rfl) ?_
  refine fill [.int .i64 2, .int .i64 5, .int .i64 0, .slice none 0 0, .int .i64 6, .int .i64 0, .int .i64 0, .slice none 0 0] rfl ?_
  refine new fun bm w1 hbm hM hs1 hk1 => ?_
  have hsl : Sl rIns (New bm w1) (some ⟨bm, 0, none⟩) (codeN 5) := ins_sl (css := [[.int .i64 2, .int .i64 5, .int .i64 0, .slice none 0 0], [.int .i64 6, .int .i64 0, .int .i64 0, .slice none 0 0]]) hM (Nat.le_refl _) (fun i x hi => by
    match i with
    | 0 =>
      obtain rfl := Option.some.inj hi
      exact ⟨_, rfl, none, 0, rfl, Sl.nil _ _ _, by simp [I64], by simp [I64], by simp [I64]⟩
    | 1 =>
      obtain rfl := Option.some.inj hi
      exact ⟨_, rfl, none, 0, rfl, Sl.nil _ _ _, by simp [I64], by simp [I64], by simp [I64]⟩
    | i + 2 => simp [codeN] at hi) (by simp) (by simp [codeN])
  refine ev_call (lone_ct (some ⟨bm, 0, none⟩) 2 2 w1) ?_
  rintro e w2 ⟨rfl, hk2⟩
  have k02 := hk1.tr hk2
  have hr := vRun_ct (ck_sub (n := bm) (hK.tr hk1) hk2) (hsl.mono fun b o v h => .inl h) (cap := 2) (by simp [codeN]) (check_lone (by simp [codeN]) (blk_codeN (by decide)) (by decide)) (words := 10) (fuel := 10) (by decide) (by decide) (runs_codeN ck_kt (fun b o v h => Nat.lt_of_lt_of_le (ck_lt (hK.tr hk1) b o v h) hk2.size) (x := 5) (by decide))
  refine ev_call hr ?_
  rintro e w3 ⟨x, rfl, ⟨v, mo, rfl, ao, co, hv, hvs⟩, hk3⟩
  refine new fun b4 w4 hb4 hB4 hs4 hk4 => ?_
  refine stN (vs := [.int .i64 2, .int .i64 0, v, .int .i64 2, .int .i64 0, .int .i64 mo]) hB4 rfl (by
    intro y hy
    simp only [List.mem_cons, List.not_mem_nil, or_false] at hy
    rcases hy with rfl | rfl | rfl | rfl | rfl | rfl
    · rfl
    · rfl
    · rw [hv]; rfl
    · rfl
    · rfl
    · rfl) fun w5 hB5 hs5 hk5 => ?_
  have k35 : Kp [] w3 w5 := hk4.newSt hb4 hk5
  have k05 := (k02.tr hk3).tr k35
  refine fill [.int .i64 1, .int .i64 0, .int .i64 0, .slice none 0 0, .int .i64 6, .int .i64 0, .int .i64 0, .slice none 0 0] rfl ?_
  refine new fun bn w6 hbn hN hs6 hk6 => ?_
  have k06 := k05.tr hk6
  have hsl2 : Sl rIns (New bn w6) (some ⟨bn, 0, none⟩) codeB := ins_sl (css := [[.int .i64 1, .int .i64 0, .int .i64 0, .slice none 0 0], [.int .i64 6, .int .i64 0, .int .i64 0, .slice none 0 0]]) hN (Nat.le_refl _) (fun i x hi => by
    match i with
    | 0 =>
      obtain rfl := Option.some.inj hi
      exact ⟨_, rfl, none, 0, rfl, Sl.nil _ _ _, by simp [I64], by simp [I64], by simp [I64]⟩
    | 1 =>
      obtain rfl := Option.some.inj hi
      exact ⟨_, rfl, none, 0, rfl, Sl.nil _ _ _, by simp [I64], by simp [I64], by simp [I64]⟩
    | i + 2 => simp [codeB] at hi) (by simp) (by simp [codeB])
  refine ev_call (lone_ct (some ⟨bn, 0, none⟩) 2 2 w6) ?_
  rintro e w7 ⟨rfl, hk7⟩
  have hr2 := vRun_ct (ck_sub (n := bn) (hK.tr k06) hk7) (hsl2.mono fun b o v h => .inl h) (cap := 2) (by simp [codeB]) (check_lone (by simp [codeB]) blk_codeB (by decide)) (words := 10) (fuel := 10) (by decide) (by decide) (runs_codeB (fun b o v h => Nat.lt_of_lt_of_le (ck_lt (hK.tr k06) b o v h) hk7.size))
  refine ev_call hr2 ?_
  rintro e w8 ⟨x, rfl, ⟨v2, mo2, rfl, ao2, co2, hv2, hvs2⟩, hk8⟩
  refine new fun b9 w9 hb9 hB9 hs9 hk9 => ?_
  refine stN (vs := [.int .i64 1, .int .i64 23, v2, .int .i64 2, .int .i64 0, .int .i64 mo2]) hB9 rfl (by
    intro y hy
    simp only [List.mem_cons, List.not_mem_nil, or_false] at hy
    rcases hy with rfl | rfl | rfl | rfl | rfl | rfl
    · rfl
    · rfl
    · rw [hv2]; rfl
    · rfl
    · rfl
    · rfl) fun w10 hB10 hs10 hk10 => ?_
  have k810 : Kp [] w8 w10 := hk9.newSt hb9 hk10
  have k510 := ((hk6.tr hk7).tr hk8).tr k810
  have hB510 := hB5.kp k510 (by simp)
  refine ld (hB510.cl (v := .int .i64 2) rfl).cell ?_
  refine ld (hB510.cl (v := .int .i64 2) rfl).cell ?_
  refine ld (hB510.cl (v := v) rfl).cell ?_
  refine fill [.int .u8 0, .int .u8 1, .int .u8 5] rfl ?_
  refine new fun bb w11 hbb hBB hs11 hk11 => ?_
  have hbs : numsB (valB 5) = [0, 1, 5] := by
    have : digs BB 5 = [5] := digs_one BB_two (by decide) (by decide)
    simp [valB, this, numsB, formM_small]
  have hR11 : RowN .u8 w11.heap bb [0, 1, 5] 5 := hBB
  rw [hbs] at hv hvs
  have hsame := same02_ct ((New.sub _ w3).tr (k35.tr (k510.tr hk11))) (New.sub bb w11) [0, 1, 5] [0, 1, 5] ao (some ⟨bb, 0, none⟩) co 3 hvs (hR11.sl (by decide) (by decide) (Nat.le_refl _))
  rw [decide_eq_true rfl] at hsame
  rw [hv]
  refine ev_call hsame ?_
  rintro e w12 ⟨rfl, hk12⟩
  have hB12 := (hB10.kp hk11 (by simp)).kp hk12 (by simp)
  refine ld (hB12.cl (v := .int .i64 1) rfl).cell ?_
  refine ld (hB12.cl (v := .int .i64 23) rfl).cell ?_
  exact ⟨rfl, ((k05.tr k510).tr hk11).tr hk12⟩
end Go.Proofs.YtbggaljmollhmaaGreatDoor

/-
  The document's numbers (chapter 01): digits to the base 256: cut, Digits, Words.
-/
set_option linter.unusedSimpArgs false
set_option linter.unusedVariables false
namespace Go.Proofs.YtbggaljmollhmaaGreatDoor
open Go.Wx Nm Vm Vc
abbrev ZZ : Nat := 1125899906842624
abbrev rZ : Rd Nat := rNat .i64 ZZ
/-- a row of ints, new behind w -/
def IsRow (l : List Nat) (w w' : World) (v : Value) : Prop := ∃ a c, v = .slice a l.length c ∧ Sl rZ (New w.heap.size w') a l ∧ l.length ≤ c
section
variable {C : Mem} {w : World}
theorem slc0 (a : Option Addr) (n c : Nat) : sliced a 0 n c 1 = .slice a n c := by
  cases a with
  | none => simp [sliced]
  | some a =>
    simp [sliced]
    intro _
    simp [Addr.add]
theorem cut01_ct (hS : Sub C w) (l : List Nat) (a : Option Addr) (c : Nat) (hl : Sl rZ C a l) (hlen : l.length ≤ 1099511627776) (hc : l.length ≤ c) :
    CallOk Tryz.prog 83 ∧ Calls Tryz.prog 83 #[.slice a l.length c] w (fun e w' => e = .returned (.slice a (cut l).length c) ∧ w' = w) := by
  refine ⟨⟨_, Tryz.func83, rfl, by decide⟩, ?_⟩
  refine calls_of (args := [_]) 21 [.tmp 2] τok Tryz.func83 rfl rfl rfl (Nat.le_of_ble_eq_true rfl) ?_
  refine lp τok (σ := Nat) (fun n => [(0, .slice a l.length c), (3, .int .i64 n)]) (fun n w' => n ≤ l.length ∧ cut (l.take n) = cut l ∧ w' = w) (fun n => n) l.length rfl ⟨rfl, rfl, trivial⟩ ⟨Nat.le_refl _, by rw [List.take_length], rfl⟩ ?_
  rintro n w1 ⟨hn, hcut, rfl⟩
  have fin : (n = 0 ∨ ∃ x, l[n - 1]? = some x ∧ x ≠ 0) → n = (cut l).length := fun h => by
    rw [← hcut]
    rcases h with rfl | ⟨x, hx, h0⟩
    · simp [cut_nil]
    · rcases Nat.eq_zero_or_pos n with h | hn0
      · subst h
        simp [cut_nil]
      · have e1 : l.take n = l.take (n - 1) ++ [x] := by
          have := take_get hx
          rwa [show n - 1 + 1 = n by omega] at this
        rw [e1, cut_append_pos _ h0, ← e1, List.length_take]
        omega
  refine br_dec (fun h => ?_) (fun h => ?_)
  · obtain ⟨x, hx, _⟩ := drop_get (l := l) (k := n - 1) (by omega)
    obtain ⟨b, o, rfl, hcx, hxB⟩ := hl.nat hx
    refine int64 (by omega) (by omega) ?_
    refine ix (n - 1) (by omega) (by omega) ?_
    refine ldC hS hcx ?_
    refine br_dec (fun h0 => ?_) (fun h0 => ?_)
    · have h0 : x = 0 := by omega
      subst h0
      refine int64 (by omega) (by omega) ?_
      refine ⟨n - 1, by omega, rfl, ⟨rfl, ?_, trivial⟩, by omega, ?_, rfl⟩
      · show some (Value.int .i64 ((n : Int) - 1)) = some (Value.int .i64 ((n - 1 : Nat) : Int))
        rw [show ((n - 1 : Nat) : Int) = (n : Int) - 1 by omega]
      · rw [← hcut]
        have := take_get hx
        rw [show n - 1 + 1 = n by omega] at this
        rw [this, cut_append_zero]
    · have hf := fin (.inr ⟨x, hx, by omega⟩)
      refine slcH' τok rfl n (.slice (some ⟨b, o, none⟩) n c) (by omega) (by omega) (slc0 _ _ _) ?_
      exact ⟨by rw [hf]; rfl, rfl⟩
  · have hf := fin (.inl (by omega))
    refine slcH' τok rfl n (.slice a n c) (by omega) (by omega) (slc0 _ _ _) ?_
    exact ⟨by rw [hf]; rfl, rfl⟩
end
end Go.Proofs.YtbggaljmollhmaaGreatDoor

/-
  The document's numbers (chapter 01): Digits.
-/
set_option linter.unusedSimpArgs false
set_option linter.unusedVariables false
namespace Go.Proofs.YtbggaljmollhmaaGreatDoor
open Go.Wx Nm Vm Vc
theorem dig_step (x j : Nat) : x % 256 ^ (j + 1) = x % 256 ^ j + 256 ^ j * (x / 256 ^ j % 256) := by
  rw [Nat.pow_succ, Nat.mod_mul]
theorem bb_pow (i : Nat) : BB ^ i = 256 ^ (4 * i) := by
  rw [Nat.pow_mul]
  rfl
section
variable {C : Mem} {w : World}
theorem digits01_ct (hS : Sub C w) (X : List Nat) (a : Option Addr) (c : Nat) (hl : Sl rW C a X) (hlen : X.length ≤ 1000) :
    CallOk Tryz.prog 38 ∧ Calls Tryz.prog 38 #[.slice a X.length c] w (fun e w' => (∃ v, e = .returned v ∧ IsRow (digs 256 (val BB X)) w w' v) ∧ Kp [] w w') := by
  refine ⟨⟨_, Tryz.func38, rfl, by decide⟩, ?_⟩
  have hd : Dig BB X := hl.dig
  refine calls_of (args := [_]) 31 [.tmp 2] τok Tryz.func38 rfl rfl rfl (Nat.le_of_ble_eq_true rfl) ?_
  refine lp τok (σ := Nat × List Nat × Value) (fun q => [(0, .slice a X.length c), (3, q.2.2), (4, .int .i64 q.1)]) (fun q w' => q.1 ≤ X.length ∧ q.2.1.length = 4 * q.1 ∧ Dig 256 q.2.1 ∧ val 256 q.2.1 = val BB (X.take q.1) ∧ Own rZ 3 w.heap.size w' q.2.2 q.2.1 ∧ Kp [] w w') (fun q => X.length - q.1) (0, [], .slice none 0 0) rfl
    ⟨rfl, rfl, rfl, trivial⟩ ⟨Nat.zero_le _, rfl, fun d hd => by simp at hd, by simp [val], Own.nil _ _ (Nat.le_refl _), Kp.refl _ _⟩ ?_
  rintro ⟨i, l, v⟩ w1 ⟨hi, hll, hld, hval, hO, hk1⟩
  simp only at hi hll hld hval hO
  refine br_dec (fun h => ?_) (fun h => ?_)
  · have hlt : i < X.length := by omega
    obtain ⟨x, hx, _⟩ := drop_get hlt
    obtain ⟨b, o, hab, hcx, hxB⟩ := hl.nat hx
    have hxB : x < 4294967296 := hxB
    refine lp τok (σ := Nat × List Nat × Value) (fun q => [(0, .slice a X.length c), (3, q.2.2), (4, .int .i64 i), (5, .int .i64 q.1)]) (fun q w' => q.1 ≤ 4 ∧ q.2.1.length = 4 * i + q.1 ∧ Dig 256 q.2.1 ∧ val 256 q.2.1 = val BB (X.take i) + 256 ^ (4 * i) * (x % 256 ^ q.1) ∧ Own rZ 3 w.heap.size w' q.2.2 q.2.1 ∧ Kp [] w w') (fun q => 4 - q.1) (0, l, v) rfl
      ⟨rfl, rfl, rfl, rfl, trivial⟩ ⟨Nat.zero_le _, by simp [hll], hld, by simp [hval, Nat.mod_one], hO, hk1⟩ ?_
    clear hO hld hll hval hk1
    rintro ⟨j, l, v⟩ w2 ⟨hj, hll, hld, hval, hO, hk2⟩
    simp only at hj hll hld hval hO
    refine br_dec (fun g => ?_) (fun g => ?_)
    · subst hab
      refine ix i rfl hlt ?_
      refine ldC (hS.tr hk2) hcx ?_
      refine i64n ((8 * j : Nat) : Int) (by omega) (by omega) (by simp) ?_
      refine u64n (8 * j) (by omega) (by simp) ?_
      have e8 : 2 ^ (8 * j) = 256 ^ j := by rw [Nat.pow_mul]
      refine shr32 (n := 8 * j) (x / 256 ^ j) (by omega) (by rw [e8]) ?_
      have hq : x / 256 ^ j < 4294967296 := Nat.lt_of_le_of_lt (Nat.div_le_self _ _) hxB
      refine and32 (x := x / 256 ^ j) (y := 255) (x / 256 ^ j % 256) hq (by decide) (Nat.and_two_pow_sub_one_eq_mod _ 8) ?_
      obtain ⟨d, hd⟩ : ∃ d, d = x / 256 ^ j % 256 := ⟨_, rfl⟩
      rw [← hd]
      have hd256 : d < 256 := by omega
      refine int64 (by omega) (by omega) ?_
      refine fill [.int .i64 (d : Int)] rfl ?_
      refine new fun b3 w3 hb3 hB3 hs3 hk3 => ?_
      refine (hO.kp hk3).ap1 τok rfl rfl (by decide) d [.int .i64 (d : Int)] ⟨rfl, by unfold ZZ; omega⟩ (fun j t hj => by rw [Nat.zero_add]; exact hB3.cl hj) (by omega) (by simp only [maxLen]; omega) fun v4 w4 hO4 hk4 _ => ?_
      refine int64 (by omega) (by omega) ?_
      refine ⟨(j + 1, l ++ [d], v4), by show 4 - (j + 1) < 4 - j; omega, rfl, ⟨rfl, rfl, rfl, rfl, trivial⟩, by show j + 1 ≤ 4; omega, by simp [hll]; omega, dig_append hld (dig_one hd256), ?_, hO4, (hk2.tr hk3).own hk4 (hO.kp hk3)⟩
      show val 256 (l ++ [d]) = _
      rw [val_append, hval, hll, dig_step, ← hd, Nat.pow_add]
      simp [val, Nat.mul_add, Nat.mul_assoc, Nat.add_assoc]
    · have hj4 : j = 4 := by omega
      subst hj4
      refine int64 (by omega) (by omega) ?_
      refine ⟨(i + 1, l, v), by show X.length - (i + 1) < X.length - i; omega, rfl, ⟨rfl, rfl, rfl, trivial⟩, hlt, by simp only; omega, hld, ?_, hO, hk2⟩
      show val 256 l = val BB (X.take (i + 1))
      rw [hval, val_take_succ hx, bb_pow, Nat.mod_eq_of_lt (show x < 256 ^ 4 from hxB)]
  · have hiX : i = X.length := by omega
    subst hiX
    rw [List.take_length] at hval
    obtain ⟨a1, c1, hv1, hcap⟩ := hO.cap
    obtain ⟨a2, c2, hv2, hs2⟩ := hO.den (by omega)
    rw [hv1] at hv2
    injection hv2 with e1 e2 e3
    subst e1 e3 hv1
    refine ev_call (cut01_ct (New.sub _ w1) l a1 c1 hs2 (by omega) hcap) ?_
    rintro e w2 ⟨rfl, rfl⟩
    have hcut : cut l = digs 256 (val BB X) := by rw [← hval, digs_val (by decide) hld]
    obtain ⟨k, hk, _⟩ := cut_pre l
    have hle : (cut l).length ≤ l.length := by rw [hk, List.length_take]; omega
    have hsl := hs2.takeN k
    rw [← hk, hcut] at hsl
    refine ⟨⟨_, rfl, a1, c1, by rw [hcut]; rfl, hsl, by rw [← hcut]; omega⟩, hk1⟩
end
end Go.Proofs.YtbggaljmollhmaaGreatDoor

/-
  The document's numbers (chapter 01): Words.
-/
set_option linter.unusedSimpArgs false
set_option linter.unusedVariables false
namespace Go.Proofs.YtbggaljmollhmaaGreatDoor
open Go.Wx Nm Vm Vc
theorem words_end {cl o : List Nat} {n : Nat} (hc : cl = digs 256 n) (ho : o.length = (cl.length + 3) / 4) (hd : Dig BB o) (hv : val BB o = n) : o = digs BB n := by
  rw [← hv, digs_val BB_two hd]
  obtain ⟨k, hk, hkl⟩ := cut_pre o
  rcases Nat.eq_zero_or_pos cl.length with h0 | h0
  · have : o = [] := List.length_eq_zero_iff.1 (by omega)
    subst this
    rfl
  · have hn : n ≠ 0 := fun e => by
      rw [e, digs_zero] at hc
      rw [hc] at h0
      simp at h0
    have h1 := digs_len_pow (B := 256) (by decide) hn
    rw [← hc] at h1
    have h2 : BB ^ (o.length - 1) ≤ n := by
      rw [bb_pow]
      exact Nat.le_trans (Nat.pow_le_pow_right (by decide) (by omega)) h1
    have h3 := digs_len_ge BB_two h2
    have h4 : (digs BB n).length = (cut o).length := by rw [← hv, digs_val BB_two hd]
    rw [hk, List.take_of_length_le (by omega)]
section
variable {C : Mem} {w : World}
set_option maxHeartbeats 1000000 in
theorem words01_ct (hS : Sub C w) (l : List Nat) (a : Option Addr) (c : Nat) (hl : Sl rZ C a l) (hd256 : Dig 256 l) (hlen : l.length ≤ 1000) (hc : l.length ≤ c) :
    CallOk Tryz.prog 36 ∧ Calls Tryz.prog 36 #[.slice a l.length c] w (fun e w' => (∃ v, e = .returned v ∧ IsNat (val 256 l) w w' v) ∧ Kp [] w w') := by
  refine ⟨⟨_, Tryz.func36, rfl, by decide⟩, ?_⟩
  refine calls_of (args := [_]) 41 [.tmp 2] τok Tryz.func36 rfl rfl rfl (Nat.le_of_ble_eq_true rfl) ?_
  refine ev_call (cut01_ct hS l a c hl (by omega) hc) ?_
  rintro e w0 ⟨rfl, rfl⟩
  obtain ⟨k0, hk0, _⟩ := cut_pre l
  have hcl := hl.takeN k0
  rw [← hk0] at hcl
  have hcd : Dig 256 (cut l) := dig_cut hd256
  have hcv : val 256 (cut l) = val 256 l := val_cut (by decide) hd256
  have hcg : cut l = digs 256 (val 256 l) := (digs_val (by decide) hd256).symm
  have hcle : (cut l).length ≤ 1000 := by
    have : (cut l).length ≤ l.length := by rw [hk0, List.length_take]; omega
    omega
  obtain ⟨L, hL⟩ : ∃ L, L = cut l := ⟨_, rfl⟩
  rw [← hL] at hcl hcd hcv hcg hcle ⊢
  refine fill [] rfl ?_
  refine new fun b1 w1 hb1 hB1 hs1 hk1 => ?_
  refine lp τok (σ := Nat × List Nat × Value) (fun q => [(0, .slice a L.length c), (3, q.2.2), (4, .int .i64 q.1)]) (fun q w' => q.1 ≤ L.length ∧ q.2.1.length = (q.1 + 3) / 4 ∧ Dig BB q.2.1 ∧ val BB q.2.1 = val 256 (L.take q.1) ∧ Own rW 40 w0.heap.size w' q.2.2 q.2.1 ∧ Kp [] w0 w') (fun q => L.length - q.1) (0, [], .slice (some ⟨b1, 0, none⟩) 0 0) rfl
    ⟨rfl, rfl, rfl, trivial⟩ ⟨Nat.zero_le _, by simp, fun d hd => by simp at hd, by simp [val], Own.empty _ hB1 (by omega), hk1⟩ ?_
  rintro ⟨i, o, v⟩ w2 ⟨hi, hol, hod, hval, hO, hk2⟩
  simp only at hi hol hod hval hO
  refine br_dec (fun h => ?_) (fun h => ?_)
  · have hlt : i < L.length := by omega
    obtain ⟨d, hdx, _⟩ := drop_get hlt
    obtain ⟨b, ob, hab, hcx, _⟩ := hcl.nat hdx
    have hd2 : d < 256 := hcd d (List.mem_of_getElem? hdx)
    have hi4 : i = 4 * (i / 4) + i % 4 := by omega
    obtain ⟨q, hq⟩ : ∃ q, q = i / 4 := ⟨_, rfl⟩
    obtain ⟨r, hr⟩ : ∃ r, r = i % 4 := ⟨_, rfl⟩
    rw [← hq, ← hr] at hi4
    have hr4 : r < 4 := by omega
    refine rem64 (by omega) (by decide) ?_
    refine br_dec (fun g => ?_) (fun g => ?_)
    · have hr0 : r = 0 := by omega
      refine fill [.int .u32 0] rfl ?_
      refine new fun b3 w3 hb3 hB3 hs3 hk3 => ?_
      refine (hO.kp hk3).ap1 τok rfl rfl (by decide) 0 [.int .u32 0] ⟨rfl, by decide⟩ (fun j t hj => by rw [Nat.zero_add]; exact hB3.cl hj) (by omega) (by simp only [maxLen]; omega) fun v2 w4 hO2 hk4 _ => ?_
      have k2 := (hk2.tr hk3).own hk4 (hO.kp hk3)
      obtain ⟨o2, ho2⟩ : ∃ o2, o2 = o ++ [0] := ⟨_, rfl⟩
      rw [← ho2] at hO2
      have hl2 : o2.length = q + 1 := by rw [ho2, List.length_append, hol]; simp; omega
      have hval2 : val BB o2 = val 256 (L.take i) := by rw [ho2, val_append, hval]; simp [val]
      have hod2 : Dig BB o2 := by rw [ho2]; exact dig_append hod (dig_one (by decide))
      -- w4: the world, o2: the words, v2: their row
      obtain ⟨x, hx, hxd⟩ := drop_get (l := o2) (k := q) (by omega)
      have hxlt : x < 256 ^ r := by
        have h1 := val_take_succ (B := BB) hx
        rw [List.take_of_length_le (by omega), hval2] at h1
        have h2 := val_take_lt (B := 256) (by decide) hcd i
        have h3 : BB ^ q * x < BB ^ q * 256 ^ r := by
          rw [bb_pow] at h1 ⊢
          rw [← Nat.pow_add, ← hi4]
          omega
        exact Nat.lt_of_mul_lt_mul_left h3
      have hp : 256 ^ r ≤ 16777216 := Nat.le_trans (Nat.pow_le_pow_right (by decide) (show r ≤ 3 by omega)) (by decide)
      have hdr : d * 256 ^ r ≤ 255 * 256 ^ r := Nat.mul_le_mul_right _ (by omega)
      have hbd : x + d * 256 ^ r < 4294967296 := by omega
      obtain ⟨g1, cap1, hv1, hlo1, hst1⟩ := (hO2.kp ((Kp.refl [] w4).dr ((w4).drawn + 1))).st (i := q) (j := 0) (x := x) (y := x + d * 256 ^ r) hx (by decide) (u := .int .u32 ((x + d * 256 ^ r : Nat) : Int)) rfl (by rintro cs ⟨rfl, _⟩; exact ⟨rfl, hbd⟩)
      obtain ⟨a4, c4, hv4, hs4⟩ := hO2.den (by omega)
      obtain ⟨b5, o5, hab5, hcx5, _⟩ := hs4.nat hx
      rw [hv1] at hv4
      injection hv4 with e1 e2 e3
      rw [← e1] at hab5
      have hab5 := Option.some.inj hab5
      injection hab5 with e4 e5
      subst e4 e5
      have hc4 := (New.sub _ w4 _ _ _ hcx5)
      have hcd4 : Cl (w4).heap b (ob + i * 1) (.int .i64 (d : Int)) := hS.tr k2 _ _ _ hcx
      subst hab
      rw [hv1]
      refine drawV τok (fun z => Kp [] w4 z) ?_
      refine readsV τok [0, 1, 2, 3, 4, 5, 6, 7, 8, 9, 10, 11, 12, 13, 14, 15, 16, 17, 18] 2 #[true, true, true, true, true, true, true, true, true, true, true, true, true, true, true, true, true, true, true, false, false] rfl rfl (by kernel_rfl) (by kernel_rfl) (by kernel_rfl) ((Kp.refl [] w4).dr _) ?_
      refine quo64Q (by omega) (by omega) (by decide) ?_
      refine quo64Q (by omega) (by omega) (by decide) ?_
      refine ix q (by omega) (by omega) ?_
      refine ldQ (fun z hz => hc4.kp hz (by simp)) ?_
      refine ix i rfl hlt ?_
      refine ldQ (fun z hz => hcd4.kp hz (by simp)) ?_
      refine u32n d (by omega) rfl ?_
      refine rem64Q (by omega) (by decide) ?_
      refine i64n ((8 * r : Nat) : Int) (by omega) (by omega) (by omega) ?_
      refine u64n (8 * r) (by omega) (by simp) ?_
      have e8 : d * 2 ^ (8 * r) % 4294967296 = d * 256 ^ r := by
        have e2 : 2 ^ (8 * r) = 256 ^ r := by rw [Nat.pow_mul]
        rw [e2]
        exact Nat.mod_eq_of_lt (by omega)
      refine runQ (v := .int .u32 ((d * 256 ^ r : Nat) : Int)) (fun z _ => by rw [← e8]; exact shl32_run (by omega) z) ?_
      refine u32n (x + d * 256 ^ r) hbd (by simp) ?_
      refine nextV τok 19 1 #[true, true, true, true, true, true, true, true, true, true, true, true, true, true, true, true, true, true, true, true, false] rfl rfl rfl (by kernel_rfl) ?_
      refine ix q (by omega) (by omega) ?_
      refine ⟨.inl ((Kp.refl [] w4).dr _), ?_⟩
      refine nextV τok 20 0 #[true, true, true, true, true, true, true, true, true, true, true, true, true, true, true, true, true, true, true, true, true] rfl rfl rfl (by kernel_rfl) ?_
      refine hst1 (fun w5 hO5 hs5 hk5 => ?_)
      refine ⟨.inr (by kernel_rfl), ?_⟩
      refine doneV (by kernel_rfl) ?_
      refine int64 (by omega) (by omega) ?_
      have hvs := val_set (B := BB) (l := o2) (i := q) (x := x + d * 256 ^ r) (by omega)
      rw [List.getD_eq_getElem?_getD, hx] at hvs
      simp only [Option.getD_some, Nat.mul_add] at hvs
      have hvt := val_take_succ (B := 256) hdx
      have hpe : 256 ^ i * d = BB ^ q * (d * 256 ^ r) := by
        rw [bb_pow, Nat.mul_comm d, ← Nat.mul_assoc, ← Nat.pow_add, ← hi4]
      refine ⟨(i + 1, (o2).set q (x + d * 256 ^ r), .slice (some ⟨g1, 0, none⟩) (o2).length cap1), by show L.length - (i + 1) < L.length - i; omega, rfl, ⟨rfl, rfl, rfl, trivial⟩, hlt, by show (List.set _ _ _).length = _; rw [List.length_set, hl2]; show q + 1 = (i + 1 + 3) / 4; omega, dig_set hod2 hbd, ?_, by rw [← hv1]; exact hO5, k2.trans hk5.rd (fun y hy hl => by
        have : y = g1 := by simpa using hy
        omega)⟩
      show val BB ((o2).set q (x + d * 256 ^ r)) = val 256 (L.take (i + 1))
      rw [hvt, hpe]
      omega
    · have hl2 : o.length = q + 1 := by omega
      have k2 := hk2
      have hO2 := hO
      have hval2 := hval
      have hod2 := hod
      -- w2: the world, o: the words, v: their row
      obtain ⟨x, hx, hxd⟩ := drop_get (l := o) (k := q) (by omega)
      have hxlt : x < 256 ^ r := by
        have h1 := val_take_succ (B := BB) hx
        rw [List.take_of_length_le (by omega), hval2] at h1
        have h2 := val_take_lt (B := 256) (by decide) hcd i
        have h3 : BB ^ q * x < BB ^ q * 256 ^ r := by
          rw [bb_pow] at h1 ⊢
          rw [← Nat.pow_add, ← hi4]
          omega
        exact Nat.lt_of_mul_lt_mul_left h3
      have hp : 256 ^ r ≤ 16777216 := Nat.le_trans (Nat.pow_le_pow_right (by decide) (show r ≤ 3 by omega)) (by decide)
      have hdr : d * 256 ^ r ≤ 255 * 256 ^ r := Nat.mul_le_mul_right _ (by omega)
      have hbd : x + d * 256 ^ r < 4294967296 := by omega
      obtain ⟨g1, cap1, hv1, hlo1, hst1⟩ := (hO2.kp ((Kp.refl [] w2).dr ((w2).drawn + 1))).st (i := q) (j := 0) (x := x) (y := x + d * 256 ^ r) hx (by decide) (u := .int .u32 ((x + d * 256 ^ r : Nat) : Int)) rfl (by rintro cs ⟨rfl, _⟩; exact ⟨rfl, hbd⟩)
      obtain ⟨a4, c4, hv4, hs4⟩ := hO2.den (by omega)
      obtain ⟨b5, o5, hab5, hcx5, _⟩ := hs4.nat hx
      rw [hv1] at hv4
      injection hv4 with e1 e2 e3
      rw [← e1] at hab5
      have hab5 := Option.some.inj hab5
      injection hab5 with e4 e5
      subst e4 e5
      have hc4 := (New.sub _ w2 _ _ _ hcx5)
      have hcd4 : Cl (w2).heap b (ob + i * 1) (.int .i64 (d : Int)) := hS.tr k2 _ _ _ hcx
      subst hab
      rw [hv1]
      refine drawV τok (fun z => Kp [] w2 z) ?_
      refine readsV τok [0, 1, 2, 3, 4, 5, 6, 7, 8, 9, 10, 11, 12, 13, 14, 15, 16, 17, 18] 2 #[true, true, true, true, true, true, true, true, true, true, true, true, true, true, true, true, true, true, true, false, false] rfl rfl (by kernel_rfl) (by kernel_rfl) (by kernel_rfl) ((Kp.refl [] w2).dr _) ?_
      refine quo64Q (by omega) (by omega) (by decide) ?_
      refine quo64Q (by omega) (by omega) (by decide) ?_
      refine ix q (by omega) (by omega) ?_
      refine ldQ (fun z hz => hc4.kp hz (by simp)) ?_
      refine ix i rfl hlt ?_
      refine ldQ (fun z hz => hcd4.kp hz (by simp)) ?_
      refine u32n d (by omega) rfl ?_
      refine rem64Q (by omega) (by decide) ?_
      refine i64n ((8 * r : Nat) : Int) (by omega) (by omega) (by omega) ?_
      refine u64n (8 * r) (by omega) (by simp) ?_
      have e8 : d * 2 ^ (8 * r) % 4294967296 = d * 256 ^ r := by
        have e2 : 2 ^ (8 * r) = 256 ^ r := by rw [Nat.pow_mul]
        rw [e2]
        exact Nat.mod_eq_of_lt (by omega)
      refine runQ (v := .int .u32 ((d * 256 ^ r : Nat) : Int)) (fun z _ => by rw [← e8]; exact shl32_run (by omega) z) ?_
      refine u32n (x + d * 256 ^ r) hbd (by simp) ?_
      refine nextV τok 19 1 #[true, true, true, true, true, true, true, true, true, true, true, true, true, true, true, true, true, true, true, true, false] rfl rfl rfl (by kernel_rfl) ?_
      refine ix q (by omega) (by omega) ?_
      refine ⟨.inl ((Kp.refl [] w2).dr _), ?_⟩
      refine nextV τok 20 0 #[true, true, true, true, true, true, true, true, true, true, true, true, true, true, true, true, true, true, true, true, true] rfl rfl rfl (by kernel_rfl) ?_
      refine hst1 (fun w5 hO5 hs5 hk5 => ?_)
      refine ⟨.inr (by kernel_rfl), ?_⟩
      refine doneV (by kernel_rfl) ?_
      refine int64 (by omega) (by omega) ?_
      have hvs := val_set (B := BB) (l := o) (i := q) (x := x + d * 256 ^ r) (by omega)
      rw [List.getD_eq_getElem?_getD, hx] at hvs
      simp only [Option.getD_some, Nat.mul_add] at hvs
      have hvt := val_take_succ (B := 256) hdx
      have hpe : 256 ^ i * d = BB ^ q * (d * 256 ^ r) := by
        rw [bb_pow, Nat.mul_comm d, ← Nat.mul_assoc, ← Nat.pow_add, ← hi4]
      refine ⟨(i + 1, (o).set q (x + d * 256 ^ r), .slice (some ⟨g1, 0, none⟩) (o).length cap1), by show L.length - (i + 1) < L.length - i; omega, rfl, ⟨rfl, rfl, rfl, trivial⟩, hlt, by show (List.set _ _ _).length = _; rw [List.length_set, hl2]; show q + 1 = (i + 1 + 3) / 4; omega, dig_set hod2 hbd, ?_, by rw [← hv1]; exact hO5, k2.trans hk5.rd (fun y hy hl => by
        have : y = g1 := by simpa using hy
        omega)⟩
      show val BB ((o).set q (x + d * 256 ^ r)) = val 256 (L.take (i + 1))
      rw [hvt, hpe]
      omega
  · have hiL : i = L.length := by omega
    subst hiL
    rw [List.take_length, hcv] at hval
    have hfin := words_end hcg hol hod hval
    obtain ⟨a1, c1, hv1, hcap⟩ := hO.cap
    obtain ⟨a2, c2, hv2, hs2⟩ := hO.den (by omega)
    rw [hv1] at hv2
    injection hv2 with e1 e2 e3
    subst e1 e3 hv1
    rw [hfin] at hs2 hcap ⊢
    exact ⟨⟨_, rfl, a1, c1, rfl, hs2, hcap⟩, hk2⟩
end
end Go.Proofs.YtbggaljmollhmaaGreatDoor

/-
  The document's numbers (chapter 01): Of.
-/
set_option linter.unusedSimpArgs false
set_option linter.unusedVariables false
namespace Go.Proofs.YtbggaljmollhmaaGreatDoor
open Go.Wx Nm Vm Vc
theorem of01_ct (n : Nat) (hn : n < 18446744073709551616) (w : World) :
    CallOk Tryz.prog 15 ∧ Calls Tryz.prog 15 #[.int .u64 (n : Int)] w (fun e w' => (∃ v, e = .returned v ∧ IsNat n w w' v) ∧ Kp [] w w') := by
  refine ⟨⟨_, Tryz.func15, rfl, by decide⟩, ?_⟩
  refine calls_of (args := [_]) 21 [.tmp 2] τok Tryz.func15 rfl rfl rfl (Nat.le_of_ble_eq_true rfl) ?_
  refine lp τok (σ := Nat × List Nat × Value) (fun q => [(0, .int .u64 (n : Int)), (3, q.2.2), (4, .int .i64 q.1)]) (fun q w' => q.1 ≤ 8 ∧ q.2.1.length = q.1 ∧ Dig 256 q.2.1 ∧ val 256 q.2.1 = n % 256 ^ q.1 ∧ Own rZ 3 w.heap.size w' q.2.2 q.2.1 ∧ Kp [] w w') (fun q => 8 - q.1) (0, [], .slice none 0 0) rfl
    ⟨rfl, rfl, rfl, trivial⟩ ⟨Nat.zero_le _, rfl, fun d hd => by simp at hd, by simp [val, Nat.mod_one], Own.nil _ _ (Nat.le_refl _), Kp.refl _ _⟩ ?_
  rintro ⟨j, l, v⟩ w2 ⟨hj, hll, hld, hval, hO, hk2⟩
  simp only at hj hll hld hval hO
  refine br_dec (fun g => ?_) (fun g => ?_)
  · refine i64n ((8 * j : Nat) : Int) (by omega) (by omega) (by simp) ?_
    refine u64n (8 * j) (by omega) (by simp) ?_
    have e8 : 2 ^ (8 * j) = 256 ^ j := by rw [Nat.pow_mul]
    refine shr64 (n := 8 * j) (n / 256 ^ j) (by omega) (by rw [e8]) ?_
    have hq : n / 256 ^ j < 18446744073709551616 := Nat.lt_of_le_of_lt (Nat.div_le_self _ _) hn
    refine and64 (x := n / 256 ^ j) (y := 255) (n / 256 ^ j % 256) hq (by decide) (Nat.and_two_pow_sub_one_eq_mod _ 8) ?_
    obtain ⟨d, hd⟩ : ∃ d, d = n / 256 ^ j % 256 := ⟨_, rfl⟩
    rw [← hd]
    have hd256 : d < 256 := by omega
    refine int64 (by omega) (by omega) ?_
    refine fill [.int .i64 (d : Int)] rfl ?_
    refine new fun b3 w3 hb3 hB3 hs3 hk3 => ?_
    refine (hO.kp hk3).ap1 τok rfl rfl (by decide) d [.int .i64 (d : Int)] ⟨rfl, by unfold ZZ; omega⟩ (fun j t hj => by rw [Nat.zero_add]; exact hB3.cl hj) (by omega) (by simp only [maxLen]; omega) fun v4 w4 hO4 hk4 _ => ?_
    refine int64 (by omega) (by omega) ?_
    refine ⟨(j + 1, l ++ [d], v4), by show 8 - (j + 1) < 8 - j; omega, rfl, ⟨rfl, rfl, rfl, trivial⟩, by show j + 1 ≤ 8; omega, by simp [hll], dig_append hld (dig_one hd256), ?_, hO4, (hk2.tr hk3).own hk4 (hO.kp hk3)⟩
    show val 256 (l ++ [d]) = _
    rw [val_append, hval, hll, dig_step, ← hd]
    simp [val]
  · have hj8 : j = 8 := by omega
    subst hj8
    have hval : val 256 l = n := by rw [hval]; exact Nat.mod_eq_of_lt hn
    obtain ⟨a1, c1, hv1, hcap⟩ := hO.cap
    obtain ⟨a2, c2, hv2, hs2⟩ := hO.den (by omega)
    rw [hv1] at hv2
    injection hv2 with e1 e2 e3
    subst e1 e3 hv1
    have hw := words01_ct (New.sub _ w2) l a1 c1 hs2 hld (by omega) hcap
    rw [hval] at hw
    refine ev_call hw ?_
    rintro e w3 ⟨⟨v, rfl, hv⟩, hk3⟩
    exact ⟨⟨v, rfl, isNat_up hk2 hv⟩, hk2.tr hk3⟩
end Go.Proofs.YtbggaljmollhmaaGreatDoor

/-
  The document's numbers (chapter 01): carried.
-/
set_option linter.unusedSimpArgs false
set_option linter.unusedVariables false
namespace Go.Proofs.YtbggaljmollhmaaGreatDoor
open Go.Wx Nm Vm Vc
section
variable {C : Mem} {w : World}
theorem carried01_ct (hS : Sub C w) (l : List Nat) (a : Option Addr) (c : Nat) (hl : Sl rZ C a l) (hb : ∀ x ∈ l, x < 1073741824) (hlen : l.length ≤ 1000) :
    CallOk Tryz.prog 39 ∧ Calls Tryz.prog 39 #[.slice a l.length c] w (fun e w' => (∃ v, e = .returned v ∧ IsRow (digs 256 (val 256 l)) w w' v) ∧ Kp [] w w') := by
  refine ⟨⟨_, Tryz.func39, rfl, by decide⟩, ?_⟩
  refine calls_of (args := [_]) 35 [.tmp 2] τok Tryz.func39 rfl rfl rfl (Nat.le_of_ble_eq_true rfl) ?_
  refine lp τok (σ := Nat × Nat × List Nat × Value) (fun q => [(0, .slice a l.length c), (3, q.2.2.2), (4, .int .i64 q.2.1), (5, .int .i64 q.1)]) (fun q w' => q.2.1 ≤ 1073741824 ∧ (q.1 ≤ l.length ∨ q.1 + q.2.1 ≤ l.length + 1073741824) ∧ q.2.2.1.length = q.1 ∧ Dig 256 q.2.2.1 ∧ val 256 q.2.2.1 + 256 ^ q.1 * q.2.1 = val 256 (l.take q.1) ∧ Own rZ 3 w.heap.size w' q.2.2.2 q.2.2.1 ∧ Kp [] w w') (fun q => (l.length - q.1) * 4294967296 + q.2.1) (0, 0, [], .slice none 0 0) rfl
    ⟨rfl, rfl, rfl, rfl, trivial⟩ ⟨Nat.zero_le _, .inl (Nat.zero_le _), rfl, fun d hd => by simp at hd, by simp [val], Own.nil _ _ (Nat.le_refl _), Kp.refl _ _⟩ ?_
  rintro ⟨i, cy, o, v⟩ w2 ⟨hcy, hi2, hol, hod, hval, hO, hk2⟩
  simp only at hcy hi2 hol hod hval hO
  refine br_dec (fun g => ?_) (fun g => ?_)
  · have hlt : i < l.length := by omega
    refine br_dec (fun g2 => ?_) (fun g2 => ?_)
    · obtain ⟨x, hx, _⟩ := drop_get hlt
      obtain ⟨b, ob, rfl, hcx, _⟩ := hl.nat hx
      have hxb := hb x (List.mem_of_getElem? hx)
      refine ix i rfl hlt ?_
      refine ldC (hS.tr hk2) hcx ?_
      refine i64n ((cy + x : Nat) : Int) (by omega) (by omega) (by simp) ?_
      obtain ⟨s, hs⟩ : ∃ s, s = cy + x := ⟨_, rfl⟩
      rw [← hs]
      have hval2 : val 256 o + 256 ^ i * s = val 256 (l.take (i + 1)) := by
        rw [val_take_succ hx, ← hval, hs, Nat.mul_add]
        omega
      refine remU (x := s) (y := 256) (s % 256) (by decide) rfl ?_
      obtain ⟨d, hd⟩ : ∃ d, d = s % 256 := ⟨_, rfl⟩
      rw [← hd]
      refine fill [.int .i64 (d : Int)] rfl ?_
      refine new fun b3 w3 hb3 hB3 hs3 hk3 => ?_
      refine (hO.kp hk3).ap1 τok rfl rfl (by decide) d [.int .i64 (d : Int)] ⟨rfl, by unfold ZZ; omega⟩ (fun j t hj => by rw [Nat.zero_add]; exact hB3.cl hj) (by omega) (by simp only [maxLen]; omega) fun v4 w4 hO4 hk4 _ => ?_
      refine quo64 (x := (s : Int)) (by omega) (by omega) (by decide) ?_
      refine int64 (by simp only; omega) (by simp only; omega) ?_
      have hdB : d < 256 := by omega
      have hcut : val 256 (o ++ [d]) + 256 ^ (i + 1) * (s / 256) = val 256 (l.take (i + 1)) := by
        rw [val_append, hol, ← hval2, Nat.pow_succ, Nat.mul_assoc, Nat.add_assoc, ← Nat.mul_add]
        simp only [val, Nat.mul_zero, Nat.add_zero]
        congr 2
        omega
      refine ⟨(i + 1, s / 256, o ++ [d], v4), by simp only; omega, rfl, ⟨rfl, rfl, by show some (Value.int .i64 ((s : Int) / 256)) = some (Value.int .i64 ((s / 256 : Nat) : Int)); rw [Int.natCast_ediv]; rfl, rfl, trivial⟩, by show s / 256 ≤ 1073741824; omega, by show i + 1 ≤ l.length ∨ i + 1 + s / 256 ≤ l.length + 1073741824; omega, by simp [hol], dig_append hod (dig_one hdB), hcut, hO4, (hk2.tr hk3).own hk4 (hO.kp hk3)⟩
    · omega
  · refine br_dec (fun g2 => ?_) (fun g2 => ?_)
    · have g : ¬ ((i : Int) < l.length) := g
      have g2 : (0 : Int) < cy := g2
      refine br_no (by omega) ?_
      show EvRun _ _ _ _
      obtain ⟨s, hs⟩ : ∃ s, s = cy := ⟨_, rfl⟩
      rw [← hs]
      have hval2 : val 256 o + 256 ^ i * s = val 256 (l.take (i + 1)) := by
        rw [hs, hval, List.take_of_length_le (by omega), List.take_of_length_le (by omega)]
      refine remU (x := s) (y := 256) (s % 256) (by decide) rfl ?_
      obtain ⟨d, hd⟩ : ∃ d, d = s % 256 := ⟨_, rfl⟩
      rw [← hd]
      refine fill [.int .i64 (d : Int)] rfl ?_
      refine new fun b3 w3 hb3 hB3 hs3 hk3 => ?_
      refine (hO.kp hk3).ap1 τok rfl rfl (by decide) d [.int .i64 (d : Int)] ⟨rfl, by unfold ZZ; omega⟩ (fun j t hj => by rw [Nat.zero_add]; exact hB3.cl hj) (by omega) (by simp only [maxLen]; omega) fun v4 w4 hO4 hk4 _ => ?_
      refine quo64 (x := (s : Int)) (by omega) (by omega) (by decide) ?_
      refine int64 (by simp only; omega) (by simp only; omega) ?_
      have hdB : d < 256 := by omega
      have hcut : val 256 (o ++ [d]) + 256 ^ (i + 1) * (s / 256) = val 256 (l.take (i + 1)) := by
        rw [val_append, hol, ← hval2, Nat.pow_succ, Nat.mul_assoc, Nat.add_assoc, ← Nat.mul_add]
        simp only [val, Nat.mul_zero, Nat.add_zero]
        congr 2
        omega
      refine ⟨(i + 1, s / 256, o ++ [d], v4), by simp only; omega, rfl, ⟨rfl, rfl, by show some (Value.int .i64 ((s : Int) / 256)) = some (Value.int .i64 ((s / 256 : Nat) : Int)); rw [Int.natCast_ediv]; rfl, rfl, trivial⟩, by show s / 256 ≤ 1073741824; omega, by show i + 1 ≤ l.length ∨ i + 1 + s / 256 ≤ l.length + 1073741824; omega, by simp [hol], dig_append hod (dig_one hdB), hcut, hO4, (hk2.tr hk3).own hk4 (hO.kp hk3)⟩
    · have g : ¬ ((i : Int) < l.length) := g
      have g2 : ¬ ((0 : Int) < cy) := g2
      have hc0 : cy = 0 := by omega
      subst hc0
      rw [List.take_of_length_le (by omega), Nat.mul_zero, Nat.add_zero] at hval
      obtain ⟨a1, c1, hv1, hcap⟩ := hO.cap
      obtain ⟨a2, c2, hv2, hs2⟩ := hO.den (by omega)
      rw [hv1] at hv2
      injection hv2 with e1 e2 e3
      subst e1 e3 hv1
      refine ev_call (cut01_ct (New.sub _ w2) o a1 c1 hs2 (by omega) hcap) ?_
      rintro e w3 ⟨rfl, rfl⟩
      have hcut : cut o = digs 256 (val 256 l) := by rw [← hval, digs_val (by decide) hod]
      obtain ⟨k, hk, _⟩ := cut_pre o
      have hle : (cut o).length ≤ o.length := by rw [hk, List.length_take]; omega
      have hsl := hs2.takeN k
      rw [← hk, hcut] at hsl
      exact ⟨⟨_, rfl, a1, c1, by rw [hcut]; rfl, hsl, by rw [← hcut]; omega⟩, hk2⟩
end
end Go.Proofs.YtbggaljmollhmaaGreatDoor

/-
  The document's numbers (chapter 01): plus, Add.
-/
set_option linter.unusedSimpArgs false
set_option linter.unusedVariables false
namespace Go.Proofs.YtbggaljmollhmaaGreatDoor
open Go.Wx Nm Vm Vc
section
variable {C D : Mem} {w : World}
theorem plus01_ct (hS : Sub C w) (hD : Sub D w) (x y : List Nat) (a a' : Option Addr) (c c' : Nat) (hx : Sl rZ C a x) (hy : Sl rZ D a' y) (hxd : Dig 256 x) (hyd : Dig 256 y) (hxl : x.length ≤ 1000) (hyl : y.length ≤ 1000) :
    CallOk Tryz.prog 37 ∧ Calls Tryz.prog 37 #[.slice a x.length c, .slice a' y.length c'] w (fun e w' => (∃ v, e = .returned v ∧ IsRow (digs 256 (val 256 x + val 256 y)) w w' v) ∧ Kp [] w w') := by
  refine ⟨⟨_, Tryz.func37, rfl, by decide⟩, ?_⟩
  refine calls_of (args := [_, _]) 46 [.tmp 4] τok Tryz.func37 rfl rfl rfl (Nat.le_of_ble_eq_true rfl) ?_
  refine lp τok (σ := Nat × List Nat × Value) (fun q => [(0, .slice a x.length c), (1, .slice a' y.length c'), (5, q.2.2), (6, .int .i64 q.1)]) (fun q w' => q.1 ≤ max x.length y.length ∧ q.2.1.length = q.1 ∧ (∀ d ∈ q.2.1, d < 1073741824) ∧ val 256 q.2.1 = val 256 (x.take q.1) + val 256 (y.take q.1) ∧ Own rZ 3 w.heap.size w' q.2.2 q.2.1 ∧ Kp [] w w') (fun q => max x.length y.length - q.1) (0, [], .slice none 0 0) rfl
    ⟨rfl, rfl, rfl, rfl, trivial⟩ ⟨Nat.zero_le _, rfl, fun d hd => by simp at hd, by simp [val], Own.nil _ _ (Nat.le_refl _), Kp.refl _ _⟩ ?_
  rintro ⟨i, o, v⟩ w2 ⟨hi, hol, hob, hval, hO, hk2⟩
  simp only at hi hol hob hval hO
  refine br_dec (fun g => ?_) (fun g => ?_)
  · have g : (i : Int) < x.length := g
    have hlt : i < x.length := by omega
    obtain ⟨ux, hux, _⟩ := drop_get hlt
    obtain ⟨b, ob, rfl, hcx, _⟩ := hx.nat hux
    have hux2 := hxd ux (List.mem_of_getElem? hux)
    obtain ⟨sx, hsx⟩ : ∃ sx, sx = x.getD i 0 := ⟨_, rfl⟩
    have hsxe : sx = ux := by rw [hsx, List.getD_eq_getElem?_getD, hux]; rfl
    refine br_yes (by simp only; omega) ?_
    refine ix i rfl hlt ?_
    refine ldC (hS.tr hk2) hcx ?_
    refine i64n (sx : Int) (by omega) (by omega) (by omega) ?_
    refine br_dec (fun g2 => ?_) (fun g2 => ?_)
    · have g2 : (i : Int) < y.length := g2
      have hlt2 : i < y.length := by omega
      obtain ⟨uy, huy, _⟩ := drop_get hlt2
      obtain ⟨b2, ob2, rfl, hcy, _⟩ := hy.nat huy
      have huy2 := hyd uy (List.mem_of_getElem? huy)
      obtain ⟨sy, hsy⟩ : ∃ sy, sy = y.getD i 0 := ⟨_, rfl⟩
      have hsye : sy = uy := by rw [hsy, List.getD_eq_getElem?_getD, huy]; rfl
      refine ix i rfl hlt2 ?_
      refine ldC (hD.tr hk2) hcy ?_
      obtain ⟨s, hss⟩ : ∃ s, s = sx + sy := ⟨_, rfl⟩
      refine i64n (s : Int) (by omega) (by omega) (by omega) ?_
      refine fill [.int .i64 (s : Int)] rfl ?_
      refine new fun b3 w3 hb3 hB3 hs3 hk3 => ?_
      refine (hO.kp hk3).ap1 τok rfl rfl (by decide) s [.int .i64 (s : Int)] ⟨rfl, by unfold ZZ; omega⟩ (fun j t hj => by rw [Nat.zero_add]; exact hB3.cl hj) (by omega) (by simp only [maxLen]; omega) fun v4 w4 hO4 hk4 _ => ?_
      refine int64 (by simp only; omega) (by simp only; omega) ?_
      refine ⟨(i + 1, o ++ [s], v4), by simp only; omega, rfl, ⟨rfl, rfl, rfl, rfl, trivial⟩, by show i + 1 ≤ max x.length y.length; omega, by simp [hol], fun d hd => by
        rcases List.mem_append.1 hd with h | h
        · exact hob d h
        · simp at h
          omega, ?_, hO4, (hk2.tr hk3).own hk4 (hO.kp hk3)⟩
      show val 256 (o ++ [s]) = _
      rw [val_append, hol, hval, val_take_getD, val_take_getD, ← hsx, ← hsy]
      simp only [val, Nat.mul_zero, Nat.add_zero]
      rw [hss, Nat.mul_add]
      omega
    · have g2 : ¬ (i : Int) < y.length := g2
      obtain ⟨sy, hsy⟩ : ∃ sy, sy = y.getD i 0 := ⟨_, rfl⟩
      have hsye : sy = 0 := by rw [hsy, List.getD_eq_getElem?_getD, List.getElem?_eq_none (by omega)]; rfl
      obtain ⟨s, hss⟩ : ∃ s, s = sx + sy := ⟨_, rfl⟩
      have hse : sx = s := by omega
      rw [hse]
      refine fill [.int .i64 (s : Int)] rfl ?_
      refine new fun b3 w3 hb3 hB3 hs3 hk3 => ?_
      refine (hO.kp hk3).ap1 τok rfl rfl (by decide) s [.int .i64 (s : Int)] ⟨rfl, by unfold ZZ; omega⟩ (fun j t hj => by rw [Nat.zero_add]; exact hB3.cl hj) (by omega) (by simp only [maxLen]; omega) fun v4 w4 hO4 hk4 _ => ?_
      refine int64 (by simp only; omega) (by simp only; omega) ?_
      refine ⟨(i + 1, o ++ [s], v4), by simp only; omega, rfl, ⟨rfl, rfl, rfl, rfl, trivial⟩, by show i + 1 ≤ max x.length y.length; omega, by simp [hol], fun d hd => by
        rcases List.mem_append.1 hd with h | h
        · exact hob d h
        · simp at h
          omega, ?_, hO4, (hk2.tr hk3).own hk4 (hO.kp hk3)⟩
      show val 256 (o ++ [s]) = _
      rw [val_append, hol, hval, val_take_getD, val_take_getD, ← hsx, ← hsy]
      simp only [val, Nat.mul_zero, Nat.add_zero]
      rw [hss, Nat.mul_add]
      omega
  · have g : ¬ (i : Int) < x.length := g
    refine br_dec (fun g2 => ?_) (fun g2 => ?_)
    · have g2 : (i : Int) < y.length := g2
      have hlt2 : i < y.length := by omega
      obtain ⟨uy, huy, _⟩ := drop_get hlt2
      obtain ⟨b2, ob2, rfl, hcy, _⟩ := hy.nat huy
      have huy2 := hyd uy (List.mem_of_getElem? huy)
      obtain ⟨sy, hsy⟩ : ∃ sy, sy = y.getD i 0 := ⟨_, rfl⟩
      have hsye : sy = uy := by rw [hsy, List.getD_eq_getElem?_getD, huy]; rfl
      obtain ⟨sx, hsx⟩ : ∃ sx, sx = x.getD i 0 := ⟨_, rfl⟩
      have hsxe : sx = 0 := by rw [hsx, List.getD_eq_getElem?_getD, List.getElem?_eq_none (by omega)]; rfl
      obtain ⟨s, hss⟩ : ∃ s, s = sx + sy := ⟨_, rfl⟩
      refine br_no (by simp only; omega) ?_
      refine br_yes (by simp only; omega) ?_
      refine ix i rfl hlt2 ?_
      refine ldC (hD.tr hk2) hcy ?_
      refine i64n (s : Int) (by omega) (by omega) (by omega) ?_
      refine fill [.int .i64 (s : Int)] rfl ?_
      refine new fun b3 w3 hb3 hB3 hs3 hk3 => ?_
      refine (hO.kp hk3).ap1 τok rfl rfl (by decide) s [.int .i64 (s : Int)] ⟨rfl, by unfold ZZ; omega⟩ (fun j t hj => by rw [Nat.zero_add]; exact hB3.cl hj) (by omega) (by simp only [maxLen]; omega) fun v4 w4 hO4 hk4 _ => ?_
      refine int64 (by simp only; omega) (by simp only; omega) ?_
      refine ⟨(i + 1, o ++ [s], v4), by simp only; omega, rfl, ⟨rfl, rfl, rfl, rfl, trivial⟩, by show i + 1 ≤ max x.length y.length; omega, by simp [hol], fun d hd => by
        rcases List.mem_append.1 hd with h | h
        · exact hob d h
        · simp at h
          omega, ?_, hO4, (hk2.tr hk3).own hk4 (hO.kp hk3)⟩
      show val 256 (o ++ [s]) = _
      rw [val_append, hol, hval, val_take_getD, val_take_getD, ← hsx, ← hsy]
      simp only [val, Nat.mul_zero, Nat.add_zero]
      rw [hss, Nat.mul_add]
      omega
    · have g2 : ¬ (i : Int) < y.length := g2
      rw [List.take_of_length_le (by omega), List.take_of_length_le (by omega)] at hval
      obtain ⟨a1, c1, hv1, hcap⟩ := hO.cap
      obtain ⟨a2, c2, hv2, hs2⟩ := hO.den (by omega)
      rw [hv1] at hv2
      injection hv2 with e1 e2 e3
      subst e1 e3 hv1
      have hc := carried01_ct (New.sub _ w2) o a1 c1 hs2 hob (by omega)
      rw [hval] at hc
      refine ev_call hc ?_
      rintro e w3 ⟨⟨v, rfl, a5, c5, rfl, h5, h6⟩, hk3⟩
      exact ⟨⟨_, rfl, a5, c5, rfl, h5.mono fun b o t ht => ⟨Nat.le_trans hk2.size ht.1, ht.2⟩, h6⟩, hk2.tr hk3⟩
end
end Go.Proofs.YtbggaljmollhmaaGreatDoor

/-
  The document's numbers (chapter 01): less, minus.
-/
set_option linter.unusedSimpArgs false
set_option linter.unusedVariables false
namespace Go.Proofs.YtbggaljmollhmaaGreatDoor
open Go.Wx Nm Vm Vc
theorem digs_inj {X Y : Nat} (h : digs 256 X = digs 256 Y) : X = Y := by
  rw [← val_digs (B := 256) (by decide) X, h, val_digs (by decide)]
section
variable {C D : Mem} {w : World}
theorem less01_ct (hS : Sub C w) (hD : Sub D w) (X Y : Nat) (x y : List Nat) (hxe : x = digs 256 X) (hye : y = digs 256 Y) (a a' : Option Addr) (c c' : Nat) (hx : Sl rZ C a x) (hy : Sl rZ D a' y) :
    CallOk Tryz.prog 40 ∧ Calls Tryz.prog 40 #[.slice a x.length c, .slice a' y.length c'] w (fun e w' => e = .returned (.bool (decide (X < Y))) ∧ Kp [] w w') := by
  refine ⟨⟨_, Tryz.func40, rfl, by decide⟩, ?_⟩
  have hxl := hx.1
  have hyl := hy.1
  have hvx : val 256 x = X := by rw [hxe, val_digs (by decide)]
  have hvy : val 256 y = Y := by rw [hye, val_digs (by decide)]
  have hdx : Dig 256 x := by rw [hxe]; exact digs_dig (by decide) _
  have hdy : Dig 256 y := by rw [hye]; exact digs_dig (by decide) _
  have hm1 : X ≤ Y → x.length ≤ y.length := fun h => by rw [hxe, hye]; exact len_mono (by decide) h
  have hm2 : Y ≤ X → y.length ≤ x.length := fun h => by rw [hxe, hye]; exact len_mono (by decide) h
  obtain ⟨RES, hRES⟩ : ∃ r, decide (X < Y) = r := ⟨_, rfl⟩
  rw [hRES]
  refine calls_of (args := [_, _]) 41 [.tmp 4] τok Tryz.func40 rfl rfl rfl (Nat.le_of_ble_eq_true rfl) ?_
  refine br_dec (fun h1 => ?_) (fun h1 => ?_)
  · have h1 : x.length ≠ y.length := fun e => h1 (by rw [e])
    have : decide ((x.length : Int) < (y.length : Int)) = RES := by
      rw [← hRES, decide_eq_decide]
      constructor
      · intro h
        by_cases g : X < Y
        · exact g
        · have := hm2 (by omega); omega
      · intro h
        have := hm1 (by omega); omega
    rw [← this]
    exact ⟨rfl, Kp.refl _ _⟩
  have h1 : x.length = y.length := by
    have : (x.length : Int) = y.length := by simpa using h1
    omega
  refine int64 (by omega) (by omega) ?_
  refine lp τok (σ := Nat) (fun n => [(0, .slice a x.length c), (1, .slice a' y.length c'), (5, .int .i64 ((n : Int) - 1))]) (fun n w' => n ≤ x.length ∧ Kp [] w w' ∧ val 256 (x.drop n) = val 256 (y.drop n)) (fun n => n) x.length rfl ⟨rfl, rfl, rfl, trivial⟩
    ⟨Nat.le_refl _, Kp.refl _ _, by rw [List.drop_of_length_le (by omega), List.drop_of_length_le (by omega)]⟩ ?_
  rintro n w3 ⟨hn, hk3, heq⟩
  refine br_dec (fun h => ?_) (fun h => ?_)
  · obtain ⟨i, rfl⟩ : ∃ i, n = i + 1 := ⟨n - 1, by omega⟩
    have e1 : (((i + 1 : Nat) : Int) - 1) = (i : Int) := by omega
    rw [e1]
    obtain ⟨u, hu, hud⟩ := drop_get (l := x) (k := i) (by omega)
    obtain ⟨v, hv, hvd⟩ := drop_get (l := y) (k := i) (by omega)
    obtain ⟨b, o, rfl, hcu, _⟩ := hx.nat hu
    obtain ⟨b', o', rfl, hcv, _⟩ := hy.nat hv
    have hc1 := (hS.tr hk3) _ _ _ hcu
    have hc2 := (hD.tr hk3) _ _ _ hcv
    have vx := val_split (B := 256) x i
    have vy := val_split (B := 256) y i
    rw [val_drop, show x.getD i 0 = u by rw [List.getD_eq_getElem?_getD, hu]; rfl] at vx
    rw [val_drop, show y.getD i 0 = v by rw [List.getD_eq_getElem?_getD, hv]; rfl] at vy
    rw [← heq] at vy
    have tx := val_take_lt (B := 256) (by decide) hdx i
    have ty := val_take_lt (B := 256) (by decide) hdy i
    rw [Nat.mul_add, hvx] at vx
    rw [Nat.mul_add, hvy] at vy
    refine drawR τok (by kernel_rfl) ?_
    refine ix i rfl (by omega) ?_
    refine ldR hc1 ?_
    refine ix i rfl (by omega) ?_
    refine ldR hc2 ?_
    intro m'
    refine br_dec (fun g => ?_) (fun g => ?_)
    · have g : u ≠ v := fun e => g (by rw [e])
      have hc1 := hc1.kp ((Kp.refl [] w3).dr m') (by simp)
      have hc2 := hc2.kp ((Kp.refl [] w3).dr m') (by simp)
      refine drawR τok (by kernel_rfl) ?_
      refine ix i rfl (by omega) ?_
      refine ldR hc1 ?_
      refine ix i rfl (by omega) ?_
      refine ldR hc2 ?_
      intro m''
      refine ⟨?_, (hk3.dr _).dr _⟩
      have : decide ((u : Int) < (v : Int)) = RES := by
        rw [← hRES, decide_eq_decide]
        rcases Nat.lt_or_gt_of_ne g with g1 | g1
        · have : 256 ^ i * (u + 1) ≤ 256 ^ i * v := Nat.mul_le_mul_left _ g1
          rw [Nat.mul_add] at this
          omega
        · have : 256 ^ i * (v + 1) ≤ 256 ^ i * u := Nat.mul_le_mul_left _ g1
          rw [Nat.mul_add] at this
          omega
      rw [← this]
      rfl
    · have g : u = v := by
        have : (u : Int) = v := by simpa using g
        omega
      refine int64 (by omega) (by omega) ?_
      refine ⟨i, by omega, rfl, ⟨rfl, rfl, rfl, trivial⟩, by omega, hk3.dr _, ?_⟩
      rw [hud, hvd]
      simp only [val]
      rw [g, heq]
  · have hn0 : n = 0 := by omega
    subst hn0
    rw [List.drop_zero, List.drop_zero, hvx, hvy] at heq
    refine ⟨?_, hk3⟩
    rw [← hRES, heq, decide_eq_false (Nat.lt_irrefl _)]
    rfl
theorem minus01_ct (hS : Sub C w) (hD : Sub D w) (x y : List Nat) (a a' : Option Addr) (c c' : Nat) (hx : Sl rZ C a x) (hy : Sl rZ D a' y) (hxd : Dig 256 x) (hyd : Dig 256 y) (hxl : x.length ≤ 1000) (hyl : y.length ≤ x.length) (hle : val 256 y ≤ val 256 x) :
    CallOk Tryz.prog 41 ∧ Calls Tryz.prog 41 #[.slice a x.length c, .slice a' y.length c'] w (fun e w' => (∃ v, e = .returned v ∧ IsRow (digs 256 (val 256 x - val 256 y)) w w' v) ∧ Kp [] w w') := by
  refine ⟨⟨_, Tryz.func41, rfl, by decide⟩, ?_⟩
  refine calls_of (args := [_, _]) 41 [.tmp 4] τok Tryz.func41 rfl rfl rfl (Nat.le_of_ble_eq_true rfl) ?_
  refine lp τok (σ := Nat × Nat × List Nat × Value) (fun q => [(0, .slice a x.length c), (1, .slice a' y.length c'), (5, q.2.2.2), (6, .int .i64 q.2.1), (7, .int .i64 q.1)]) (fun q w' => q.1 ≤ x.length ∧ q.2.2.1.length = q.1 ∧ Dig 256 q.2.2.1 ∧ q.2.1 ≤ 1 ∧ val 256 q.2.2.1 + val 256 (y.take q.1) = val 256 (x.take q.1) + 256 ^ q.1 * q.2.1 ∧ Own rZ 3 w.heap.size w' q.2.2.2 q.2.2.1 ∧ Kp [] w w') (fun q => x.length - q.1) (0, 0, [], .slice none 0 0) rfl
    ⟨rfl, rfl, rfl, rfl, rfl, trivial⟩ ⟨Nat.zero_le _, rfl, fun d hd => by simp at hd, Nat.zero_le _, by simp [val], Own.nil _ _ (Nat.le_refl _), Kp.refl _ _⟩ ?_
  rintro ⟨i, cy, o, v⟩ w2 ⟨hi, hol, hod, hcy, hval, hO, hk2⟩
  simp only at hi hol hod hcy hval hO
  refine br_dec (fun g => ?_) (fun g => ?_)
  · have g : (i : Int) < x.length := g
    have hlt : i < x.length := by omega
    obtain ⟨ux, hux, _⟩ := drop_get hlt
    obtain ⟨b, ob, rfl, hcx, _⟩ := hx.nat hux
    have hux2 := hxd ux (List.mem_of_getElem? hux)
    refine ix i rfl hlt ?_
    refine ldC (hS.tr hk2) hcx ?_
    obtain ⟨s1, hs1⟩ : ∃ s1 : Int, s1 = (ux : Int) - cy := ⟨_, rfl⟩
    refine i64n s1 (by omega) (by omega) (by simp only; omega) ?_
    refine br_dec (fun g2 => ?_) (fun g2 => ?_)
    · have g2 : (i : Int) < y.length := g2
      have hlt2 : i < y.length := by omega
      obtain ⟨uy, huy, _⟩ := drop_get hlt2
      obtain ⟨b2, ob2, rfl, hcy2, _⟩ := hy.nat huy
      have huy2 := hyd uy (List.mem_of_getElem? huy)
      obtain ⟨sy, hsy⟩ : ∃ sy, sy = y.getD i 0 := ⟨_, rfl⟩
      have hsye : sy = uy := by rw [hsy, List.getD_eq_getElem?_getD, huy]; rfl
      refine ix i rfl hlt2 ?_
      refine ldC (hD.tr hk2) hcy2 ?_
      obtain ⟨s, hs⟩ : ∃ s : Int, s = s1 - uy := ⟨_, rfl⟩
      refine i64n s (by omega) (by omega) (by omega) ?_
      refine br_dec (fun g3 => ?_) (fun g3 => ?_)
      · have g3 : s < 0 := g3
        obtain ⟨d, hd⟩ : ∃ d : Nat, (d : Int) = s + 256 := ⟨(s + 256).toNat, by omega⟩
        refine i64n (d : Int) (by omega) (by omega) (by omega) ?_
        -- 1: the borrow
        refine fill [.int .i64 (d : Int)] rfl ?_
        refine new fun b3 w3 hb3 hB3 hs3 hk3 => ?_
        refine (hO.kp hk3).ap1 τok rfl rfl (by decide) d [.int .i64 (d : Int)] ⟨rfl, by unfold ZZ; omega⟩ (fun j t hj => by rw [Nat.zero_add]; exact hB3.cl hj) (by omega) (by simp only [maxLen]; omega) fun v4 w4 hO4 hk4 _ => ?_
        refine int64 (by simp only; omega) (by simp only; omega) ?_
        refine ⟨(i + 1, 1, o ++ [d], v4), by simp only; omega, rfl, ⟨rfl, rfl, rfl, rfl, rfl, trivial⟩, hlt, by simp [hol], dig_append hod (dig_one (by omega)), (show 1 ≤ 1 by decide), ?_, hO4, (hk2.tr hk3).own hk4 (hO.kp hk3)⟩
        show val 256 (o ++ [d]) + val 256 (y.take (i + 1)) = val 256 (x.take (i + 1)) + 256 ^ (i + 1) * 1
        rw [val_append, hol, val_take_getD, val_take_succ hux, ← hsy, Nat.pow_succ]
        have e4 : 256 ^ i * d + 256 ^ i * sy + 256 ^ i * cy = 256 ^ i * ux + 256 ^ i * (256 * 1) := by
          rw [← Nat.mul_add, ← Nat.mul_add, ← Nat.mul_add]
          congr 1
          omega
        simp only [val, Nat.mul_zero, Nat.add_zero, Nat.mul_assoc]
        omega
      · have g3 : ¬ s < 0 := g3
        obtain ⟨d, hd⟩ : ∃ d : Nat, (d : Int) = s := ⟨s.toNat, by omega⟩
        rw [← hd]
        -- 0: the borrow
        refine fill [.int .i64 (d : Int)] rfl ?_
        refine new fun b3 w3 hb3 hB3 hs3 hk3 => ?_
        refine (hO.kp hk3).ap1 τok rfl rfl (by decide) d [.int .i64 (d : Int)] ⟨rfl, by unfold ZZ; omega⟩ (fun j t hj => by rw [Nat.zero_add]; exact hB3.cl hj) (by omega) (by simp only [maxLen]; omega) fun v4 w4 hO4 hk4 _ => ?_
        refine int64 (by simp only; omega) (by simp only; omega) ?_
        refine ⟨(i + 1, 0, o ++ [d], v4), by simp only; omega, rfl, ⟨rfl, rfl, rfl, rfl, rfl, trivial⟩, hlt, by simp [hol], dig_append hod (dig_one (by omega)), (show 0 ≤ 1 by decide), ?_, hO4, (hk2.tr hk3).own hk4 (hO.kp hk3)⟩
        show val 256 (o ++ [d]) + val 256 (y.take (i + 1)) = val 256 (x.take (i + 1)) + 256 ^ (i + 1) * 0
        rw [val_append, hol, val_take_getD, val_take_succ hux, ← hsy, Nat.pow_succ]
        have e4 : 256 ^ i * d + 256 ^ i * sy + 256 ^ i * cy = 256 ^ i * ux + 256 ^ i * (256 * 0) := by
          rw [← Nat.mul_add, ← Nat.mul_add, ← Nat.mul_add]
          congr 1
          omega
        simp only [val, Nat.mul_zero, Nat.add_zero, Nat.mul_assoc]
        omega
    · have g2 : ¬ (i : Int) < y.length := g2
      obtain ⟨sy, hsy⟩ : ∃ sy, sy = y.getD i 0 := ⟨_, rfl⟩
      have hsye : sy = 0 := by rw [hsy, List.getD_eq_getElem?_getD, List.getElem?_eq_none (by omega)]; rfl
      obtain ⟨s, hs⟩ : ∃ s : Int, s = s1 := ⟨_, rfl⟩
      rw [← hs]
      refine br_dec (fun g3 => ?_) (fun g3 => ?_)
      · have g3 : s < 0 := g3
        obtain ⟨d, hd⟩ : ∃ d : Nat, (d : Int) = s + 256 := ⟨(s + 256).toNat, by omega⟩
        refine i64n (d : Int) (by omega) (by omega) (by omega) ?_
        -- 1: the borrow
        refine fill [.int .i64 (d : Int)] rfl ?_
        refine new fun b3 w3 hb3 hB3 hs3 hk3 => ?_
        refine (hO.kp hk3).ap1 τok rfl rfl (by decide) d [.int .i64 (d : Int)] ⟨rfl, by unfold ZZ; omega⟩ (fun j t hj => by rw [Nat.zero_add]; exact hB3.cl hj) (by omega) (by simp only [maxLen]; omega) fun v4 w4 hO4 hk4 _ => ?_
        refine int64 (by simp only; omega) (by simp only; omega) ?_
        refine ⟨(i + 1, 1, o ++ [d], v4), by simp only; omega, rfl, ⟨rfl, rfl, rfl, rfl, rfl, trivial⟩, hlt, by simp [hol], dig_append hod (dig_one (by omega)), (show 1 ≤ 1 by decide), ?_, hO4, (hk2.tr hk3).own hk4 (hO.kp hk3)⟩
        show val 256 (o ++ [d]) + val 256 (y.take (i + 1)) = val 256 (x.take (i + 1)) + 256 ^ (i + 1) * 1
        rw [val_append, hol, val_take_getD, val_take_succ hux, ← hsy, Nat.pow_succ]
        have e4 : 256 ^ i * d + 256 ^ i * sy + 256 ^ i * cy = 256 ^ i * ux + 256 ^ i * (256 * 1) := by
          rw [← Nat.mul_add, ← Nat.mul_add, ← Nat.mul_add]
          congr 1
          omega
        simp only [val, Nat.mul_zero, Nat.add_zero, Nat.mul_assoc]
        omega
      · have g3 : ¬ s < 0 := g3
        obtain ⟨d, hd⟩ : ∃ d : Nat, (d : Int) = s := ⟨s.toNat, by omega⟩
        rw [← hd]
        -- 0: the borrow
        refine fill [.int .i64 (d : Int)] rfl ?_
        refine new fun b3 w3 hb3 hB3 hs3 hk3 => ?_
        refine (hO.kp hk3).ap1 τok rfl rfl (by decide) d [.int .i64 (d : Int)] ⟨rfl, by unfold ZZ; omega⟩ (fun j t hj => by rw [Nat.zero_add]; exact hB3.cl hj) (by omega) (by simp only [maxLen]; omega) fun v4 w4 hO4 hk4 _ => ?_
        refine int64 (by simp only; omega) (by simp only; omega) ?_
        refine ⟨(i + 1, 0, o ++ [d], v4), by simp only; omega, rfl, ⟨rfl, rfl, rfl, rfl, rfl, trivial⟩, hlt, by simp [hol], dig_append hod (dig_one (by omega)), (show 0 ≤ 1 by decide), ?_, hO4, (hk2.tr hk3).own hk4 (hO.kp hk3)⟩
        show val 256 (o ++ [d]) + val 256 (y.take (i + 1)) = val 256 (x.take (i + 1)) + 256 ^ (i + 1) * 0
        rw [val_append, hol, val_take_getD, val_take_succ hux, ← hsy, Nat.pow_succ]
        have e4 : 256 ^ i * d + 256 ^ i * sy + 256 ^ i * cy = 256 ^ i * ux + 256 ^ i * (256 * 0) := by
          rw [← Nat.mul_add, ← Nat.mul_add, ← Nat.mul_add]
          congr 1
          omega
        simp only [val, Nat.mul_zero, Nat.add_zero, Nat.mul_assoc]
        omega
  · have g : ¬ (i : Int) < x.length := g
    have hix : i = x.length := by omega
    rw [List.take_of_length_le (by omega), List.take_of_length_le (by omega)] at hval
    have hlo := val_lt hod
    rw [hol] at hlo
    have hc0 : cy = 0 := by
      rcases Nat.eq_zero_or_pos cy with h | h
      · exact h
      · have : 256 ^ i * 1 ≤ 256 ^ i * cy := Nat.mul_le_mul_left _ h
        omega
    subst hc0
    have hvo : val 256 o = val 256 x - val 256 y := by omega
    obtain ⟨a1, c1, hv1, hcap⟩ := hO.cap
    obtain ⟨a2, c2, hv2, hs2⟩ := hO.den (by omega)
    rw [hv1] at hv2
    injection hv2 with e1 e2 e3
    subst e1 e3 hv1
    refine ev_call (cut01_ct (New.sub _ w2) o a1 c1 hs2 (by omega) hcap) ?_
    rintro e w3 ⟨rfl, rfl⟩
    have hcut : cut o = digs 256 (val 256 x - val 256 y) := by rw [← hvo, digs_val (by decide) hod]
    obtain ⟨k, hk, _⟩ := cut_pre o
    have hle : (cut o).length ≤ o.length := by rw [hk, List.length_take]; omega
    have hsl := hs2.takeN k
    rw [← hk, hcut] at hsl
    exact ⟨⟨_, rfl, a1, c1, by rw [hcut]; rfl, hsl, by rw [← hcut]; omega⟩, hk2⟩
end
end Go.Proofs.YtbggaljmollhmaaGreatDoor

