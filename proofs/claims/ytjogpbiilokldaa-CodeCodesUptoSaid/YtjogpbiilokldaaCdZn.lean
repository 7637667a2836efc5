/-
  Code, in plain Lean: the reference's reading of a number is the program's.
-/
import Derived.Test.YtjogpbiilokldaaCdYa
import Derived.Test.YtjogpbiilokldaaWxJ
import Derived.Test.YtjogpbiilokldaaCdZm
set_option linter.unusedSimpArgs false
set_option linter.unusedVariables false
namespace Cd
open Go Go.Wx

def val : List Nat → Nat
  | [] => 0
  | c :: r => c % 128 + 128 * val r
theorem val_snoc : ∀ (l : List Nat) (c : Nat), val (l ++ [c]) = val l + c % 128 * 128 ^ l.length
  | [], c => by simp [val]
  | x :: l, c => by
    simp only [List.cons_append, val, val_snoc l c, List.length_cons, Nat.pow_succ, Nat.mul_add]
    rw [Nat.mul_comm 128 (c % 128 * 128 ^ l.length), Nat.mul_assoc]
    omega
theorem val_lt : ∀ (l : List Nat), val l < 128 ^ l.length
  | [] => by simp [val]
  | c :: l => by
    have := val_lt l
    simp only [val, List.length_cons, Nat.pow_succ]
    omega
theorem val_form (n : Nat) : val (formM n) = n := by
  induction n using Nat.strongRecOn with
  | _ n ih =>
    by_cases h : n < 128
    · rw [formM_small h]; simp [val]; omega
    · rw [formM_big h]; simp only [val]; rw [ih (n / 128) (by omega)]; omega
def hi (l : List Nat) : Prop := ∀ c ∈ l, 128 ≤ c
theorem form_hi : ∀ (n : Nat), ∃ l c, formM n = l ++ [c] ∧ hi l ∧ c < 128 := by
  intro n
  induction n using Nat.strongRecOn with
  | _ n ih =>
    by_cases h : n < 128
    · exact ⟨[], n, by rw [formM_small h]; rfl, fun c hc => by simp at hc, h⟩
    · obtain ⟨l, c, h1, h2, h3⟩ := ih (n / 128) (by omega)
      refine ⟨(n % 128 + 128) :: l, c, by rw [formM_big h, h1]; rfl, fun x hx => ?_, h3⟩
      rcases List.mem_cons.1 hx with rfl | hx
      · omega
      · exact h2 x hx
/-- the form of the least number that goes on so -/
theorem form_more : ∀ (l : List Nat), hi l → Byt l → formM (val l + 128 ^ l.length) = l ++ [1]
  | [], _, _ => by simp [val]; rw [formM_small (by omega)]
  | c :: l, h, hb => by
    have h1 := h c (by simp)
    have h2 := hb c (by simp)
    have ih := form_more l (fun x hx => h x (by simp [hx])) (fun x hx => hb x (by simp [hx]))
    have hp : 0 < 128 ^ l.length := Nat.pow_pos (by omega)
    simp only [val, List.length_cons, Nat.pow_succ]
    rw [formM_big (by omega)]
    have e1 : (c % 128 + 128 * val l + 128 ^ l.length * 128) / 128 = val l + 128 ^ l.length := by omega
    have e2 : (c % 128 + 128 * val l + 128 ^ l.length * 128) % 128 + 128 = c := by omega
    rw [e1, e2, ih]
    rfl
/-- bytes that all go on -/
theorem nx_hi {most : Nat} : ∀ (l : List Nat) (i acc : Nat), hi l → nx most i acc l = if l = [] ∨ acc + val l * 128 ^ i + 128 ^ (i + l.length) ≤ most then .error 4 else .error 3
  | [], i, acc, _ => by simp [nx]
  | c :: r, i, acc, h => by
    have h1 := h c (by simp)
    have ih := nx_hi (most := most) r (i + 1) (acc + c % 128 * 128 ^ i) (fun x hx => h x (by simp [hx]))
    have e1 : acc + val (c :: r) * 128 ^ i + 128 ^ (i + (c :: r).length) = acc + c % 128 * 128 ^ i + val r * 128 ^ (i + 1) + 128 ^ (i + 1 + r.length) := by
      simp only [val, List.length_cons, Nat.add_mul, Nat.pow_succ]
      rw [show i + (r.length + 1) = i + 1 + r.length by omega, Nat.mul_comm 128 (val r), Nat.mul_assoc, Nat.mul_comm 128 (128 ^ i)]
      omega
    have hle : 128 ^ (i + 1) ≤ 128 ^ (i + 1 + r.length) := Nat.pow_le_pow_right (by omega) (by omega)
    have hp : 0 < 128 ^ (i + 1) := Nat.pow_pos (by omega)
    rw [e1]
    simp only [nx, reduceCtorEq, false_or]
    generalize hA : acc + c % 128 * 128 ^ i = A at *
    generalize hB : val r * 128 ^ (i + 1) = B at *
    by_cases g1 : most < A
    · rw [if_pos (.inl g1), if_neg (by omega)]
    rw [if_neg (by rintro (h | ⟨_, h⟩) <;> omega), if_neg (by omega)]
    by_cases g2 : most < A + 128 ^ (i + 1)
    · rw [if_pos g2, if_neg (by omega)]
    rw [if_neg g2, ih]
    cases r with
    | nil =>
      rw [if_pos (.inl rfl), if_pos]
      simp [val] at hB
      simp
      omega
    | cons d r => simp

theorem nx_err {most : Nat} {e : Int} : ∀ (l : List Nat) (i acc : Nat), nx most i acc l = .error e → e = 3 ∨ (e = 4 ∧ hi l)
  | [], i, acc, h => by simp [nx] at h; exact .inr ⟨h.symm, fun c hc => by simp at hc⟩
  | c :: l, i, acc, h => by
    simp only [nx] at h
    split at h
    · injection h with h; exact .inl h.symm
    split at h
    · cases h
    split at h
    · injection h with h; exact .inl h.symm
    · rename_i g1 g2 g3
      rcases nx_err l _ _ h with h | ⟨h, h'⟩
      · exact .inl h
      · refine .inr ⟨h, fun x hx => ?_⟩
        rcases List.mem_cons.1 hx with rfl | hx
        · omega
        · exact h' x hx

def W64 : Nat := 18446744073709551616

/-- the first byte that ends a number stands at i -/
theorem next_end {most : Nat} (hm : most ≤ 1048576) {l : List Nat} (hb : Byt l) {i c : Nat} (hi' : hi (l.take i)) (hc : l[i]? = some c) (h128 : c < 128) (h10 : i < 10) (N : Nat) (hN : N = val (l.take (i + 1)) % W64) :
    nx most 0 0 l = if N ≤ most ∧ formM N <+: l ∧ (formM N).length = i + 1 then .ok (N, l.drop (i + 1)) else .error 3 := by
  have hil := get_lt hc
  split
  · rename_i h
    obtain ⟨h1, ⟨t, h2⟩, h3⟩ := h
    have e : l.drop (i + 1) = t := by rw [← h2, ← h3]; simp
    rw [e, ← h2]
    have := nx_form hm N 0 0 t (by simpa using h1) (by omega)
    simpa using this
  · rename_i h
    cases hn : nx most 0 0 l with
    | error e =>
      rcases nx_err l 0 0 hn with rfl | ⟨rfl, h4⟩
      · rfl
      · have := h4 c (List.mem_of_getElem? hc)
        omega
    | ok q =>
      obtain ⟨m, r⟩ := q
      exfalso
      apply h
      obtain ⟨n, e1, e2, _⟩ := nx_inv l 0 0 m r hb hn
      simp at e1
      subst e1
      have hle := nx_le hn
      obtain ⟨a, d, f1, f2, f3⟩ := form_hi m
      have hai : a.length = i := by
        rcases Nat.lt_trichotomy a.length i with h | h | h
        · have g1 : l[a.length]? = some d := by rw [e2, f1]; simp
          have g2 : (l.take i)[a.length]? = some d := by rw [List.getElem?_take_of_lt h]; exact g1
          have := hi' d (List.mem_of_getElem? g2)
          omega
        · exact h
        · have g1 : l[i]? = some (a[i]) := by rw [e2, f1, List.append_assoc, List.getElem?_append_left h]; simp [h]
          rw [hc] at g1
          have := f2 a[i] (List.getElem_mem h)
          have := Option.some.inj g1
          omega
      have hlen : (formM m).length = i + 1 := by rw [f1]; simp [hai]
      have htk : l.take (i + 1) = formM m := by rw [e2, ← hlen]; simp
      have hNm : N = m := by rw [hN, htk, val_form]; exact Nat.mod_eq_of_lt (by unfold W64; omega)
      rw [hNm]
      exact ⟨hle, ⟨r, e2.symm⟩, hlen⟩

theorem next_none {most : Nat} : nx most 0 0 [] = .error 4 := rfl
/-- ten bytes and more that go on -/
theorem next_long {most : Nat} (hm : most ≤ 1048576) {l : List Nat} (hb : Byt l) (hi' : hi (l.take 10)) (hl : 9 < l.length) : nx most 0 0 l = .error 3 := by
  have hlen3 : ∀ k, 2 ≤ k → most < 128 ^ (k + 1) := fun k hk => by
    have : 128 ^ 3 ≤ 128 ^ (k + 1) := Nat.pow_le_pow_right (by omega) (by omega)
    omega
  cases hn : nx most 0 0 l with
  | error e =>
    rcases nx_err l 0 0 hn with rfl | ⟨rfl, h4⟩
    · rfl
    · have := nx_hi (most := most) l 0 0 h4
      rw [hn] at this
      rw [if_neg] at this
      · cases this
      · rintro (h | h)
        · rw [h] at hl; simp at hl
        · have h3 : 128 ^ 3 ≤ 128 ^ (0 + l.length) := Nat.pow_le_pow_right (by omega) (by omega)
          omega
  | ok q =>
    obtain ⟨m, r⟩ := q
    exfalso
    obtain ⟨n, e1, e2, _⟩ := nx_inv l 0 0 m r hb hn
    simp at e1
    subst e1
    have hle := nx_le hn
    have h3 := formM_len (k := 2) (n := m) (by omega)
    obtain ⟨a, d, f1, f2, f3⟩ := form_hi m
    have hal : a.length < 10 := by rw [f1] at h3; simp at h3; omega
    have g1 : l[a.length]? = some d := by rw [e2, f1]; simp
    have g2 : (l.take 10)[a.length]? = some d := by rw [List.getElem?_take_of_lt hal]; exact g1
    have := hi' d (List.mem_of_getElem? g2)
    omega
/-- bytes that all go on, few of them -/
theorem next_short {most : Nat} {l : List Nat} (hi' : hi l) (h0 : 0 < l.length) : nx most 0 0 l = if val l + 128 ^ l.length ≤ most then .error 4 else .error 3 := by
  rw [nx_hi l 0 0 hi']
  have : ¬ l = [] := by intro h; rw [h] at h0; simp at h0
  simp [this]
end Cd

namespace Go.Wx
section
variable {P : Program} {w : World} {k : Value → World → Prop} {t : TypeId}
theorem remU {j : IntKind} {x y : Nat} (z : Nat) (hy : 0 < y) (hz : x % y = z) (h : k (.int j (z : Int)) w) : EvRun P (binOp .rem t (.int j (x : Int)) (.int j (y : Int))) w k := by
  subst hz
  refine run ?_ h
  simp only [binOp_rem, Op.intDiv]
  rw [if_neg (show ¬ (y : Int) = 0 by omega), Int.tmod_eq_emod_of_nonneg (by omega), ← Int.natCast_emod]
  rfl
theorem quoU {x y : Nat} (z : Nat) (hx : x < 18446744073709551616) (hy : 0 < y) (hz : x / y = z) (h : k (.int .u64 (z : Int)) w) : EvRun P (binOp .quo t (.int .u64 (x : Int)) (.int .u64 (y : Int))) w k := by
  refine run ?_ h
  have h1 : z ≤ x := by rw [← hz]; exact Nat.div_le_self _ _
  have hw := wrap64 (x := (z : Int)) (by omega) (by omega)
  simp only [binOp_quo, Op.intDiv]
  rw [if_neg (show ¬ (y : Int) = 0 by omega), Int.tdiv_eq_ediv_of_nonneg (by omega), ← Int.natCast_ediv, hz, hw]
  rfl
end
theorem wrap64' (x : Int) : IntKind.wrap .u64 x = x % 18446744073709551616 := by
  simp only [IntKind.wrap, IntKind.bits, IntKind.signed]
  simp
theorem Own.one8 {e lo : Nat} {w : World} {b x : Nat} (hb : Bk w.heap b [.int .u8 (x : Int)] e) (h : lo ≤ b) (hx : x < 256) : Own rU8 e lo w (.slice (some ⟨b, 0, none⟩) 1 1) [x] :=
  ⟨⟨[[.int .u8 (x : Int)]], own_bk (n := 1) hb h rfl (by simp [maxLen]), ⟨rfl, hx⟩, trivial⟩, Nat.le_trans h (Nat.le_of_lt hb.lt)⟩
theorem Sub.gw {α : Type} {R : Rd α} {e lo : Nat} {C : Mem} {w w' : World} {v v' : Value} {l : List α} (h : Sub C w) (hlo : ∀ b o u, C b o u → b < lo) (hO : Own R e lo w v l) (g : Gw w v w' v') : Sub C w' :=
  h.kp g.kp fun b o u hu hm => by
    have := (hO.block b (by simpa using hm)).1
    have := hlo b o u hu
    omega
theorem Bk.gw {α : Type} {R : Rd α} {e lo : Nat} {w w' : World} {v v' : Value} {l : List α} {b : Nat} {cs : List Value} {T : TypeId} (h : Bk w.heap b cs T) (hlo : b < lo) (hO : Own R e lo w v l) (g : Gw w v w' v') : Bk w'.heap b cs T :=
  h.kp g.kp fun hm => by
    have := (hO.block b (by simpa using hm)).1
    omega
end Go.Wx

namespace Go.Proofs.Ytjogpbiilokldaa
open Go.Wx Cd

set_option maxRecDepth 20000 in
theorem form02_ct (n : Nat) : ∀ (hn : n < 18446744073709551616) (w : World), CallOk Try.prog 81 ∧ Calls Try.prog 81 #[.int .u64 (n : Int)] w
    (fun e w' => ∃ v, e = .returned v ∧ Own rU8 5 w.heap.size w' v (formM n) ∧ Kp [] w w') := by
  induction n using Nat.strongRecOn with
  | _ n ih =>
    intro hn w
    refine ⟨⟨_, Try.func81, rfl, by decide⟩, ?_⟩
    refine calls_of (args := [_]) 17 [.tmp 2] τok Try.func81 rfl rfl rfl (Nat.le_of_ble_eq_true rfl) ?_
    refine br_dec (fun h1 => ?_) (fun h1 => ?_)
    · have h1 : n < 128 := by
        have h1 : (n : Int) < 128 := h1
        omega
      refine intv ((n : Nat) : Int) (by rw [wrap8']; omega) ?_
      refine fill [.int .u8 ((n : Nat) : Int)] rfl ?_
      refine new fun b2 w2 hb2 hB2 hs2 hk2 => ?_
      refine ⟨_, rfl, ?_, hk2⟩
      rw [formM_small h1]
      exact Own.one8 hB2 (by omega) (by omega)
    · have h1 : ¬ n < 128 := by
        have h1 : ¬ (n : Int) < 128 := h1
        omega
      refine remU (x := n) (y := 128) (n % 128) (by omega) rfl ?_
      refine u64n (n % 128 + 128) (by omega) (by simp) ?_
      refine intv ((n % 128 + 128 : Nat) : Int) (by rw [wrap8']; omega) ?_
      refine fill [.int .u8 ((n % 128 + 128 : Nat) : Int)] rfl ?_
      refine new fun b2 w2 hb2 hB2 hs2 hk2 => ?_
      refine quoU (x := n) (y := 128) (n / 128) hn (by omega) rfl ?_
      refine ev_call (ih (n / 128) (by omega) (by omega) w2) ?_
      rintro e w3 ⟨v, rfl, hO, hk3⟩
      have h10 := formM_len10 (n := n / 128) (by omega)
      obtain ⟨a, cap, rfl, hSl⟩ := hO.den (by omega)
      have hO1 : Own rU8 5 w.heap.size w3 (.slice (some ⟨b2, 0, none⟩) 1 1) [n % 128 + 128] := Own.one8 (hB2.kp hk3 (by simp)) (by omega) (by omega)
      refine hO1.apF τok rfl rfl Nat.one_pos flat8 (New.sub _ _) (formM (n / 128)) hSl (by simp only [List.length_singleton]; omega) (by simp only [List.length_singleton, maxLen]; omega) fun v' w4 hO4 hk4 _ => ?_
      refine ⟨v', rfl, ?_, (hk2.tr hk3).own hk4 hO1⟩
      rw [formM_big h1]
      exact hO4

theorem num20_ct {lo : Nat} {w : World} {v : Value} {l : List Nat} (h : Own rU8 5 lo w v l) (n : Int) (h0 : 0 ≤ n) (hn : n < 9223372036854775808) (hl : l.length ≤ 549755813888) :
    CallOk Try.prog 58 ∧ Calls Try.prog 58 #[v, .int .i64 n] w (fun e w' => ∃ v', e = .returned v' ∧ Own rU8 5 lo w' v' (l ++ formM n.toNat) ∧ Gw w v w' v') := by
  refine ⟨⟨_, Try.func58, rfl, by decide⟩, ?_⟩
  refine calls_of (args := [_, _]) 10 [.tmp 4] τok Try.func58 rfl rfl rfl (Nat.le_of_ble_eq_true rfl) ?_
  refine u64n n.toNat (by omega) (by omega) ?_
  refine ev_call (form02_ct n.toNat (by omega) w) ?_
  rintro e w1 ⟨u, rfl, hO, hk1⟩
  have h10 := formM_len10 (n := n.toNat) (by omega)
  obtain ⟨a, cap, rfl, hSl⟩ := hO.den (by omega)
  refine (h.kp hk1).apF τok rfl rfl Nat.one_pos flat8 (New.sub _ _) (formM n.toNat) hSl (by omega) (by simp only [maxLen]; omega) fun v' w2 hO2 hk2 hb => ?_
  exact ⟨v', rfl, hO2, Gw.of hk1 hk2 hb⟩

set_option maxRecDepth 20000 in
theorem putBlock_ct {C : Mem} {lo : Nat} {w : World} {v : Value} {l : List Nat} (hS : Sub C w) (hlo : ∀ b o u, C b o u → b < lo) (h : Own rU8 5 lo w v l) (code : List Ins) (a : Option Addr) (cap : Nat) (hc : Sl rIns C a code) (hok : ∀ n ∈ code, InsOk n) (hlen : code.length ≤ 16384) (hll : (l ++ blockB code).length ≤ 549755813888) :
    CallOk Try.prog 59 ∧ Calls Try.prog 59 #[v, .slice a code.length cap] w (fun e w' => ∃ v', e = .returned v' ∧ Own rU8 5 lo w' v' (l ++ blockB code) ∧ Gw w v w' v') := by
  refine ⟨⟨_, Try.func59, rfl, by decide⟩, ?_⟩
  refine calls_of (args := [_, _]) 64 [.tmp 4] τok Try.func59 rfl rfl rfl (Nat.le_of_ble_eq_true rfl) ?_
  have hpre : ∀ q r, l ++ blockB code = q ++ r → q.length ≤ 549755813888 := fun q r e => by rw [e, List.length_append] at hll; omega
  refine ev_call (num20_ct h code.length (by omega) (by omega) (hpre l _ rfl)) ?_
  rintro e w1 ⟨v1, rfl, hO1, hg1⟩
  refine lp τok (σ := Nat × Value) (fun q => [(0, q.2), (1, .slice a code.length cap), (5, .int .i64 q.1)])
    (fun q w' => q.1 ≤ code.length ∧ Own rU8 5 lo w' q.2 (l ++ numsB [(code.length : Int)] ++ (code.take q.1).flatMap insB) ∧ Gw w v w' q.2) (fun q => code.length - q.1) (0, v1) rfl ⟨rfl, rfl, rfl, trivial⟩ ⟨Nat.zero_le _, by simpa [numsB] using hO1, hg1⟩ ?_
  rintro ⟨k, u⟩ w2 ⟨hk, hO, hg⟩
  simp only at hk hO hg
  have hS2 := hS.gw hlo h hg
  refine br_dec (fun h1 => ?_) (fun h1 => ?_)
  · have hlt : k < code.length := by omega
    obtain ⟨n, hn, hd⟩ := drop_get hlt
    have hok1 := hok n (List.mem_of_getElem? hn)
    have htake : (code.take (k + 1)).flatMap insB = (code.take k).flatMap insB ++ insB n := by rw [take_get hn]; simp
    have hall : l ++ blockB code = l ++ numsB [(code.length : Int)] ++ (code.take k).flatMap insB ++ insB n ++ (code.drop (k + 1)).flatMap insB := by
      rw [blockB, ← List.take_append_drop (k + 1) code, List.flatMap_append, List.take_append_drop, htake]
      simp [List.append_assoc]
    obtain ⟨X, hX⟩ : ∃ X, X = l ++ numsB [(code.length : Int)] ++ (code.take k).flatMap insB := ⟨_, rfl⟩
    rw [← hX] at hO hall
    have hxl : (X ++ insB n).length ≤ 549755813888 := hpre _ _ hall
    have hins : insB n = formM n.op.toNat ++ formM n.a.toNat ++ formM n.b.toNat ++ formM (n.to.length : Int).toNat ++ numsB n.to := by simp [insB, numsB, List.append_assoc]
    rw [hins] at hxl
    simp only [List.length_append] at hxl
    obtain ⟨b, o, rfl, an, tc, hto, nop, na, nb, hcells⟩ := sl_ins hc hn
    have hcell : ∀ (j : Nat) (x : Value), [Value.int .i64 n.op, .int .i64 n.a, .int .i64 n.b, .slice an n.to.length tc][j]? = some x → ∀ u, Sub C u → Cl u.heap b (o + k * 4 + j) x := fun j x hj u hu => hu _ _ _ (hcells j x hj)
    have hlen1 := hok1.len
    have r1 := hok1.op
    have r2 := hok1.a
    have r3 := hok1.b
    refine drawG τok (fun u => Sub C u) ?_
    refine readsG τok [0, 1, 2, 3, 4, 5, 7, 8, 9, 10, 11, 13, 14, 15, 16, 17, 19, 20, 21, 22, 23, 24] 5 #[true, true, true, true, true, true, false, true, true, true, true, true, false, true, true, true, true, true, false, true, true, true, true, true, true, false, false] rfl rfl (by kernel_rfl) (by kernel_rfl) (by kernel_rfl) hS2 ?_
    refine ix k rfl hlt ?_
    refine ldQ (hcell 0 _ rfl) ?_
    refine ix k rfl hlt ?_
    refine ldQ (hcell 1 _ rfl) ?_
    refine ix k rfl hlt ?_
    refine ldQ (hcell 2 _ rfl) ?_
    refine ix k rfl hlt ?_
    refine ldQ (hcell 3 _ rfl) ?_
    refine nextG τok 6 4 #[true, true, true, true, true, true, true, true, true, true, true, true, false, true, true, true, true, true, false, true, true, true, true, true, true, false, false] rfl rfl rfl (by kernel_rfl) ?_
    have hO' : Own rU8 5 lo { w2 with drawn := w2.drawn + 1 } u X := hO.kp ((Kp.refl _ _).dr _)
    have hg' : Gw w v { w2 with drawn := w2.drawn + 1 } u := ⟨hg.kp.dr _, hg.blk⟩
    refine ev_call (num20_ct hO' n.op (by omega) (by omega) (by omega)) ?_
    rintro e w3 ⟨u3, rfl, hO3, hg3⟩
    have hS3 : Sub C w3 := hS2.dr (w2.drawn + 1) |>.gw hlo hO' hg3
    refine ⟨.inl hS3, ?_⟩
    refine nextG τok 12 3 #[true, true, true, true, true, true, true, true, true, true, true, true, true, true, true, true, true, true, false, true, true, true, true, true, true, false, false] rfl rfl rfl (by kernel_rfl) ?_
    refine ev_call (num20_ct hO3 n.a (by omega) (by omega) (by simp only [List.length_append]; omega)) ?_
    rintro e w4 ⟨u4, rfl, hO4, hg4⟩
    have hS4 := hS3.gw hlo hO3 hg4
    refine ⟨.inl hS4, ?_⟩
    refine nextG τok 18 2 #[true, true, true, true, true, true, true, true, true, true, true, true, true, true, true, true, true, true, true, true, true, true, true, true, true, false, false] rfl rfl rfl (by kernel_rfl) ?_
    refine ev_call (num20_ct hO4 n.b (by omega) (by omega) (by simp only [List.length_append]; omega)) ?_
    rintro e w5 ⟨u5, rfl, hO5, hg5⟩
    have hS5 := hS4.gw hlo hO4 hg5
    refine ⟨.inl hS5, ?_⟩
    refine nextG τok 25 1 #[true, true, true, true, true, true, true, true, true, true, true, true, true, true, true, true, true, true, true, true, true, true, true, true, true, true, false] rfl rfl rfl (by kernel_rfl) ?_
    refine ev_call (num20_ct hO5 n.to.length (by omega) (by omega) (by simp only [List.length_append]; omega)) ?_
    rintro e w6 ⟨u6, rfl, hO6, hg6⟩
    have hS6 := hS5.gw hlo hO5 hg6
    refine ⟨.inl hS6, ?_⟩
    refine nextG τok 26 0 #[true, true, true, true, true, true, true, true, true, true, true, true, true, true, true, true, true, true, true, true, true, true, true, true, true, true, true] rfl rfl rfl (by kernel_rfl) ?_
    refine ⟨.inl hS6, ?_⟩
    refine doneG (by kernel_rfl) ?_
    have hgg := (((hg'.trans hg3).trans hg4).trans hg5).trans hg6
    obtain ⟨Y, hY⟩ : ∃ Y, Y = X ++ formM n.op.toNat ++ formM n.a.toNat ++ formM n.b.toNat ++ formM (n.to.length : Int).toNat := ⟨_, rfl⟩
    rw [← hY] at hO6
    have hYX : Y ++ numsB n.to = X ++ insB n := by rw [hY, hins]; simp [List.append_assoc]
    have hYl : Y.length + (numsB n.to).length ≤ 549755813888 := by rw [← List.length_append, hYX]; exact hpre _ _ hall
    refine lp τok (σ := Nat × Value) (fun q => [(0, q.2), (1, .slice (some ⟨b, o, none⟩) code.length cap), (5, .int .i64 k), (6, .int .i64 q.1)])
      (fun q w' => q.1 ≤ n.to.length ∧ Own rU8 5 lo w' q.2 (Y ++ numsB (n.to.take q.1)) ∧ Gw w v w' q.2) (fun q => n.to.length - q.1) (0, u6) rfl ⟨rfl, rfl, rfl, rfl, trivial⟩ ⟨Nat.zero_le _, by simpa [numsB] using hO6, hgg⟩ ?_
    rintro ⟨j, u7⟩ w7 ⟨hj, hO7, hg7⟩
    simp only at hj hO7 hg7
    have hS7 := hS.gw hlo h hg7
    refine ix k rfl hlt ?_
    refine ldC hS7 (hcells 3 _ rfl) ?_
    refine br_dec (fun h2 => ?_) (fun h2 => ?_)
    · have hltj : j < n.to.length := by omega
      obtain ⟨x, hx, hdx⟩ := drop_get hltj
      have htx : numsB (n.to.take (j + 1)) = numsB (n.to.take j) ++ formM x.toNat := by rw [take_get hx]; simp [numsB]
      have hx0 := hok1.to x (List.mem_of_getElem? hx)
      have hsp : numsB n.to = numsB (n.to.take j) ++ numsB (n.to.drop j) := by
        unfold numsB
        rw [← List.flatMap_append, List.take_append_drop]
      obtain ⟨bt, ot, rfl, hct, _⟩ := hto.int hx
      refine ix k rfl hlt ?_
      refine ldC hS7 (hcells 3 _ rfl) ?_
      refine ix j rfl hltj ?_
      refine ldC hS7 hct ?_
      refine ev_call (num20_ct hO7 x (by omega) (by omega) (by rw [hsp] at hYl; simp only [List.length_append] at hYl ⊢; omega)) ?_
      rintro e w8 ⟨u8, rfl, hO8, hg8⟩
      refine int64 (by omega) (by omega) ?_
      refine ⟨(j + 1, u8), by simp only; omega, rfl, ⟨rfl, rfl, rfl, rfl, trivial⟩, hltj, ?_, hg7.trans hg8⟩
      rw [htx, ← List.append_assoc]
      exact hO8
    · rw [List.take_of_length_le (by omega), hYX] at hO7
      refine int64 (by omega) (by omega) ?_
      refine ⟨(k + 1, u7), by simp only; omega, rfl, ⟨rfl, rfl, rfl, trivial⟩, hlt, ?_, hg7⟩
      rw [htake, ← List.append_assoc, ← hX]
      exact hO7
  · rw [List.take_of_length_le (by omega)] at hO
    refine ⟨u, rfl, ?_, hg⟩
    rw [blockB, ← List.append_assoc]
    exact hO
end Go.Proofs.Ytjogpbiilokldaa
