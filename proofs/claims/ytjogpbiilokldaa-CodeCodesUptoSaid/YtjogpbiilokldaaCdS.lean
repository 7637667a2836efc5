/-
  Code: the same bytes; awake.
-/
import Derived.Test.YtjogpbiilokldaaCdR
set_option linter.unusedSimpArgs false
set_option linter.unusedVariables false
namespace Cd
open Go Go.Wx
def cod0 : Cod := ⟨-1, [], [], [], [⟨2, 5, 0, []⟩, ⟨6, 0, 0, []⟩]⟩
def codX : Cod := ⟨-1, [], [], [], [⟨1, 0, 0, []⟩, ⟨1, 0, 0, []⟩, ⟨6, 0, 0, []⟩]⟩
def bytes0 : List Nat := [0, 0, 0, 0, 2, 2, 5, 0, 0, 6, 0, 0, 0]
theorem cod0_check : checkM cod0 = 0 := by decide +kernel
theorem codX_check : checkM codX = 27 := by decide +kernel
theorem cod0_bytes : codB cod0 = bytes0 := by
  simp [codB, cod0, numsB, blockB, insB, formM_small, bytes0]
theorem bytes0_dec : decE bytes0 = 0 := by decide +kernel
theorem bytes0_cod : decC bytes0 = cod0 := by
  unfold decC
  rw [if_pos bytes0_dec]
  rfl
end Cd

namespace Go.Proofs.Ytjogpbiilokldaa
open Go.Wx Cd

theorem same02_ct {C D : Mem} {w : World} (hS : Sub C w) (hD : Sub D w) (l m : List Nat) (a a' : Option Addr) (c c' : Nat) (hl : Sl rU8 C a l) (hm : Sl rU8 D a' m) :
    CallOk Try.prog 17 ∧ Calls Try.prog 17 #[.slice a l.length c, .slice a' m.length c'] w (fun e w' => e = .returned (.bool (decide (l = m))) ∧ Kp [] w w') := by
  refine ⟨⟨_, Try.func17, rfl, by decide⟩, ?_⟩
  have hlen := hl.1
  obtain ⟨RES, hRES⟩ : ∃ r, decide (l = m) = r := ⟨_, rfl⟩
  rw [hRES]
  refine calls_of (args := [_, _]) 26 [.tmp 4] τok Try.func17 rfl rfl rfl (Nat.le_of_ble_eq_true rfl) ?_
  refine br_dec (fun h1 => ?_) (fun h1 => ?_)
  · have : ¬ l = m := fun e => h1 (by rw [e])
    exact ⟨by rw [← hRES, decide_eq_false this]; rfl, Kp.refl _ _⟩
  have h1 : l.length = m.length := by
    have : (l.length : Int) = m.length := by simpa using h1
    omega
  refine lp τok (σ := Nat) (fun k => [(0, .slice a l.length c), (1, .slice a' m.length c'), (5, .int .i64 k)]) (fun k w' => k ≤ l.length ∧ Kp [] w w' ∧ RES = decide (l.drop k = m.drop k)) (fun k => l.length - k) 0 rfl
    ⟨rfl, rfl, rfl, trivial⟩ ⟨Nat.zero_le _, Kp.refl _ _, hRES.symm⟩ ?_
  rintro k w1 ⟨hk, hkp, hr⟩
  refine br_dec (fun h => ?_) (fun h => ?_)
  · have hlt : k < l.length := by omega
    obtain ⟨x, hx, hd⟩ := drop_get hlt
    obtain ⟨y, hy, hd'⟩ := drop_get (l := m) (k := k) (by omega)
    rw [hd, hd'] at hr
    obtain ⟨b, o, rfl, hcell, _⟩ := hl.u8 hx
    obtain ⟨b', o', rfl, hcell', _⟩ := hm.u8 hy
    have hc1 := (hS.tr hkp) _ _ _ hcell
    have hc2 := (hD.tr hkp) _ _ _ hcell'
    refine drawR τok (by kernel_rfl) ?_
    refine ix k rfl hlt ?_
    refine ldR hc1 ?_
    refine ix k rfl (by omega) ?_
    refine ldR hc2 ?_
    intro m'
    refine br_dec (fun hc => ?_) (fun hc => ?_)
    · have : x ≠ y := fun e => hc (by rw [e])
      refine ⟨?_, hkp.dr _⟩
      rw [hr, decide_eq_false (by simp [this])]
      rfl
    · have : x = y := by
        have : (x : Int) = y := by simpa using hc
        omega
      subst this
      refine int64 (by omega) (by omega) ?_
      refine ⟨k + 1, by omega, rfl, ⟨rfl, rfl, rfl, trivial⟩, hlt, hkp.dr _, ?_⟩
      rw [hr]
      simp
  · refine ⟨?_, hkp⟩
    rw [hr, List.drop_eq_nil_of_le (by omega), List.drop_eq_nil_of_le (by omega)]
    rfl

/-- instructions without ways on, laid in a row -/
def insCells (l : List (Int × Int × Int)) : List Value := l.flatMap fun n => [.int .i64 n.1, .int .i64 n.2.1, .int .i64 n.2.2, .slice none 0 0]
theorem ins_row {w : World} {b : Nat} (l : List (Int × Int × Int)) (h : Bk w.heap b (insCells l) 45) (h64 : ∀ n ∈ l, I64 n.1 ∧ I64 n.2.1 ∧ I64 n.2.2) (hl : l.length ≤ 1099511627776) : Sl rIns (New b w) (some ⟨b, 0, none⟩) (l.map fun n => ⟨n.1, n.2.1, n.2.2, []⟩) := by
  refine ⟨by simpa using hl, .inr ⟨b, 0, rfl, fun i x hi => ?_⟩⟩
  rw [List.getElem?_map] at hi
  cases hn : l[i]? with
  | none => rw [hn] at hi; cases hi
  | some n =>
    rw [hn] at hi
    have hi := Option.some.inj hi
    subst hi
    obtain ⟨h1, h2, h3⟩ := h64 n (List.mem_of_getElem? hn)
    refine ⟨[.int .i64 n.1, .int .i64 n.2.1, .int .i64 n.2.2, .slice none 0 0], ⟨none, 0, rfl, Sl.nil _ _ _, h1, h2, h3⟩, fun j v hj => ⟨Nat.le_refl _, h.cu ?_⟩⟩
    show (insCells l)[0 + i * 4 + j]? = some v
    rw [Nat.zero_add]
    have := flat_get (k := 4) (l.map fun n => [Value.int .i64 n.1, .int .i64 n.2.1, .int .i64 n.2.2, .slice none 0 0]) (by intro cs hcs; obtain ⟨n, _, rfl⟩ := List.mem_map.1 hcs; rfl) i j _ v (by rw [List.getElem?_map, hn]; rfl) hj
    simpa [insCells, List.flatMap] using this

theorem cod_main {C : Mem} {main : List Ins} {a : Option Addr} {cap : Nat} (h : Sl rIns C a main) : rCod.den C [.int .i64 (-1), .slice none 0 0, .slice none 0 0, .slice none 0 0, .slice a main.length cap] ⟨-1, [], [], [], main⟩ :=
  ⟨none, 0, none, 0, none, 0, a, cap, rfl, Sl.nil _ _ _, Sl.nil _ _ _, Sl.nil _ _ _, h, by simp [I64]⟩

theorem awake_ct (w : World) : CallOk Try.prog 9 ∧ Calls Try.prog 9 #[] w (fun e w' => e = .returned (.bool true) ∧ Kp [] w w') := by
  refine ⟨⟨_, Try.func9, rfl, by decide⟩, ?_⟩
  refine calls_of (args := []) 56 [.tmp 0] τok Try.func9 rfl rfl rfl (Nat.le_of_ble_eq_true rfl) ?_
  refine fill [.int .i64 2, .int .i64 5, .int .i64 0, .slice none 0 0, .int .i64 6, .int .i64 0, .int .i64 0, .slice none 0 0] rfl ?_
  refine new fun bm w1 hbm hM hs1 hk1 => ?_
  refine new fun b1 w2 hb1 hB1 hs2 hk2 => ?_
  refine stN (vs := [.int .i64 (-1), .slice none 0 0, .slice none 0 0, .slice none 0 0, .slice (some ⟨bm, 0, none⟩) 2 2]) hB1 rfl (by simp [Value.oneCell']) fun w3 hB1 hs3 hk3 => ?_
  have k13 : Kp [] w1 w3 := hk2.newSt hb1 hk3
  have k03 := hk1.tr k13
  refine ldN [.int .i64 (-1), .slice none 0 0, .slice none 0 0, .slice none 0 0, .slice (some ⟨bm, 0, none⟩) 2 2] rfl (fun j v hj => by rw [Nat.zero_add]; exact hB1.cl hj) ?_
  have hc0 : rCod.den (New bm w3) [.int .i64 (-1), .slice none 0 0, .slice none 0 0, .slice none 0 0, .slice (some ⟨bm, 0, none⟩) 2 2] cod0 :=
    cod_main (ins_row [(2, 5, 0), (6, 0, 0)] (hM.kp k13 (by simp)) (by simp [I64]) (by simp))
  refine ev_call (encode_ct (New.sub bm w3) hc0) ?_
  rintro e w4 ⟨hk4, hpost⟩
  rw [if_neg (by rw [cod0_check]; simp), cod0_bytes, if_neg (by decide)] at hpost
  obtain ⟨ae, ce, rfl, hSe, _⟩ := hpost
  have c5 := decode_ct (New.sub _ w4) bytes0 ae ce hSe
  rw [bytes0_dec, bytes0_cod] at c5
  refine ev_call c5 ?_
  rintro e w5 ⟨cs, rfl, hden, hk5⟩
  obtain ⟨a1, c1, a2, c2, a3, c3, a4, c4, rfl, h1, h2, h3, h4, h5⟩ := hden
  refine new fun b4 w6 hb4 hB4 hs6 hk6 => ?_
  refine stN hB4 rfl (by simp [Value.oneCell']) fun w7 hB4 hs7 hk7 => ?_
  have k57 : Kp [] w5 w7 := hk6.newSt hb4 hk7
  refine fill [.int .i64 1, .int .i64 0, .int .i64 0, .slice none 0 0, .int .i64 1, .int .i64 0, .int .i64 0, .slice none 0 0, .int .i64 6, .int .i64 0, .int .i64 0, .slice none 0 0] rfl ?_
  refine new fun bx w8 hbx hX hs8 hk8 => ?_
  refine new fun b6 w9 hb6 hB6 hs9 hk9 => ?_
  refine stN (vs := [.int .i64 (-1), .slice none 0 0, .slice none 0 0, .slice none 0 0, .slice (some ⟨bx, 0, none⟩) 3 3]) hB6 rfl (by simp [Value.oneCell']) fun w10 hB6 hs10 hk10 => ?_
  have k810 : Kp [] w8 w10 := hk9.newSt hb6 hk10
  have k710 := hk8.tr k810
  refine fill [.int .u8 0, .int .u8 0, .int .u8 0, .int .u8 0, .int .u8 2, .int .u8 2, .int .u8 5, .int .u8 0, .int .u8 0, .int .u8 6, .int .u8 0, .int .u8 0, .int .u8 0] rfl ?_
  refine new fun bb w11 hbb hBB hs11 hk11 => ?_
  have k511 : Kp [] w5 w11 := (k57.tr k710).tr hk11
  have k411 := hk5.tr k511
  have hSb : Sl rU8 (New bb w11) (some ⟨bb, 0, none⟩) bytes0 := by
    refine ⟨by decide, .inr ⟨bb, 0, rfl, fun i x hi => ⟨[.int .u8 (x : Int)], ⟨rfl, ?_⟩, fun j v hj => ⟨Nat.le_refl _, hBB.cu ?_⟩⟩⟩⟩
    · have hmem := List.mem_of_getElem? hi
      simp [bytes0] at hmem
      omega
    · match j with
      | 0 =>
        simp at hj
        subst hj
        have e : [Value.int .u8 0, .int .u8 0, .int .u8 0, .int .u8 0, .int .u8 2, .int .u8 2, .int .u8 5, .int .u8 0, .int .u8 0, .int .u8 6, .int .u8 0, .int .u8 0, .int .u8 0] = bytes0.map fun x : Nat => Value.int .u8 (x : Int) := rfl
        show ([Value.int .u8 0, .int .u8 0, .int .u8 0, .int .u8 0, .int .u8 2, .int .u8 2, .int .u8 5, .int .u8 0, .int .u8 0, .int .u8 6, .int .u8 0, .int .u8 0, .int .u8 0])[0 + i * 1 + 0]? = some _
        rw [e, List.getElem?_map]
        simp [hi]
      | j + 1 => simp at hj
  have c6 := same02_ct ((New.sub w3.heap.size w4).tr k411) (New.sub bb w11) bytes0 bytes0 ae (some ⟨bb, 0, none⟩) ce 13 hSe hSb
  rw [decide_eq_true rfl] at c6
  refine ev_call c6 ?_
  rintro e w12 ⟨rfl, hk12⟩
  have hB4 := hB4.kp ((k710.tr hk11).tr hk12) (by simp)
  have k512 := k511.tr hk12
  obtain ⟨b, o, rfl, an, tc, hto, nop, na, nb, hcells⟩ := sl_ins h4 (i := 0) (x := ⟨2, 5, 0, []⟩) rfl
  refine ld (hB4.cl rfl).cell ?_
  refine ld (hB4.cl rfl).cell ?_
  refine ix 0 rfl (by decide) ?_
  refine ldC ((New.sub w4.heap.size w5).tr k512) (hcells 1 _ rfl) ?_
  have hB6 := (hB6.kp hk11 (by simp)).kp hk12 (by simp)
  refine ldN [.int .i64 (-1), .slice none 0 0, .slice none 0 0, .slice none 0 0, .slice (some ⟨bx, 0, none⟩) 3 3] rfl (fun j v hj => by rw [Nat.zero_add]; exact hB6.cl hj) ?_
  have hcX : rCod.den (New bx w12) [.int .i64 (-1), .slice none 0 0, .slice none 0 0, .slice none 0 0, .slice (some ⟨bx, 0, none⟩) 3 3] codX :=
    cod_main (ins_row [(1, 0, 0), (1, 0, 0), (6, 0, 0)] (((hX.kp k810 (by simp)).kp hk11 (by simp)).kp hk12 (by simp)) (by simp [I64]) (by simp))
  have c7 := check_ct (New.sub bx w12) hcX
  rw [codX_check] at c7
  refine ev_call c7 ?_
  rintro e w13 ⟨rfl, hk13⟩
  exact ⟨rfl, (((k03.tr hk4).tr hk5).tr k512).tr hk13⟩
end Go.Proofs.Ytjogpbiilokldaa
