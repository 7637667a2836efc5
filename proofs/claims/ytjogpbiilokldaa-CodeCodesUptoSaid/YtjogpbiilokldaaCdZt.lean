/-
  Code: CodeCodes.
-/
import Derived.Test.YtjogpbiilokldaaCdZs
set_option linter.unusedSimpArgs false
set_option linter.unusedVariables false
set_option maxRecDepth 100000
namespace Go.Proofs.Ytjogpbiilokldaa
open Go.Wx Cd Go.ChangeShapes Go.WideShapes Go.ChangeAt Go.RowKit

section
variable {H : Type} {enc : TypeId × Value → H} {w : World} {spare : Nat → Bool} {held : Bool}
theorem open_bytes {v : Value} {r : Reach} {b0 : Nat} {d : DataW H} {ps : List MemPlace} (hval : Value.okWide Try.prog w r b0 33 v) (h : DataW.Trod enc Try.prog w 0 spare held 33 v d ps) (hB : Rows.uptoBulk d ≤ 1048576) :
    ∃ (a : Option Addr) (l : List Nat) (cap : Nat), v = .slice a l.length cap ∧ Sl rU8 (Old w) a l := by
  obtain ⟨fuel, hf⟩ := h
  have go : ∀ u, DataW.trod enc Try.prog w 0 spare held fuel 33 [u] = some (d, ps) → ∃ (a : Option Addr) (l : List Nat) (cap : Nat), u = .slice a l.length cap ∧ Sl rU8 (Old w) a l := fun u hu => by
    obtain ⟨l, a, cap, e, hs⟩ := open_sl rU8 Nat.one_pos Try.underlying33 (by kernel_rfl) (fun cs n y hl hn _ => by
      obtain ⟨z, rfl, rfl, hw⟩ := DataW.trod_int Try.underlying5 hn
      have hb : 0 ≤ z ∧ z ≤ 255 := by simpa [Lit.wf, IntKind.min, IntKind.max, IntKind.signed, IntKind.bits] using hw
      exact ⟨z.toNat, by show [Value.int .u8 z] = [Value.int .u8 ((z.toNat : Nat) : Int)] ∧ _; rw [Int.toNat_of_nonneg hb.1]; exact ⟨rfl, by omega⟩⟩) hu hB
    exact ⟨a, l, cap, by simpa using e, hs⟩
  cases v <;> first | exact go _ hf | (exfalso; simp [Value.okWide, Try.underlying33, Cell.okWide, Cell.ok] at hval)
end

def encX (c : Cod) : List Nat := if checkM c ≠ 0 then [] else if 65536 < (codB c).length then [] else codB c
def encE (c : Cod) : Int := if checkM c ≠ 0 then checkM c else if 65536 < (codB c).length then 6 else 0
theorem enc_post {c : Cod} {w w' : World} {e : Ending} (h : EncPost c w e w') : Kp [] w w' ∧ ∃ a cap, e = .returned (.tuple #[.slice a (encX c).length cap, .int .i64 (encE c)]) ∧ Sl rU8 (New w.heap.size w') a (encX c) := by
  obtain ⟨h1, h2⟩ := h
  refine ⟨h1, ?_⟩
  unfold encX encE
  split at h2
  · rename_i g
    rw [if_pos g, if_pos g]
    exact ⟨none, 0, h2, Sl.nil _ _ _⟩
  rename_i g
  rw [if_neg g, if_neg g]
  split at h2
  · rename_i g'
    rw [if_pos g', if_pos g']
    exact ⟨none, 0, h2, Sl.nil _ _ _⟩
  · rename_i g'
    rw [if_neg g', if_neg g']
    obtain ⟨a, cap, e1, e2, _⟩ := h2
    exact ⟨a, cap, e1, e2⟩

theorem codeCodes_ct {C : Mem} {w : World} (hS : Sub C w) {cs : List Value} {c : Cod} (hc : rCod.den C cs c) (l : List Nat) (a : Option Addr) (cap : Nat) (hl : Sl rU8 C a l) :
    Calls Try.prog 4 #[.agg cs.toArray, .slice a l.length cap] w (fun e w' => e = .returned (.bool true) ∧ Kp [] w w') := by
  have hc0 := hc
  obtain ⟨a1, c1, a2, c2, a3, c3, a4, c4, rfl, h1, h2, h3, h4, h5⟩ := hc
  refine calls_ev (args := [_, _]) 65 [.tmp 4] Try.func4 rfl rfl rfl (Nat.le_of_ble_eq_true rfl) ?_
  refine ev_seq τok ?_
  refine new fun b1 w1 hb1 hB1 hs1 hk1 => ?_
  have hB1 : Bk w1.heap b1 [.int .i64 c.nat, .slice a1 c.shapes.length c1, .slice a2 c.funs.length c2, .slice a3 c.bodies.length c3, .slice a4 c.main.length c4] 28 := hB1
  refine ev_seq τok ?_
  refine ev_call (awake_ct w1) ?_
  rintro e w2 ⟨rfl, hk2⟩
  have k02 := hk1.tr hk2
  have hB1 := hB1.kp hk2 (by simp)
  refine ev_mid τok (σ := Unit) (fun _ => [(1, .slice a l.length cap), (2, .pointer (some ⟨b1, 0, none⟩))]) (fun _ w' => Kp [] w2 w') ?_ ?_
  · refine ldN [.int .i64 c.nat, .slice a1 c.shapes.length c1, .slice a2 c.funs.length c2, .slice a3 c.bodies.length c3, .slice a4 c.main.length c4] rfl (fun j v hj => by rw [Nat.zero_add]; exact hB1.cl hj) ?_
    refine ev_call (long_ct (hS.tr k02) hc0) ?_
    rintro e w3 ⟨b, rfl, hk3⟩
    have k03 := k02.tr hk3
    refine br (fun g1 => ?_) (fun g1 => ?_)
    · exact ⟨rfl, k03⟩
    refine br_dec (fun g2 => ?_) (fun g2 => ?_)
    · refine br_dec (fun g3 => ?_) (fun g3 => ?_)
      · exact ⟨rfl, k03⟩
      · exact ⟨(), rfl, ⟨rfl, rfl, trivial⟩, hk3⟩
    · exact ⟨(), rfl, ⟨rfl, rfl, trivial⟩, hk3⟩
  rintro _ w3 hk3
  have k03 := k02.tr hk3
  have hB1 := hB1.kp hk3 (by simp)
  refine ev_seq τok ?_
  refine ldN [.int .i64 c.nat, .slice a1 c.shapes.length c1, .slice a2 c.funs.length c2, .slice a3 c.bodies.length c3, .slice a4 c.main.length c4] rfl (fun j v hj => by rw [Nat.zero_add]; exact hB1.cl hj) ?_
  refine ev_call (encode_ct (hS.tr k03) hc0) ?_
  intro e w4 h4'
  obtain ⟨hk4, ax, cx, rfl, hx⟩ := enc_post h4'
  clear h4'
  have k04 := k03.tr hk4
  have hB1 := hB1.kp hk4 (by simp)
  refine ev_seq τok ?_
  refine ldN [.int .i64 c.nat, .slice a1 c.shapes.length c1, .slice a2 c.funs.length c2, .slice a3 c.bodies.length c3, .slice a4 c.main.length c4] rfl (fun j v hj => by rw [Nat.zero_add]; exact hB1.cl hj) ?_
  refine ev_call (encode20_ct (hS.tr k04) hc0) ?_
  intro e w5 h5'
  obtain ⟨hk5, ay, cy, rfl, hy⟩ := enc_post h5'
  clear h5'
  have k05 := k04.tr hk5
  generalize encX c = X at *
  generalize encE c = E at *
  refine ev_seq τok ?_
  refine ev_call (decode_ct (hS.tr k05) l a cap hl) ?_
  rintro e w6 ⟨cs6, rfl, hd6, hk6⟩
  have k06 := k05.tr hk6
  obtain ⟨p1, p2, p3, p4, p5, p6, p7, p8, hcs6, _⟩ := id hd6
  refine new fun b7 w7 hb7 hB7 hs7 hk7 => ?_
  subst hcs6
  refine stN (vs := [.int .i64 (decC l).nat, .slice p1 (decC l).shapes.length p2, .slice p3 (decC l).funs.length p4, .slice p5 (decC l).bodies.length p6, .slice p7 (decC l).main.length p8]) hB7 rfl (by simp [Value.oneCell']) fun w8 hB7 hs8 hk8 => ?_
  have k68 : Kp [] w6 w8 := hk7.newSt hb7 hk8
  have k08 := k06.tr k68
  refine ev_seq τok ?_
  refine ev_call (decode20_ct (hS.tr k08) l a cap hl) ?_
  rintro e w9 ⟨cs9, rfl, hd9, hk9⟩
  have k09 := k08.tr hk9
  obtain ⟨q1, q2, q3, q4, q5, q6, q7, q8, hcs9, _⟩ := id hd9
  refine new fun b10 w10 hb10 hB10 hs10 hk10 => ?_
  subst hcs9
  refine stN (vs := [.int .i64 (decC l).nat, .slice q1 (decC l).shapes.length q2, .slice q3 (decC l).funs.length q4, .slice q5 (decC l).bodies.length q6, .slice q7 (decC l).main.length q8]) hB10 rfl (by simp [Value.oneCell']) fun w11 hB10 hs11 hk11 => ?_
  have k911 : Kp [] w9 w11 := hk10.newSt hb10 hk11
  have k011 := k09.tr k911
  have hB7 := (hB7.kp hk9 (by simp)).kp k911 (by simp)
  refine ev_of τok ?_
  refine br_dec (fun g1 => ?_) (fun g1 => ?_)
  rotate_left
  · exact absurd rfl g1
  refine br_dec (fun g2 => ?_) (fun g2 => ?_)
  rotate_left
  · exact absurd rfl g2
  have k411 := (((hk5.tr hk6).tr k68).tr hk9).tr k911
  have k511 := ((hk6.tr k68).tr hk9).tr k911
  have cts := same02_ct ((New.sub _ w4).tr k411) ((New.sub _ w5).tr k511) X X ax ay cx cy hx hy
  rw [decide_eq_true (rfl : X = X)] at cts
  refine ev_call cts ?_
  rintro e w12 ⟨rfl, hk12⟩
  have hB7 := hB7.kp hk12 (by simp)
  have hB10 := hB10.kp hk12 (by simp)
  refine ldN [.int .i64 (decC l).nat, .slice p1 (decC l).shapes.length p2, .slice p3 (decC l).funs.length p4, .slice p5 (decC l).bodies.length p6, .slice p7 (decC l).main.length p8] rfl (fun j v hj => by rw [Nat.zero_add]; exact hB7.cl hj) ?_
  refine ldN [.int .i64 (decC l).nat, .slice q1 (decC l).shapes.length q2, .slice q3 (decC l).funs.length q4, .slice q5 (decC l).bodies.length q6, .slice q7 (decC l).main.length q8] rfl (fun j v hj => by rw [Nat.zero_add]; exact hB10.cl hj) ?_
  have k612 := ((k68.tr hk9).tr k911).tr hk12
  have k912 := k911.tr hk12
  refine ev_call (same20_ct ((New.sub _ w6).tr k612) ((New.sub _ w9).tr k912) (decC l) hd6 hd9) ?_
  rintro e w13 ⟨rfl, hk13⟩
  exact ⟨rfl, (k011.tr hk12).tr hk13⟩
end Go.Proofs.Ytjogpbiilokldaa
