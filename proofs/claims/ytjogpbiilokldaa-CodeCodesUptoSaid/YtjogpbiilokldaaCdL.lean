/-
  Code: bytes: octet.form, Put; code's writer.
-/
import Derived.Test.YtjogpbiilokldaaCdK
import Derived.Lib.SliceRun
set_option linter.unusedSimpArgs false
set_option linter.unusedVariables false
namespace Cd
open Go Go.Wx
/-- the form of a number -/
def formM (n : Nat) : List Nat := if h : n < 128 then [n] else (n % 128 + 128) :: formM (n / 128)
termination_by n
decreasing_by omega

theorem formM_small {n : Nat} (h : n < 128) : formM n = [n] := by rw [formM, dif_pos h]
theorem formM_big {n : Nat} (h : ¬ n < 128) : formM n = (n % 128 + 128) :: formM (n / 128) := by rw [formM, dif_neg h]
theorem formM_byte (n : Nat) : ∀ x ∈ formM n, x < 256 := by
  induction n using Nat.strongRecOn with
  | _ n ih =>
    by_cases h : n < 128
    · rw [formM_small h]; intro x hx; simp at hx; omega
    · rw [formM_big h]
      intro x hx
      rcases List.mem_cons.1 hx with rfl | hx
      · omega
      · exact ih (n / 128) (by omega) x hx
theorem formM_len {k : Nat} : ∀ {n : Nat}, n < 128 ^ (k + 1) → (formM n).length ≤ k + 1 := by
  induction k with
  | zero => intro n h; rw [formM_small (by simpa using h)]; simp
  | succ k ih =>
    intro n h
    by_cases hs : n < 128
    · rw [formM_small hs]; simp
    · rw [formM_big hs]
      have : n / 128 < 128 ^ (k + 1) := by
        rw [Nat.div_lt_iff_lt_mul (by omega), ← Nat.pow_succ]
        exact h
      have := ih this
      simp; omega
theorem formM_len10 {n : Nat} (h : n < 18446744073709551616) : (formM n).length ≤ 10 := formM_len (k := 9) (by omega)

def numsB (xs : List Int) : List Nat := xs.flatMap fun x => formM x.toNat
def insB (n : Ins) : List Nat := numsB [n.op, n.a, n.b, n.to.length] ++ numsB n.to
def blockB (b : List Ins) : List Nat := numsB [(b.length : Int)] ++ b.flatMap insB
def bitI (b : Bool) : Int := if b then 1 else 0
def keptB (k : List Bool) : List Nat := numsB [(k.length : Int)] ++ numsB (k.map bitI)
def shpB (s : Shp) : List Nat := numsB [s.params, s.kept.length] ++ s.kept.flatMap keptB
def fnB (f : Cd.Fn) : List Nat := numsB [f.caps] ++ blockB f.code
def codB (c : Cod) : List Nat := numsB [c.nat + 1, c.shapes.length] ++ c.shapes.flatMap shpB ++ numsB [(c.funs.length : Int)] ++ c.funs.flatMap fnB ++ numsB [(c.bodies.length : Int)] ++ c.bodies.flatMap blockB ++ blockB c.main
end Cd

namespace Go.Wx
theorem eqNil {P : Program} {τ : Tau} (hτ : TauOk P τ) {T e sz bs : Nat} (hs : look τ.slcs T = some (e, sz, bs)) {x y : Operand} {a : Option Addr} {n c : Nat} {w : World} {k : Value → World → Prop} (h : k (.bool a.isNone) w) :
    EvRun P (do eqGuard .eql T x y (.slice a n c) (.slice none 0 0); binOp .eql T (.slice a n c) (.slice none 0 0)) w k := by
  obtain ⟨hu, _⟩ := hτ.slcs T e sz bs hs
  refine run (v := .bool a.isNone) ?_ h
  rw [eqGuard_at_slice]
  simp only [Sem.run_bind, Sem.run_pure, Result.andThen_ok]
  exact Lib.run_eql_slice_nil w T e a n c 0 0 hu

/-- from one row of one's own to the next: what else was there stays -/
structure Gw (w : World) (v : Value) (w' : World) (v' : Value) : Prop where
  kp : Kp v.ownBlock.toList w w'
  blk : ∀ g, v'.ownBlock = some g → v.ownBlock = some g ∨ w.heap.size ≤ g
theorem Gw.refl (w : World) (v : Value) : Gw w v w v := ⟨(Kp.refl [] w).weak (by simp), fun g h => .inl h⟩
theorem Gw.trans {w w' w'' : World} {v v' v'' : Value} (h : Gw w v w' v') (k : Gw w' v' w'' v'') : Gw w v w'' v'' := by
  refine ⟨h.kp.trans k.kp fun x hx hl => ?_, fun g hg => ?_⟩
  · have hx : v'.ownBlock = some x := by simpa using hx
    rcases h.blk x hx with e | e
    · simpa using e
    · omega
  · rcases k.blk g hg with e | e
    · exact h.blk g e
    · exact .inr (Nat.le_trans h.kp.size e)
theorem Gw.of {w w1 w2 : World} {v v' : Value} (k1 : Kp [] w w1) (k2 : Kp v.ownBlock.toList w1 w2) (hb : v'.ownBlock = v.ownBlock ∨ v'.ownBlock = some w1.heap.size) : Gw w v w2 v' := by
  refine ⟨(k1.weak (by simp)).trans k2 (fun x hx _ => hx), fun g hg => ?_⟩
  rcases hb with e | e
  · exact .inl (by rw [← e]; exact hg)
  · rw [e] at hg
    have := Option.some.inj hg
    have := k1.size
    exact .inr (by omega)
end Go.Wx

namespace Go.Proofs.Ytjogpbiilokldaa
open Go.Wx Cd

theorem or128 : ∀ x : Nat, x < 256 → x ||| 128 = x % 128 + 128 := by decide +kernel

theorem form_ct {lo : Nat} {w : World} {v : Value} {l : List Nat} (h : Own rU8 5 lo w v l) (n : Nat) (hn : n < 18446744073709551616) (hl : l.length ≤ 549755813888) :
    CallOk Try.prog 80 ∧ Calls Try.prog 80 #[v, .int .u64 (n : Int)] w (fun e w' => ∃ v', e = .returned v' ∧ Own rU8 5 lo w' v' (l ++ formM n) ∧ Gw w v w' v') := by
  refine ⟨⟨_, Try.func80, rfl, by decide⟩, ?_⟩
  refine calls_of (args := [_, _]) 20 [.tmp 4] τok Try.func80 rfl rfl rfl (Nat.le_of_ble_eq_true rfl) ?_
  have hfl := formM_len10 hn
  refine lp τok (σ := Value × Nat × List Nat) (fun q => [(0, q.1), (1, .int .u64 (q.2.1 : Int))])
    (fun q w' => q.2.1 ≤ n ∧ Own rU8 5 lo w' q.1 q.2.2 ∧ q.2.2 ++ formM q.2.1 = l ++ formM n ∧ Gw w v w' q.1) (fun q => q.2.1) (v, n, l) rfl ⟨rfl, rfl, trivial⟩ ⟨Nat.le_refl _, h, rfl, Gw.refl _ _⟩ ?_
  rintro ⟨u, m, r⟩ w1 ⟨hm, hO, hr, hg⟩
  simp only at hm hO hr hg
  have hrl : r.length ≤ 549755813888 + 10 := by
    have := congrArg List.length hr
    simp only [List.length_append] at this
    omega
  refine br_dec (fun h1 => ?_) (fun h1 => ?_)
  · have h1 : (128 : Int) ≤ (m : Int) := h1
    have h1 : ¬ m < 128 := by omega
    refine intv ((m % 256 : Nat) : Int) (by rw [wrap8']; simp) ?_
    refine or8 (x := m % 256) (y := 128) (m % 128 + 128) (by omega) (by omega) (by rw [or128 _ (by omega)]; omega) ?_
    refine fill [.int .u8 ((m % 128 + 128 : Nat) : Int)] rfl ?_
    refine new fun b2 w2 hb2 hB2 hs2 hk2 => ?_
    refine (hO.kp hk2).ap1 τok rfl rfl Nat.one_pos (m % 128 + 128) [.int .u8 ((m % 128 + 128 : Nat) : Int)] ⟨rfl, by omega⟩ (fun j x hj => by rw [Nat.zero_add]; exact hB2.cl hj) (by omega) (by simp only [maxLen]; omega) fun u' w3 hO3 hk3 hb3 => ?_
    refine shr64 (x := m) (n := 7) (m / 128) (by omega) rfl ?_
    refine ⟨(u', m / 128, r ++ [m % 128 + 128]), by simp only; omega, rfl, ⟨rfl, rfl, trivial⟩, by simp only; omega, hO3, ?_, hg.trans (Gw.of hk2 hk3 hb3)⟩
    simp only
    rw [← hr, formM_big h1]
    simp
  · have h1 : ¬ (128 : Int) ≤ (m : Int) := h1
    have h1 : m < 128 := by omega
    refine intv ((m : Nat) : Int) (by rw [wrap8']; simp only; omega) ?_
    refine fill [.int .u8 ((m : Nat) : Int)] rfl ?_
    refine new fun b2 w2 hb2 hB2 hs2 hk2 => ?_
    refine (hO.kp hk2).ap1 τok rfl rfl Nat.one_pos m [.int .u8 ((m : Nat) : Int)] ⟨rfl, by omega⟩ (fun j x hj => by rw [Nat.zero_add]; exact hB2.cl hj) (by omega) (by simp only [maxLen]; omega) fun u' w3 hO3 hk3 hb3 => ?_
    refine ⟨u', rfl, ?_, hg.trans (Gw.of hk2 hk3 hb3)⟩
    rw [formM_small h1] at hr
    rw [← hr]
    exact hO3

theorem clone_ct {C : Mem} {w : World} (hS : Sub C w) (l : List Nat) (a : Option Addr) (cap : Nat) (hl : Sl rU8 C a l) (hll : l.length ≤ 549755813888) :
    CallOk Try.prog 60 ∧ Calls Try.prog 60 #[.slice a l.length cap] w (fun e w' => ∃ v, e = .returned v ∧ Own rU8 5 w.heap.size w' v l ∧ Kp [] w w') := by
  refine ⟨⟨_, Try.func60, rfl, by decide⟩, ?_⟩
  refine calls_of (args := [_]) 8 [.tmp 2] τok Try.func60 rfl rfl rfl (Nat.le_of_ble_eq_true rfl) ?_
  refine eqNil τok rfl ?_
  refine br (fun h1 => ?_) (fun h1 => ?_)
  · have ha : a = none := by cases a <;> simp_all
    have hnil : l = [] := by
      rcases hl.2 with h0 | ⟨b, o, e, _⟩
      · exact List.length_eq_zero_iff.1 h0
      · rw [ha] at e; cases e
    subst hnil
    exact ⟨_, rfl, Own.nil _ _ (Nat.le_refl _), Kp.refl _ _⟩
  refine fill [] rfl ?_
  refine new fun b1 w1 hb1 hB1 hs1 hk1 => ?_
  have hO : Own rU8 5 w.heap.size w1 (.slice (some ⟨b1, 0, none⟩) 0 0) [] := Own.empty rU8 hB1 (by omega)
  have hS1 := hS.tr hk1
  refine hO.ap τok rfl rfl Nat.one_pos l (l.map fun x : Nat => [Value.int .u8 (x : Int)]) rfl ?_ ?_ (by simp; omega) (by simp [maxLen]; omega) fun v' w2 hO2 hk2 _ => ?_
  · have hbyte : ∀ x ∈ l, x < 256 := fun x hx => by
      obtain ⟨i, hi⟩ := List.getElem?_of_mem hx
      obtain ⟨_, _, _, _, h⟩ := hl.u8 hi
      exact h
    clear hl hll
    induction l with
    | nil => trivial
    | cons x r ih => exact ⟨⟨rfl, hbyte x (by simp)⟩, ih (fun y hy => hbyte y (by simp [hy]))⟩
  · rcases hl.2 with h0 | ⟨b, o, ha, hc⟩
    · exact .inl h0
    · refine .inr ⟨b, o, ha, fun i x j u hi hj => ?_⟩
      rw [List.getElem?_map] at hi
      cases hy : l[i]? with
      | none => rw [hy] at hi; cases hi
      | some y =>
        rw [hy] at hi
        have hi : [Value.int .u8 (y : Int)] = x := by simpa using hi
        subst hi
        obtain ⟨cs, ⟨rfl, _⟩, h2⟩ := hc i y hy
        exact hS1 _ _ _ (h2 j u hj)
  · refine ⟨v', rfl, by simpa using hO2, hk1.trans hk2 fun x hx hl => ?_⟩
    have hx : x = b1 := by simpa [Value.ownBlock, eq_comm] using hx
    omega

theorem put_ct {C D : Mem} {w : World} (hS : Sub C w) (hD : Sub D w) (l : List Nat) (xs : List Int) (a ax : Option Addr) (cap cx : Nat) (hl : Sl rU8 C a l) (hx : Sl rInt D ax xs) (hpos : ∀ x ∈ xs, 0 ≤ x) (hll : (l ++ numsB xs).length ≤ 549755813888) :
    CallOk Try.prog 57 ∧ Calls Try.prog 57 #[.slice a l.length cap, .slice ax xs.length cx] w (fun e w' => ∃ v, e = .returned (.tuple #[v, .int .i64 0]) ∧ Own rU8 5 w.heap.size w' v (l ++ numsB xs) ∧ Kp [] w w') := by
  refine ⟨⟨_, Try.func57, rfl, by decide⟩, ?_⟩
  have hxl := hx.1
  simp only [List.length_append] at hll
  refine calls_of (args := [_, _]) 25 [.tmp 4, .tmp 5] τok Try.func57 rfl rfl rfl (Nat.le_of_ble_eq_true rfl) ?_
  refine ev_call (clone_ct hS l a cap hl (by omega)) ?_
  rintro e w1 ⟨v, rfl, hO, hk1⟩
  refine lp τok (σ := Nat × Value) (fun q => [(6, q.2), (11, .slice ax xs.length cx), (12, .int .i64 xs.length), (13, .int .i64 q.1)])
    (fun q w' => q.1 ≤ xs.length ∧ Own rU8 5 w.heap.size w' q.2 (l ++ numsB (xs.take q.1)) ∧ Kp [] w w') (fun q => xs.length - q.1) (0, v) rfl ⟨rfl, rfl, rfl, rfl, trivial⟩ ⟨Nat.zero_le _, by simpa [numsB] using hO, hk1⟩ ?_
  rintro ⟨k, u⟩ w2 ⟨hk, hO2, hkp⟩
  simp only at hk hO2
  refine br_dec (fun h1 => ?_) (fun h1 => ?_)
  · have hlt : k < xs.length := by omega
    obtain ⟨x, hxk, hd⟩ := drop_get hlt
    obtain ⟨b, o, rfl, hcell, h64⟩ := hx.int hxk
    have hD2 := hD.tr hkp
    have hx0 := hpos x (List.mem_of_getElem? hxk)
    unfold I64 at h64
    refine ix k rfl hlt ?_
    (repeat first | refine ldC ‹Sub _ _› (by assumption) ?_ | refine ld (Cl.cell (by first | assumption | exact Bk.cl (by assumption) rfl)) ?_ | refine ldK (by first | assumption | exact Bk.cl (by assumption) rfl | exact ‹Sub _ _› _ _ _ (by assumption)) ?_)
    refine br_dec (fun h2 => ?_) (fun h2 => ?_)
    · omega
    refine u64n x.toNat (by omega) (by omega) ?_
    have htl : (numsB (xs.take k)).length ≤ (numsB xs).length := by
      have : numsB xs = numsB (xs.take k) ++ numsB (xs.drop k) := by
        unfold numsB
        rw [← List.flatMap_append, List.take_append_drop]
      rw [this, List.length_append]
      omega
    refine ev_call (form_ct hO2 x.toNat (by omega) (by rw [List.length_append]; omega)) ?_
    rintro e w3 ⟨u', rfl, hO3, hg3⟩
    refine int64 (by omega) (by omega) ?_
    refine ⟨(k + 1, u'), by simp only; omega, rfl, ⟨rfl, rfl, rfl, rfl, trivial⟩, hlt, ?_, hkp.own hg3.kp hO2⟩
    have : numsB (xs.take (k + 1)) = numsB (xs.take k) ++ formM x.toNat := by
      rw [take_get hxk]
      simp [numsB]
    simp only
    rw [this, ← List.append_assoc]
    exact hO3
  · rw [List.take_of_length_le (by omega)] at hO2
    exact ⟨u, rfl, hO2, hkp⟩
end Go.Proofs.Ytjogpbiilokldaa
