/-
  Levels: values, Meets, and what the law calls sound.
-/
import Derived.Test.YtbgiljognlbkhaaLvU
set_option linter.unusedSimpArgs false
set_option linter.unusedVariables false
namespace Go.Proofs.Ytbgiljognlbkhaa
open Go.Wx Lv

def wr (x : Int) : Int := IntKind.i64.wrap x
theorem wr_in {x : Int} (h : -9223372036854775808 ≤ x ∧ x ≤ 9223372036854775807) : wr x = x := IntWalk.i64_in x (by omega)

theorem ofR_ct (vals : List Int) (a : Option Addr) (cap : Nat) (v : Int) (w : World) (N : Nat) (hv : Ints N w.heap a vals) (hr : I64 v) :
    CallOk Try.prog 18 ∧ Calls Try.prog 18 #[.slice a vals.length cap, .int .i64 v] w (fun e w' => e = .returned (.int .i64 (ofF vals v)) ∧ Kp [] w w') := by
  refine ⟨⟨_, Try.func18, rfl, by decide⟩, ?_⟩
  refine calls_of (args := [_, _]) 18 [.tmp 4] τok Try.func18 rfl rfl rfl (Nat.le_of_ble_eq_true rfl) ?_
  unfold I64 at hr
  refine br_dec (fun h1 => ?_) (fun h1 => ?_)
  · refine br_dec (fun h2 => ?_) (fun h2 => ?_)
    · refine int64 (by omega) (by omega) ?_
      rcases hv.1 with h0 | ⟨b, o, rfl, hb, hc⟩
      · omega
      refine ix (v - 1).toNat (by omega) (by omega) ?_
      refine ld (hc (v - 1).toNat 0 (by omega) (by omega)).cell ?_
      exact ⟨by rw [ofF, if_neg (by omega)]; rfl, Kp.refl _ _⟩
    · exact ⟨by rw [ofF, if_pos (by omega)]; rfl, Kp.refl _ _⟩
  · exact ⟨by rw [ofF, if_pos (by omega)]; rfl, Kp.refl _ _⟩

/-! ### Value -/
def valGo (vals : List Int) : List Atom → Nat → Int → Int
  | [], _, m => m
  | x :: r, i, m => valGo vals r (i + 1) (if i = 0 ∨ m < wr (ofF vals x.var + x.add) then wr (ofF vals x.var + x.add) else m)
def valueF (l : List Atom) (vals : List Int) : Int := valGo vals l 0 0

theorem value_ct (l : List Atom) (vals : List Int) (a av : Option Addr) (cap cv : Nat) (w : World) (N : Nat) (hl : Atoms w.heap.size w.heap a l) (hv : Ints w.heap.size w.heap av vals) (hlen : (l.length : Int) ≤ 9223372036854775807) :
    CallOk Try.prog 17 ∧ Calls Try.prog 17 #[.slice a l.length cap, .slice av vals.length cv] w (fun e w' => e = .returned (.int .i64 (valueF l vals)) ∧ Kp [] w w') := by
  refine ⟨⟨_, Try.func17, rfl, by decide⟩, ?_⟩
  refine calls_of (args := [_, _]) 33 [.tmp 4] τok Try.func17 rfl rfl rfl (Nat.le_of_ble_eq_true rfl) ?_
  refine loop τok (σ := Nat × Int) (fun x => [(9, .slice a l.length cap), (10, .int .i64 l.length), (11, .int .i64 x.1), (5, .int .i64 x.2), (1, .slice av vals.length cv)])
    (fun x w' => x.1 ≤ l.length ∧ valueF l vals = valGo vals (l.drop x.1) x.1 x.2 ∧ Kp [] w w') (fun x => l.length - x.1) (0, 0) ⟨rfl, rfl, rfl, rfl, rfl, trivial⟩ ⟨Nat.zero_le _, rfl, Kp.refl _ _⟩ ?_
  rintro ⟨k, m⟩ w1 ⟨hk, hr, hkp⟩
  refine br_dec (fun h5 => ?_) (fun h5 => ?_)
  · have hlt : k < l.length := by omega
    obtain ⟨x, hx⟩ : ∃ x, x = l.getD k default := ⟨_, rfl⟩
    have hxm : x ∈ l := hx ▸ getD_mem l k hlt
    obtain ⟨xv, xa⟩ := hl.2 x hxm
    rw [drop_cons l k hlt, ← hx] at hr
    simp only [valGo] at hr
    rcases hl.1 with h0 | ⟨b, o, rfl, hb, hc⟩
    · omega
    have hc0 := (hc k 0 hlt (by omega)).kp hkp (by simp)
    have hc1 := (hc k 1 hlt (by omega)).kp hkp (by simp)
    simp only [if_true, if_false, Nat.one_ne_zero, ← hx] at hc0 hc1
    refine ix k rfl hlt ?_
    refine ldN [.int .i64 x.var, .int .i64 x.add] rfl (at2 hc0 hc1) ?_
    refine new fun b2 w2 hb2 hB2 hs2 hk2 => ?_
    refine stN hB2 rfl (by simp [Value.oneCell']) fun w3 hB3 hs3 hk3 => ?_
    have hkp3 := hkp.tr (hk2.newSt hb2 hk3)
    refine drawQ τok (fun w' => Kp [] w3 w') (by kernel_rfl) ((Kp.refl [] w3).dr _) ?_
    refine ldK (hB3.cl rfl) ?_
    refine callK (fun w' hk' => of_ct vals av cv x.var w' _ (hv.kp (hkp3.tr hk') (hkp3.tr hk').size) xv) ?_
    refine ldK (hB3.cl rfl) ?_
    obtain ⟨n, hn⟩ : ∃ n, wr (ofF vals x.var + x.add) = n := ⟨_, rfl⟩
    rw [hn] at hr
    refine intv n hn ?_
    intro w4 hk4
    have hkp4 := hkp3.tr hk4
    refine br_dec (fun c1 => ?_) (fun c1 => ?_)
    · refine int64 (by omega) (by omega) ?_
      refine ⟨(k + 1, n), by simp only; omega, rfl, ⟨rfl, rfl, rfl, rfl, rfl, trivial⟩, hlt, ?_, hkp4⟩
      rw [hr, if_pos (.inl (by omega))]
    · refine br_dec (fun c2 => ?_) (fun c2 => ?_)
      · refine int64 (by omega) (by omega) ?_
        refine ⟨(k + 1, n), by simp only; omega, rfl, ⟨rfl, rfl, rfl, rfl, rfl, trivial⟩, hlt, ?_, hkp4⟩
        rw [hr, if_pos (.inr c2)]
      · refine int64 (by omega) (by omega) ?_
        refine ⟨(k + 1, m), by simp only; omega, rfl, ⟨rfl, rfl, rfl, rfl, rfl, trivial⟩, hlt, ?_, hkp4⟩
        rw [hr, if_neg (by omega)]
  · refine ⟨?_, hkp⟩
    rw [hr, List.drop_eq_nil_of_le (by omega)]
    rfl

/-! ### Meets -/
def ordOk (vals : List Int) (o : Order) : Bool := decide (wr (ofF vals o.low + o.add) ≤ ofF vals o.high)
def meetsF (vals : List Int) (os : List Order) : Bool := (vals.all fun x => decide (0 ≤ x)) && os.all (ordOk vals)

theorem meetsR_ct (vals : List Int) (os : List Order) (av ao : Option Addr) (cv co : Nat) (w : World) (hv : Ints w.heap.size w.heap av vals) (ho : Orders w.heap.size w.heap ao os) (hvl : (vals.length : Int) ≤ 9223372036854775807) (hol : (os.length : Int) ≤ 9223372036854775807) :
    CallOk Try.prog 24 ∧ Calls Try.prog 24 #[.slice av vals.length cv, .slice ao os.length co] w (fun e w' => e = .returned (.bool (meetsF vals os)) ∧ Kp [] w w') := by
  refine ⟨⟨_, Try.func24, rfl, by decide⟩, ?_⟩
  refine calls_of (args := [_, _]) 45 [.tmp 4] τok Try.func24 rfl rfl rfl (Nat.le_of_ble_eq_true rfl) ?_
  refine loop τok (σ := Nat) (fun k => [(0, .slice av vals.length cv), (1, .slice ao os.length co), (5, .int .i64 k)])
    (fun k w' => k ≤ vals.length ∧ meetsF vals os = (((vals.drop k).all fun x => decide (0 ≤ x)) && os.all (ordOk vals)) ∧ Kp [] w w') (fun k => vals.length - k) 0 ⟨rfl, rfl, rfl, trivial⟩ ⟨Nat.zero_le _, rfl, Kp.refl _ _⟩ ?_
  rintro k w1 ⟨hk, hr, hkp⟩
  refine br_dec (fun h5 => ?_) (fun h5 => ?_)
  · have hlt : k < vals.length := by omega
    rcases hv.1 with h0 | ⟨b, o, rfl, hb, hc⟩
    · omega
    obtain ⟨x, hx⟩ : ∃ x, vals.getD k 0 = x := ⟨_, rfl⟩
    have hx' : vals.getD k default = x := hx
    have hc0 : Cl w1.heap b (o + k * 1 + 0) (.int .i64 x) := hx ▸ (hc k 0 hlt (by omega)).kp hkp (by simp)
    rw [drop_cons vals k hlt, hx'] at hr
    refine ix k rfl hlt ?_
    refine ld hc0.cell ?_
    refine br_dec (fun c1 => ?_) (fun c1 => ?_)
    · refine ⟨?_, hkp⟩
      rw [hr, List.all_cons, decide_eq_false (by omega)]
      rfl
    · refine int64 (by omega) (by omega) ?_
      refine ⟨k + 1, by omega, rfl, ⟨rfl, rfl, rfl, trivial⟩, hlt, ?_, hkp⟩
      rw [hr, List.all_cons, decide_eq_true (by omega), Bool.true_and]
  rw [List.drop_eq_nil_of_le (by omega), List.all_nil, Bool.true_and] at hr
  refine loop τok (σ := Nat) (fun k => [(0, .slice av vals.length cv), (1, .slice ao os.length co), (6, .int .i64 k)])
    (fun k w' => k ≤ os.length ∧ meetsF vals os = (os.drop k).all (ordOk vals) ∧ Kp [] w w') (fun k => os.length - k) 0 ⟨rfl, rfl, rfl, trivial⟩ ⟨Nat.zero_le _, hr, hkp⟩ ?_
  clear hr hkp
  rintro k w1 ⟨hk, hr, hkp⟩
  refine br_dec (fun h5 => ?_) (fun h5 => ?_)
  · have hlt : k < os.length := by omega
    obtain ⟨x, hx⟩ : ∃ x, x = os.getD k default := ⟨_, rfl⟩
    have hxm : x ∈ os := hx ▸ getD_mem os k hlt
    obtain ⟨xl, xa, xh⟩ := ho.2 x hxm
    rw [drop_cons os k hlt, ← hx, List.all_cons] at hr
    rcases ho.1 with h0 | ⟨b, o, rfl, hb, hc⟩
    · omega
    have hc0 := (hc k 0 hlt (by omega)).kp hkp (by simp)
    have hc1 := (hc k 1 hlt (by omega)).kp hkp (by simp)
    have hc2 := (hc k 2 hlt (by omega)).kp hkp (by simp)
    simp only [if_true, if_false, Nat.one_ne_zero, Nat.reduceEqDiff, ← hx] at hc0 hc1 hc2
    refine drawQ τok (fun w' => Kp [] w1 w') (by kernel_rfl) ((Kp.refl [] w1).dr _) ?_
    refine ix k rfl hlt ?_
    refine ldK hc0 ?_
    refine callK (fun w' hk' => ofR_ct vals av cv x.low w' _ (hv.kp (hkp.tr hk') (hkp.tr hk').size) xl) ?_
    refine ix k rfl hlt ?_
    refine ldK hc1 ?_
    obtain ⟨n, hn⟩ : ∃ n, wr (ofF vals x.low + x.add) = n := ⟨_, rfl⟩
    refine intv n hn ?_
    refine ix k rfl hlt ?_
    refine ldK hc2 ?_
    refine callK (fun w' hk' => ofR_ct vals av cv x.high w' _ (hv.kp (hkp.tr hk') (hkp.tr hk').size) xh) ?_
    intro w4 hk4
    have hkp4 := hkp.tr hk4
    refine br_dec (fun c1 => ?_) (fun c1 => ?_)
    · refine ⟨?_, hkp4⟩
      rw [hr, show ordOk vals x = false from decide_eq_false (by rw [hn]; exact Int.not_le.2 c1)]
      rfl
    · refine int64 (by omega) (by omega) ?_
      refine ⟨k + 1, by omega, rfl, ⟨rfl, rfl, rfl, trivial⟩, hlt, ?_, hkp4⟩
      rw [hr, show ordOk vals x = true from decide_eq_true (by rw [hn]; exact Int.not_lt.1 c1), Bool.true_and]
  · refine ⟨?_, hkp⟩
    rw [hr, List.drop_eq_nil_of_le (by omega)]
    rfl
end Go.Proofs.Ytbgiljognlbkhaa
