/-
  Code: reading: octet's Reader.
-/
import Derived.Test.YtjogpbiilokldaaCdO
set_option linter.unusedSimpArgs false
set_option linter.unusedVariables false
namespace Cd
open Go Go.Wx
/-- what is left, and the first error -/
abbrev RS := List Nat × Int

/-- a number from 0 to most, behind i bytes that make n -/
def nx (most : Nat) : Nat → Nat → List Nat → Except Int (Nat × List Nat)
  | _, _, [] => .error 4
  | i, n, c :: r => if most < n + c % 128 * 128 ^ i ∨ (0 < i ∧ c = 0) then .error 3
    else if c < 128 then .ok (n + c % 128 * 128 ^ i, r)
    else if most < n + c % 128 * 128 ^ i + 128 ^ (i + 1) then .error 3
    else nx most (i + 1) (n + c % 128 * 128 ^ i) r

def numM (most : Nat) (s : RS) : Nat × RS := if s.2 ≠ 0 then (0, s) else match nx most 0 0 s.1 with
  | .ok (n, r) => (n, (r, 0))
  | .error e => (0, (s.1, e))

theorem num_ok {most : Nat} {s : RS} {n : Nat} {r : List Nat} (h : s.2 = 0) (hn : nx most 0 0 s.1 = .ok (n, r)) : numM most s = (n, (r, 0)) := by
  unfold numM
  rw [if_neg (by simpa using h), hn]
theorem num_err {most : Nat} {s : RS} {e : Int} (h : s.2 = 0) (hn : nx most 0 0 s.1 = .error e) : numM most s = (0, (s.1, e)) := by
  unfold numM
  rw [if_neg (by simpa using h), hn]
theorem num_dead {most : Nat} {s : RS} (h : s.2 ≠ 0) : numM most s = (0, s) := by
  unfold numM
  rw [if_pos h]

theorem nx_le {most : Nat} : ∀ {l : List Nat} {i n m : Nat} {r : List Nat}, nx most i n l = .ok (m, r) → m ≤ most
  | [], _, _, _, _, h => by simp [nx] at h
  | c :: l, i, n, m, r, h => by
    simp only [nx] at h
    split at h
    · cases h
    split at h
    · injection h with h
      injection h with h1 h2
      omega
    split at h
    · cases h
    · exact nx_le h
theorem num_le (most : Nat) (s : RS) : (numM most s).1 ≤ most := by
  unfold numM
  split
  · simp
  split
  · rename_i h; exact nx_le h
  · simp
end Cd

namespace Go.Wx
theorem Own.cap {α : Type} {R : Rd α} {e lo : Nat} {w : World} {v : Value} {l : List α} (h : Own R e lo w v l) : ∃ a cap, v = .slice a l.length cap ∧ l.length ≤ cap := by
  obtain ⟨css, h1, _⟩ := h.row
  rcases h1.2 with ⟨rfl, h0⟩ | ⟨g', cap, cur, rfl, _, _, hn, _⟩
  · exact ⟨none, 0, by rw [h0], by omega⟩
  · exact ⟨_, cap, rfl, hn⟩
theorem Own.kpl {α : Type} {R : Rd α} {e lo : Nat} {w w' : World} {v : Value} {l : List α} {X : List Nat} (h : Own R e lo w v l) (k : Kp X w w') (hx : ∀ x ∈ X, x < lo) : Own R e lo w' v l := by
  have hb := h.block
  obtain ⟨⟨css, h1, h2⟩, h3⟩ := h
  refine ⟨⟨css, own_kp h1 k fun g hg hgx => ?_, h2.mono fun cs x hx' => R.mono (fun b o u hu => ⟨hu.1, hu.2.1, hu.2.2.kp k fun hb => ?_⟩) hx'⟩, Nat.le_trans h3 k.size⟩
  · have := hx g hgx; have := (hb g hg).1; omega
  · have := hx b hb; have := hu.1; omega
end Go.Wx

namespace Go.Proofs.Ytjogpbiilokldaa
open Go.Wx Cd

theorem and127 : ∀ x : Nat, x < 256 → x &&& 127 = x % 128 := by decide +kernel

/-- what a reader is given -/
structure Rin (D : Mem) (p : Nat) (ab : Option Addr) (cb : Nat) (bs : List Nat) : Prop where
  bytes : Sl rU8 D ab bs
  apart : ∀ b o v, D b o v → b ≠ p
  cap : bs.length ≤ cb
/-- how a reader stands -/
def Rdr (D : Mem) (p : Nat) (ab : Option Addr) (cb : Nat) (bs : List Nat) (s : RS) (w : World) : Prop :=
  Sub D w ∧ ∃ at' : Nat, Bk w.heap p [.slice ab bs.length cb, .int .i64 (at' : Int), .int .i64 s.2] 125 ∧ at' ≤ bs.length ∧ s.1 = bs.drop at'
section
variable {D : Mem} {p : Nat} {ab : Option Addr} {cb : Nat} {bs : List Nat} {s : RS} {w w' : World}
theorem Rdr.kp (h : Rdr D p ab cb bs s w) (k : Kp [] w w') : Rdr D p ab cb bs s w' := by
  obtain ⟨h1, at', h2, h3⟩ := h
  exact ⟨h1.tr k, at', h2.kp k (by simp), h3⟩
theorem Rdr.lt (h : Rdr D p ab cb bs s w) : p < w.heap.size := by
  obtain ⟨h1, at', h2, h3⟩ := h
  exact h2.lt

theorem left_ct (hin : Rin D p ab cb bs) (h : Rdr D p ab cb bs s w) : CallOk Try.prog 66 ∧ Calls Try.prog 66 #[.pointer (some ⟨p, 0, none⟩)] w (fun e w' => ∃ a' cap', e = .returned (.slice a' s.1.length cap') ∧ Sl rU8 D a' s.1 ∧ Kp [] w w') := by
  refine ⟨⟨_, Try.func66, rfl, by decide⟩, ?_⟩
  obtain ⟨hS, at', hB, hat, hs⟩ := h
  refine calls_of (args := [_]) 12 [.tmp 2] τok Try.func66 rfl rfl rfl (Nat.le_of_ble_eq_true rfl) ?_
  have hbl := hin.bytes.1
  have hcap := hin.cap
  refine drawQ τok (fun w' => Kp [] w w') (by kernel_rfl) ((Kp.refl [] w).dr _) ?_
  refine ldK (hB.cl rfl) ?_
  refine ldK (hB.cl rfl) ?_
  refine slcLQ τok rfl at' _ rfl hat rfl ?_
  intro w1 hk1
  refine ⟨(if cb = at' then ab else ab.map (·.add (at' * 1))), cb - at', ?_, ?_, hk1⟩
  · rw [hs, List.length_drop]
    rfl
  · refine ⟨by rw [hs, List.length_drop]; omega, ?_⟩
    by_cases h0 : at' = bs.length
    · exact .inl (by rw [hs, List.length_drop]; omega)
    · obtain ⟨b, o, ha, hc⟩ := hin.bytes.at (i := at') (by omega)
      refine .inr ⟨b, o + at' * 1, ?_, fun i x hi => ?_⟩
      · rw [if_neg (by omega), ha, Option.map_some, add_off]
      · rw [hs, List.getElem?_drop] at hi
        have := hc (at' + i) x hi
        have e : o + (at' + i) * rU8.sz = o + at' * 1 + i * rU8.sz := by
          show o + (at' + i) * 1 = o + at' * 1 + i * 1
          omega
        rw [e] at this
        exact this

set_option maxRecDepth 20000 in
theorem next_ct (hin : Rin D p ab cb bs) (h : Rdr D p ab cb bs s w) (most : Nat) (hm : most ≤ 1048576) :
    CallOk Try.prog 82 ∧ Calls Try.prog 82 #[.pointer (some ⟨p, 0, none⟩), .int .u64 (most : Int)] w (fun e w' => e = .returned (.int .u64 ((numM most s).1 : Int)) ∧ Rdr D p ab cb bs (numM most s).2 w' ∧ Kp [p] w w') := by
  refine ⟨⟨_, Try.func82, rfl, by decide⟩, ?_⟩
  have hh := h
  obtain ⟨hD, at', hB, hat, hs1⟩ := h
  have hbl := hin.bytes.1
  refine calls_of (args := [_, _]) 95 [.tmp 4] τok Try.func82 rfl rfl rfl (Nat.le_of_ble_eq_true rfl) ?_
  refine ld (hB.cl rfl).cell ?_
  refine br_dec (fun h0 => ?_) (fun h0 => ?_)
  · rw [num_dead h0]
    exact ⟨rfl, hh, (Kp.refl [] w).weak (by simp)⟩
  refine ev_call (left_ct hin hh) ?_
  rintro e w1 ⟨a', cap', rfl, hSl, hk1⟩
  have hsl : s.1.length + at' = bs.length := by rw [hs1, List.length_drop]; omega
  refine lp τok (σ := Nat × Nat) (fun q => [(0, .pointer (some ⟨p, 0, none⟩)), (1, .int .u64 (most : Int)), (5, .int .u64 (q.2 : Int)), (18, .slice a' s.1.length cap'), (19, .int .i64 s.1.length), (20, .int .i64 q.1)])
    (fun q w' => q.1 ≤ s.1.length ∧ Kp [] w w' ∧ nx most 0 0 s.1 = nx most q.1 q.2 (s.1.drop q.1) ∧ ((q.1 = 0 ∧ q.2 = 0) ∨ q.2 + 128 ^ q.1 ≤ most)) (fun q => s.1.length - q.1) (0, 0) rfl ⟨rfl, rfl, rfl, rfl, rfl, rfl, trivial⟩ ⟨Nat.zero_le _, hk1, rfl, .inl ⟨rfl, rfl⟩⟩ ?_
  rintro ⟨i, n⟩ w4 ⟨hi, hk4, hnx, hinv⟩
  simp only at hi hnx hinv
  have hB4 := hB.kp hk4 (by simp)
  have hD4 := hD.tr hk4
  refine br_dec (fun h1 => ?_) (fun h1 => ?_)
  · have hlt : i < s.1.length := by omega
    obtain ⟨c, hc, hd⟩ := drop_get hlt
    have hi2 : i ≤ 2 := by
      rcases hinv with ⟨h, _⟩ | h
      · omega
      · rcases Nat.lt_or_ge 2 i with h3 | h3
        · have : 128 ^ 3 ≤ 128 ^ i := Nat.pow_le_pow_right (by omega) h3
          omega
        · exact h3
    obtain ⟨pw, hpw⟩ : ∃ pw, 128 ^ i = pw := ⟨_, rfl⟩
    have hpw1 : pw ≤ 16384 := by
      rw [← hpw]
      exact Nat.le_trans (Nat.pow_le_pow_right (by omega) hi2) (by decide)
    have hpw0 : 0 < pw := by rw [← hpw]; exact Nat.pow_pos (by omega)
    have h2p : 2 ^ (7 * i) = pw := by rw [Nat.pow_mul, ← hpw]
    obtain ⟨pt, hpt⟩ : ∃ pt, c % 128 = pt := ⟨_, rfl⟩
    have hpt1 : pt < 128 := by omega
    obtain ⟨q, hq'⟩ : ∃ q, pt * pw = q := ⟨_, rfl⟩
    have hq : q ≤ 127 * 16384 := by rw [← hq']; exact Nat.mul_le_mul (by omega) hpw1
    obtain ⟨m, hm'⟩ : ∃ m, n + q = m := ⟨_, rfl⟩
    obtain ⟨pw2, hpw2⟩ : ∃ e, pw * 128 = e := ⟨_, rfl⟩
    obtain ⟨d, hd'⟩ : ∃ d, most - m = d := ⟨_, rfl⟩
    have hn : n ≤ 1048576 := by
      rcases hinv with ⟨_, h⟩ | h <;> omega
    have hst : nx most i n (s.1.drop i) = if most < m ∨ (0 < i ∧ c = 0) then .error 3
        else if c < 128 then .ok (m, s.1.drop (i + 1))
        else if most < m + pw2 then .error 3
        else nx most (i + 1) (m) (s.1.drop (i + 1)) := by
      rw [hd, nx, hpw, Nat.pow_succ, hpw, hpt, hq', hm', hpw2]
    obtain ⟨b, o, rfl, hcell, hcb⟩ := hSl.u8 hc
    refine ix i rfl hlt ?_
    (repeat first | refine ldC ‹Sub _ _› (by assumption) ?_ | refine ld (Cl.cell (by first | assumption | exact Bk.cl (by assumption) rfl)) ?_ | refine ldK (by first | assumption | exact Bk.cl (by assumption) rfl | exact ‹Sub _ _› _ _ _ (by assumption)) ?_)
    refine intv ((7 * i : Nat) : Int) (by rw [IntWalk.i64_in _ (by omega)]; omega) ?_
    refine and8 (x := c) (y := 127) (pt) (by omega) (by omega) (by rw [and127 c hcb, hpt]) ?_
    refine u64n (pt) (by omega) rfl ?_
    refine shl64 (x := pt) (n := 7 * i) (q) (by omega) (by rw [h2p, hq']; omega) ?_
    refine shr64 (x := q) (n := 7 * i) (pt) (by omega) (by rw [h2p]; rw [← hq']; exact Nat.mul_div_cancel _ hpw0) ?_
    refine br_dec (fun hne => ?_) (fun _ => ?_)
    · exact absurd rfl hne
    refine shl64 (x := pt) (n := 7 * i) (q) (by omega) (by rw [h2p, hq']; omega) ?_
    refine u64n (m) (by omega) (by omega) ?_
    have err3 : nx most 0 0 s.1 = .error 3 → ∀ w5, Bk w5.heap p [.slice ab bs.length cb, .int .i64 (at' : Int), .int .i64 3] 125 → Kp [p] w4 w5 → Ending.returned (one [.int .u64 0]) = .returned (.int .u64 ((numM most s).1 : Int)) ∧ Rdr D p ab cb bs (numM most s).2 w5 ∧ Kp [p] w w5 := fun he w5 hB5 hk5 => by
      rw [num_err (by simpa using h0) he]
      exact ⟨rfl, ⟨sub_p hD4 hk5 hin.apart, at', hB5, hat, hs1⟩, (hk4.weak (by simp)).trans hk5 (fun x hx _ => hx)⟩
    conv => whnf
    refine br_dec (fun hgt => ?_) (fun hgt => ?_)
    · refine st hB4 (by simp) rfl fun w5 hB5 hs5 hk5 => ?_
      exact err3 (by rw [hnx, hst, if_pos (.inl (by omega))]) w5 hB5 hk5
    conv => whnf
    refine br_dec (fun hi0 => ?_) (fun hi0 => ?_)
    · conv => whnf
      refine br_dec (fun hc0 => ?_) (fun hc0 => ?_)
      · have hc0 : (c : Int) = 0 := hc0
        refine st hB4 (by simp) rfl fun w5 hB5 hs5 hk5 => ?_
        exact err3 (by rw [hnx, hst, if_pos (.inr ⟨by omega, by omega⟩)]) w5 hB5 hk5
      have hc0 : ¬ (c : Int) = 0 := hc0
      refine shl64 (x := pt) (n := 7 * i) (q) (by omega) (by rw [h2p, hq']; omega) ?_
      refine u64n (m) (by omega) (by omega) ?_
      refine br_dec (fun hc1 => ?_) (fun hc1 => ?_)
      · have hc1 : c < 128 := by have : (c : Int) < 128 := hc1
                                 omega
        have hres : numM most s = (m, (s.1.drop (i + 1), 0)) := by
          refine num_ok (by simpa using h0) ?_
          rw [hnx, hst, if_neg (by omega), if_pos hc1]
        refine ld (hB4.cl rfl).cell ?_
        refine int64 (by omega) (by omega) ?_
        refine int64 (by omega) (by omega) ?_
        refine st (b := p) (o := 1) hB4 (by simp) rfl fun w5 hB5 hs5 hk5 => ?_
        rw [hres]
        refine ⟨rfl, ⟨sub_p hD4 hk5 hin.apart, at' + (i + 1), by simpa [show s.2 = 0 by simpa using h0] using hB5, by omega, ?_⟩, (hk4.weak (by simp)).trans hk5 (fun x hx _ => hx)⟩
        rw [hs1, List.drop_drop]
      have hc1 : ¬ c < 128 := by have : ¬ (c : Int) < 128 := hc1
                                 omega
      refine intv ((7 * i + 7 : Nat) : Int) (by rw [IntWalk.i64_in _ (by omega)]; omega) ?_
      refine br_dec (fun h63 => ?_) (fun _ => ?_)
      · exact absurd h63 (by omega)
      refine u64n (d) (by omega) (by omega) ?_
      refine intv ((7 * i + 7 : Nat) : Int) (by rw [IntWalk.i64_in _ (by omega)]; omega) ?_
      refine shl64 (x := 1) (n := 7 * i + 7) pw2 (by omega) (by rw [Nat.pow_add, h2p]; omega) ?_
      conv => whnf
      refine br_dec (fun hlt2 => ?_) (fun hlt2 => ?_)
      · have hlt2 : ((d : Nat) : Int) < ((pw2 : Nat) : Int) := hlt2
        refine st hB4 (by simp) rfl fun w5 hB5 hs5 hk5 => ?_
        exact err3 (by rw [hnx, hst, if_neg (by omega), if_neg hc1, if_pos (by omega)]) w5 hB5 hk5
      have hlt2 : ¬ ((d : Nat) : Int) < ((pw2 : Nat) : Int) := hlt2
      refine int64 (by omega) (by omega) ?_
      refine ⟨(i + 1, m), by simp only; omega, rfl, ⟨rfl, rfl, rfl, rfl, rfl, rfl, trivial⟩, hlt, hk4, ?_, .inr ?_⟩
      · simp only
        rw [hnx, hst, if_neg (by omega), if_neg hc1, if_neg (by omega)]
      · simp only
        rw [Nat.pow_succ, hpw, hpw2]
        omega
    · have hi00 : i = 0 := by omega
      refine shl64 (x := pt) (n := 7 * i) (q) (by omega) (by rw [h2p, hq']; omega) ?_
      refine u64n (m) (by omega) (by omega) ?_
      refine br_dec (fun hc1 => ?_) (fun hc1 => ?_)
      · have hc1 : c < 128 := by have : (c : Int) < 128 := hc1
                                 omega
        have hres : numM most s = (m, (s.1.drop (i + 1), 0)) := by
          refine num_ok (by simpa using h0) ?_
          rw [hnx, hst, if_neg (by omega), if_pos hc1]
        refine ld (hB4.cl rfl).cell ?_
        refine int64 (by omega) (by omega) ?_
        refine int64 (by omega) (by omega) ?_
        refine st (b := p) (o := 1) hB4 (by simp) rfl fun w5 hB5 hs5 hk5 => ?_
        rw [hres]
        refine ⟨rfl, ⟨sub_p hD4 hk5 hin.apart, at' + (i + 1), by simpa [show s.2 = 0 by simpa using h0] using hB5, by omega, ?_⟩, (hk4.weak (by simp)).trans hk5 (fun x hx _ => hx)⟩
        rw [hs1, List.drop_drop]
      have hc1 : ¬ c < 128 := by have : ¬ (c : Int) < 128 := hc1
                                 omega
      refine intv ((7 * i + 7 : Nat) : Int) (by rw [IntWalk.i64_in _ (by omega)]; omega) ?_
      refine br_dec (fun h63 => ?_) (fun _ => ?_)
      · exact absurd h63 (by omega)
      refine u64n (d) (by omega) (by omega) ?_
      refine intv ((7 * i + 7 : Nat) : Int) (by rw [IntWalk.i64_in _ (by omega)]; omega) ?_
      refine shl64 (x := 1) (n := 7 * i + 7) pw2 (by omega) (by rw [Nat.pow_add, h2p]; omega) ?_
      conv => whnf
      refine br_dec (fun hlt2 => ?_) (fun hlt2 => ?_)
      · have hlt2 : ((d : Nat) : Int) < ((pw2 : Nat) : Int) := hlt2
        refine st hB4 (by simp) rfl fun w5 hB5 hs5 hk5 => ?_
        exact err3 (by rw [hnx, hst, if_neg (by omega), if_neg hc1, if_pos (by omega)]) w5 hB5 hk5
      have hlt2 : ¬ ((d : Nat) : Int) < ((pw2 : Nat) : Int) := hlt2
      refine int64 (by omega) (by omega) ?_
      refine ⟨(i + 1, m), by simp only; omega, rfl, ⟨rfl, rfl, rfl, rfl, rfl, rfl, trivial⟩, hlt, hk4, ?_, .inr ?_⟩
      · simp only
        rw [hnx, hst, if_neg (by omega), if_neg hc1, if_neg (by omega)]
      · simp only
        rw [Nat.pow_succ, hpw, hpw2]
        omega
  · refine st hB4 (by simp) rfl fun w5 hB5 hs5 hk5 => ?_
    have he : nx most 0 0 s.1 = .error 4 := by
      rw [hnx, List.drop_eq_nil_of_le (by omega)]
      rfl
    rw [num_err (by simpa using h0) he]
    exact ⟨rfl, ⟨sub_p hD4 hk5 hin.apart, at', hB5, hat, hs1⟩, (hk4.weak (by simp)).trans hk5 (fun x hx _ => hx)⟩

theorem Num_ct (hin : Rin D p ab cb bs) (h : Rdr D p ab cb bs s w) (most : Nat) (hm : most ≤ 1048576) :
    CallOk Try.prog 61 ∧ Calls Try.prog 61 #[.pointer (some ⟨p, 0, none⟩), .int .i64 (most : Int)] w (fun e w' => e = .returned (.int .i64 ((numM most s).1 : Int)) ∧ Rdr D p ab cb bs (numM most s).2 w' ∧ Kp [p] w w') := by
  refine ⟨⟨_, Try.func61, rfl, by decide⟩, ?_⟩
  refine calls_of (args := [_, _]) 20 [.tmp 4] τok Try.func61 rfl rfl rfl (Nat.le_of_ble_eq_true rfl) ?_
  refine u64n most (by omega) rfl ?_
  refine ev_call (next_ct hin h most hm) ?_
  rintro e w1 ⟨rfl, hR, hk1⟩
  have := num_le most s
  refine int64 (by omega) (by omega) ?_
  exact ⟨rfl, hR, hk1⟩

theorem err_ct (h : Rdr D p ab cb bs s w) : CallOk Try.prog 42 ∧ Calls Try.prog 42 #[.pointer (some ⟨p, 0, none⟩)] w (fun e w' => e = .returned (.int .i64 s.2) ∧ Kp [] w w') := by
  refine ⟨⟨_, Try.func42, rfl, by decide⟩, ?_⟩
  obtain ⟨hS, at', hB, hat, hs⟩ := h
  refine calls_of (args := [_]) 7 [.tmp 2] τok Try.func42 rfl rfl rfl (Nat.le_of_ble_eq_true rfl) ?_
  refine ld (hB.cl rfl).cell ?_
  exact ⟨rfl, Kp.refl _ _⟩

theorem Left_ct (hin : Rin D p ab cb bs) (h : Rdr D p ab cb bs s w) : CallOk Try.prog 43 ∧ Calls Try.prog 43 #[.pointer (some ⟨p, 0, none⟩)] w (fun e w' => e = .returned (.int .i64 s.1.length) ∧ Kp [] w w') := by
  refine ⟨⟨_, Try.func43, rfl, by decide⟩, ?_⟩
  refine calls_of (args := [_]) 8 [.tmp 2] τok Try.func43 rfl rfl rfl (Nat.le_of_ble_eq_true rfl) ?_
  refine ev_call (left_ct hin h) ?_
  rintro e w1 ⟨a', cap', rfl, hSl, hk1⟩
  exact ⟨rfl, hk1⟩

theorem rnum_ct (hin : Rin D p ab cb bs) (h : Rdr D p ab cb bs s w) : CallOk Try.prog 35 ∧ Calls Try.prog 35 #[.agg #[.pointer (some ⟨p, 0, none⟩)]] w (fun e w' => e = .returned (.int .i64 ((numM 1048576 s).1 : Int)) ∧ Rdr D p ab cb bs (numM 1048576 s).2 w' ∧ Kp [p] w w') := by
  refine ⟨⟨_, Try.func35, rfl, by decide⟩, ?_⟩
  refine calls_of (args := [_]) 6 [.tmp 2] τok Try.func35 rfl rfl rfl (Nat.le_of_ble_eq_true rfl) ?_
  refine new fun b1 w1 hb1 hB1 hs1 hk1 => ?_
  refine ld (hB1.cl rfl).cell ?_
  refine ev_call (Num_ct hin (h.kp hk1) 1048576 (Nat.le_refl _)) ?_
  rintro e w2 ⟨rfl, hR, hk2⟩
  exact ⟨rfl, hR, (hk1.weak (by simp)).trans hk2 (fun x hx _ => hx)⟩
end
end Go.Proofs.Ytjogpbiilokldaa
