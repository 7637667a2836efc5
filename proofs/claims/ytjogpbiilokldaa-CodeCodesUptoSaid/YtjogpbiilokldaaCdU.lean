/-
  Code: CodeStraight.
-/
import Derived.Test.YtjogpbiilokldaaCdT
set_option linter.unusedSimpArgs false
set_option linter.unusedVariables false
namespace Go.Wx
section
variable {P : Program} {k : Value → World → Prop} {t : TypeId} {w : World}
theorem rem8 {x y : Nat} (z : Nat) (hy : 0 < y) (hz : x % y = z) (h : k (.int .u8 (z : Int)) w) : EvRun P (binOp .rem t (.int .u8 (x : Int)) (.int .u8 (y : Int))) w k := by
  subst hz
  refine run ?_ h
  simp [binOp_rem, Op.intDiv, Int.tmod_eq_emod_of_nonneg (Int.natCast_nonneg x), show ¬ y = 0 by omega]
theorem quo8 {x y : Nat} (z : Nat) (hx : x < 256) (hy : 0 < y) (hz : x / y = z) (h : k (.int .u8 (z : Int)) w) : EvRun P (binOp .quo t (.int .u8 (x : Int)) (.int .u8 (y : Int))) w k := by
  subst hz
  refine run ?_ h
  have h1 : x / y ≤ x := Nat.div_le_self _ _
  have hw : IntKind.wrap .u8 ((x : Int) / (y : Int)) = (x : Int) / (y : Int) := by
    rw [← Int.natCast_ediv]
    obtain ⟨q, hq⟩ : ∃ q, x / y = q := ⟨_, rfl⟩
    rw [hq] at h1 ⊢
    exact wrap8 (by omega) (by omega)
  simp [binOp_quo, Op.intDiv, Int.tdiv_eq_ediv_of_nonneg (Int.natCast_nonneg x), hw, show ¬ y = 0 by omega]
end
end Go.Wx

namespace Go.Proofs.Ytjogpbiilokldaa
open Go.Wx Cd

theorem codeStraight_ct {C : Mem} {w : World} (hS : Sub C w) (l : List Nat) (a : Option Addr) (cap : Nat) (hl : l.length ≤ 2000 → Sl rU8 C a l) :
    Calls Try.prog 6 #[.slice a l.length cap] w (fun e w' => e = .returned (.bool true) ∧ Kp [] w w') := by
  refine calls_of (args := [_]) 123 [.tmp 2] τok Try.func6 rfl rfl rfl (Nat.le_of_ble_eq_true rfl) ?_
  refine ev_call (awake_ct w) ?_
  rintro e w1 ⟨rfl, hk1⟩
  refine br_dec (fun g1 => ?_) (fun g1 => ?_)
  · exact ⟨rfl, hk1⟩
  have hl2 : l.length ≤ 2000 := by omega
  have hl := hl hl2
  obtain ⟨TOT, hTOT⟩ : ∃ t, strM l 0 = t := ⟨_, rfl⟩
  refine lp τok (σ := Nat × Value × Int × Bool) (fun q => [(0, .slice a l.length cap), (3, q.2.1), (4, .int .i64 q.2.2.1), (5, .bool q.2.2.2), (6, .int .i64 q.1)])
    (fun q w' => q.1 ≤ l.length ∧ Own rIns 45 w1.heap.size w' q.2.1 ((l.take q.1).map insS) ∧ Kp [] w1 w' ∧ (-(3 * (q.1 : Int)) ≤ q.2.2.1 ∧ q.2.2.1 ≤ q.1) ∧ TOT = (q.2.2.2 && strM (l.drop q.1) q.2.2.1)) (fun q => l.length - q.1)
    (0, .slice none 0 0, 0, true) rfl ⟨rfl, rfl, rfl, rfl, rfl, trivial⟩ ⟨Nat.zero_le _, by simpa using Own.nil rIns 45 (Nat.le_refl _), Kp.refl _ _, by simp, by simpa using hTOT.symm⟩ ?_
  rintro ⟨k, v, h, ok⟩ w2 ⟨hk, hO, hkp, hb, hT⟩
  simp only at hk hO hb hT
  have htl : ((l.take k).map insS).length = k := by simp; omega
  refine br_dec (fun h1 => ?_) (fun h1 => ?_)
  · have hlt : k < l.length := by omega
    obtain ⟨x, hx, hd⟩ := drop_get hlt
    have htk : (l.take (k + 1)).map insS = (l.take k).map insS ++ [insS x] := by rw [take_get hx]; simp
    rw [hd] at hT
    simp only [strM] at hT
    have hS2 := (hS.tr hk1).tr hkp
    obtain ⟨b, o, rfl, hcell, hx256⟩ := hl.u8 hx
    refine ix k rfl hlt ?_
    (repeat first | refine ldC ‹Sub _ _› (by assumption) ?_ | refine ld (Cl.cell (by first | assumption | exact Bk.cl (by assumption) rfl)) ?_ | refine ldK (by first | assumption | exact Bk.cl (by assumption) rfl | exact ‹Sub _ _› _ _ _ (by assumption)) ?_)
    obtain ⟨r, hr⟩ : ∃ r, x % 5 = r := ⟨_, rfl⟩
    have hr5 : r < 5 := by omega
    refine rem8 (x := x) (y := 5) r (by omega) hr ?_
    refine br_dec (fun c0 => ?_) (fun c0 => ?_)
    · have c0 : (r : Int) = 0 := c0
      refine br_dec (fun _ => ?_) (fun cn => ?_)
      rotate_left
      · exact absurd c0 cn
      have hx01 : x % 5 = 0 ∨ x % 5 = 1 := .inl (by omega)
      have hbox : insS x = ⟨1, 0, 0, []⟩ := by unfold insS; rw [if_pos hx01]
      refine fill [.int .i64 1, .int .i64 0, .int .i64 0, .slice none 0 0] rfl ?_
      refine new fun b3 w3 hb3 hB3 hs3 hk3 => ?_
      refine (hO.kp hk3).ap1 τok rfl rfl (by decide) (insS x) [.int .i64 1, .int .i64 0, .int .i64 0, .slice none 0 0] (by rw [hbox]; exact ⟨none, 0, rfl, Sl.nil _ _ _, by simp [I64]⟩) (fun j u hj => by rw [Nat.zero_add]; exact hB3.cl hj) (by rw [htl]; omega) (by rw [htl]; simp only [maxLen]; omega) fun v' w4 hO4 hk4 _ => ?_
      have hkp4 : Kp [] w1 w4 := (hkp.tr hk3).own hk4 (hO.kp hk3)
      have hO4 : Own rIns 45 (w1.heap.size) w4 v' ((l.take (k + 1)).map insS) := by rw [htk]; exact hO4
      refine int64 (by (try simp only); omega) (by (try simp only); omega) ?_
      refine int64 (by (try simp only); omega) (by (try simp only); omega) ?_
      refine ⟨(k + 1, v', h + 1, ok), by simp only; omega, rfl, ⟨rfl, rfl, rfl, rfl, rfl, trivial⟩, hlt, hO4, hkp4, by simp only; omega, ?_⟩
      simp only
      rw [hT, condS, if_pos hx01, Bool.true_and, stepS, if_pos hx01]
    have c0 : ¬ (r : Int) = 0 := c0
    refine br_dec (fun c1 => ?_) (fun c1 => ?_)
    · have c1 : (r : Int) = 1 := c1
      have hx01 : x % 5 = 0 ∨ x % 5 = 1 := .inr (by omega)
      have hbox : insS x = ⟨1, 0, 0, []⟩ := by unfold insS; rw [if_pos hx01]
      refine fill [.int .i64 1, .int .i64 0, .int .i64 0, .slice none 0 0] rfl ?_
      refine new fun b3 w3 hb3 hB3 hs3 hk3 => ?_
      refine (hO.kp hk3).ap1 τok rfl rfl (by decide) (insS x) [.int .i64 1, .int .i64 0, .int .i64 0, .slice none 0 0] (by rw [hbox]; exact ⟨none, 0, rfl, Sl.nil _ _ _, by simp [I64]⟩) (fun j u hj => by rw [Nat.zero_add]; exact hB3.cl hj) (by rw [htl]; omega) (by rw [htl]; simp only [maxLen]; omega) fun v' w4 hO4 hk4 _ => ?_
      have hkp4 : Kp [] w1 w4 := (hkp.tr hk3).own hk4 (hO.kp hk3)
      have hO4 : Own rIns 45 (w1.heap.size) w4 v' ((l.take (k + 1)).map insS) := by rw [htk]; exact hO4
      refine int64 (by (try simp only); omega) (by (try simp only); omega) ?_
      refine int64 (by (try simp only); omega) (by (try simp only); omega) ?_
      refine ⟨(k + 1, v', h + 1, ok), by simp only; omega, rfl, ⟨rfl, rfl, rfl, rfl, rfl, trivial⟩, hlt, hO4, hkp4, by simp only; omega, ?_⟩
      simp only
      rw [hT, condS, if_pos hx01, Bool.true_and, stepS, if_pos hx01]
    have c1 : ¬ (r : Int) = 1 := c1
    have hx01 : ¬ (x % 5 = 0 ∨ x % 5 = 1) := by omega
    refine br_dec (fun c2 => ?_) (fun c2 => ?_)
    · have c2 : (r : Int) = 2 := c2
      have hx2 : x % 5 = 2 := by omega
      have hbox : insS x = ⟨5, 0, 0, []⟩ := by unfold insS; rw [if_neg hx01, if_pos hx2]
      have hcs : condS x h = decide (2 ≤ h) := by unfold condS; rw [if_neg hx01, if_pos hx2]
      have hst : stepS x h = h - 1 := by unfold stepS; rw [if_neg hx01, if_pos hx2]
      rw [hcs, hst] at hT
      refine fill [.int .i64 5, .int .i64 0, .int .i64 0, .slice none 0 0] rfl ?_
      refine new fun b3 w3 hb3 hB3 hs3 hk3 => ?_
      refine (hO.kp hk3).ap1 τok rfl rfl (by decide) (insS x) [.int .i64 5, .int .i64 0, .int .i64 0, .slice none 0 0] (by rw [hbox]; exact ⟨none, 0, rfl, Sl.nil _ _ _, by simp [I64]⟩) (fun j u hj => by rw [Nat.zero_add]; exact hB3.cl hj) (by rw [htl]; omega) (by rw [htl]; simp only [maxLen]; omega) fun v' w4 hO4 hk4 _ => ?_
      have hkp4 : Kp [] w1 w4 := (hkp.tr hk3).own hk4 (hO.kp hk3)
      have hO4 : Own rIns 45 (w1.heap.size) w4 v' ((l.take (k + 1)).map insS) := by rw [htk]; exact hO4
      refine br (fun b1 => ?_) (fun b1 => ?_)
      · have b1 : ok = true := b1
        refine int64 (by (try simp only); omega) (by (try simp only); omega) ?_
        refine int64 (by (try simp only); omega) (by (try simp only); omega) ?_
        exact ⟨(k + 1, v', h - 1, decide (2 ≤ h)), by simp only; omega, rfl, ⟨rfl, rfl, rfl, rfl, rfl, trivial⟩, hlt, hO4, hkp4, by simp only; omega, by simp only; rw [hT, b1, Bool.true_and]⟩
      · have b1 : ok = false := b1
        refine int64 (by (try simp only); omega) (by (try simp only); omega) ?_
        refine int64 (by (try simp only); omega) (by (try simp only); omega) ?_
        exact ⟨(k + 1, v', h - 1, false), by simp only; omega, rfl, ⟨rfl, rfl, rfl, rfl, rfl, trivial⟩, hlt, hO4, hkp4, by simp only; omega, by simp only; rw [hT, b1]; rfl⟩
    have c2 : ¬ (r : Int) = 2 := c2
    have hx2 : ¬ x % 5 = 2 := by omega
    refine br_dec (fun c3 => ?_) (fun c3 => ?_)
    · have c3 : (r : Int) = 3 := c3
      have hx3 : x % 5 = 3 := by omega
      obtain ⟨d, hd5⟩ : ∃ d, x / 5 = d := ⟨_, rfl⟩
      obtain ⟨m, hm⟩ : ∃ m, d % 3 = m := ⟨_, rfl⟩
      have hd51 : d < 52 := by omega
      have hm3 : m < 3 := by omega
      have hdm : x / 5 % 3 = m := by rw [hd5, hm]
      have hbox : insS x = ⟨14, 1 + (m : Int), 0, []⟩ := by unfold insS; rw [if_neg hx01, if_neg hx2, if_pos hx3, hdm]
      have hcs : condS x h = decide (2 + (m : Int) ≤ h) := by unfold condS; rw [if_neg hx01, if_neg hx2, if_pos hx3, hdm]
      have hst : stepS x h = h - 1 - (m : Int) := by unfold stepS; rw [if_neg hx01, if_neg hx2, if_pos hx3, hdm]
      rw [hcs, hst] at hT
      refine ix k rfl hlt ?_
      (repeat first | refine ldC ‹Sub _ _› (by assumption) ?_ | refine ld (Cl.cell (by first | assumption | exact Bk.cl (by assumption) rfl)) ?_ | refine ldK (by first | assumption | exact Bk.cl (by assumption) rfl | exact ‹Sub _ _› _ _ _ (by assumption)) ?_)
      refine quo8 (x := x) (y := 5) d hx256 (by omega) hd5 ?_
      refine int64 (by (try simp only); omega) (by (try simp only); omega) ?_
      have hrem : ∀ w', (binOp .rem 3 (.int .i64 (d : Int)) (.int .i64 3)).run Try.prog w' = .ok (.int .i64 (m : Int)) w' := fun w' => by
        rw [rem_run' (by omega) (by omega), ← hm]
        simp
      refine run (hrem _) ?_
      refine int64 (by (try simp only); omega) (by (try simp only); omega) ?_
      refine fill [.int .i64 14, .int .i64 (1 + (m : Int)), .int .i64 0, .slice none 0 0] rfl ?_
      refine new fun b3 w3 hb3 hB3 hs3 hk3 => ?_
      refine (hO.kp hk3).ap1 τok rfl rfl (by decide) (insS x) [.int .i64 14, .int .i64 (1 + (m : Int)), .int .i64 0, .slice none 0 0] (by rw [hbox]; exact ⟨none, 0, rfl, Sl.nil _ _ _, by simp [I64]; omega⟩) (fun j u hj => by rw [Nat.zero_add]; exact hB3.cl hj) (by rw [htl]; omega) (by rw [htl]; simp only [maxLen]; omega) fun v' w4 hO4 hk4 _ => ?_
      have hkp4 : Kp [] w1 w4 := (hkp.tr hk3).own hk4 (hO.kp hk3)
      have hO4 : Own rIns 45 (w1.heap.size) w4 v' ((l.take (k + 1)).map insS) := by rw [htk]; exact hO4
      refine br (fun b1 => ?_) (fun b1 => ?_)
      · have b1 : ok = true := b1
        have hS4 := (hS.tr hk1).tr hkp4
        refine ix k rfl hlt ?_
        (repeat first | refine ldC ‹Sub _ _› (by assumption) ?_ | refine ld (Cl.cell (by first | assumption | exact Bk.cl (by assumption) rfl)) ?_ | refine ldK (by first | assumption | exact Bk.cl (by assumption) rfl | exact ‹Sub _ _› _ _ _ (by assumption)) ?_)
        refine quo8 (x := x) (y := 5) d hx256 (by omega) hd5 ?_
        refine int64 (by (try simp only); omega) (by (try simp only); omega) ?_
        refine run (hrem _) ?_
        refine int64 (by (try simp only); omega) (by (try simp only); omega) ?_
        refine int64 (by (try simp only); omega) (by (try simp only); omega) ?_
        refine ix k rfl hlt ?_
        (repeat first | refine ldC ‹Sub _ _› (by assumption) ?_ | refine ld (Cl.cell (by first | assumption | exact Bk.cl (by assumption) rfl)) ?_ | refine ldK (by first | assumption | exact Bk.cl (by assumption) rfl | exact ‹Sub _ _› _ _ _ (by assumption)) ?_)
        refine quo8 (x := x) (y := 5) d hx256 (by omega) hd5 ?_
        refine int64 (by (try simp only); omega) (by (try simp only); omega) ?_
        refine run (hrem _) ?_
        refine int64 (by (try simp only); omega) (by (try simp only); omega) ?_
        refine int64 (by (try simp only); omega) (by (try simp only); omega) ?_
        exact ⟨(k + 1, v', h - 1 - (m : Int), decide (2 + (m : Int) ≤ h)), by simp only; omega, rfl, ⟨rfl, rfl, rfl, rfl, rfl, trivial⟩, hlt, hO4, hkp4, by simp only; omega, by simp only; rw [hT, b1, Bool.true_and]⟩
      · have b1 : ok = false := b1
        refine int64 (by (try simp only); omega) (by (try simp only); omega) ?_
        have hS4 := (hS.tr hk1).tr hkp4
        refine ix k rfl hlt ?_
        (repeat first | refine ldC ‹Sub _ _› (by assumption) ?_ | refine ld (Cl.cell (by first | assumption | exact Bk.cl (by assumption) rfl)) ?_ | refine ldK (by first | assumption | exact Bk.cl (by assumption) rfl | exact ‹Sub _ _› _ _ _ (by assumption)) ?_)
        refine quo8 (x := x) (y := 5) d hx256 (by omega) hd5 ?_
        refine int64 (by (try simp only); omega) (by (try simp only); omega) ?_
        refine run (hrem _) ?_
        refine int64 (by (try simp only); omega) (by (try simp only); omega) ?_
        refine int64 (by (try simp only); omega) (by (try simp only); omega) ?_
        exact ⟨(k + 1, v', h - 1 - (m : Int), false), by simp only; omega, rfl, ⟨rfl, rfl, rfl, rfl, rfl, trivial⟩, hlt, hO4, hkp4, by simp only; omega, by simp only; rw [hT, b1]; rfl⟩
    have c3 : ¬ (r : Int) = 3 := c3
    have hx3 : ¬ x % 5 = 3 := by omega
    obtain ⟨d, hd5⟩ : ∃ d, x / 5 = d := ⟨_, rfl⟩
    obtain ⟨m, hm⟩ : ∃ m, d % 4 = m := ⟨_, rfl⟩
    have hd51 : d < 52 := by omega
    have hm3 : m < 4 := by omega
    have hdm : x / 5 % 4 = m := by rw [hd5, hm]
    have hbox : insS x = ⟨3, (m : Int), 0, []⟩ := by unfold insS; rw [if_neg hx01, if_neg hx2, if_neg hx3, hdm]
    have hcs : condS x h = decide ((m : Int) < h) := by unfold condS; rw [if_neg hx01, if_neg hx2, if_neg hx3, hdm]
    have hst : stepS x h = h + 1 := by unfold stepS; rw [if_neg hx01, if_neg hx2, if_neg hx3]
    rw [hcs, hst] at hT
    have hrem : ∀ w', (binOp .rem 3 (.int .i64 (d : Int)) (.int .i64 4)).run Try.prog w' = .ok (.int .i64 (m : Int)) w' := fun w' => by
      rw [rem_run' (by omega) (by omega), ← hm]
      simp
    refine ix k rfl hlt ?_
    (repeat first | refine ldC ‹Sub _ _› (by assumption) ?_ | refine ld (Cl.cell (by first | assumption | exact Bk.cl (by assumption) rfl)) ?_ | refine ldK (by first | assumption | exact Bk.cl (by assumption) rfl | exact ‹Sub _ _› _ _ _ (by assumption)) ?_)
    refine quo8 (x := x) (y := 5) d hx256 (by omega) hd5 ?_
    refine int64 (by (try simp only); omega) (by (try simp only); omega) ?_
    refine run (hrem _) ?_
    refine fill [.int .i64 3, .int .i64 (m : Int), .int .i64 0, .slice none 0 0] rfl ?_
    refine new fun b3 w3 hb3 hB3 hs3 hk3 => ?_
    refine (hO.kp hk3).ap1 τok rfl rfl (by decide) (insS x) [.int .i64 3, .int .i64 (m : Int), .int .i64 0, .slice none 0 0] (by rw [hbox]; exact ⟨none, 0, rfl, Sl.nil _ _ _, by simp [I64]; omega⟩) (fun j u hj => by rw [Nat.zero_add]; exact hB3.cl hj) (by rw [htl]; omega) (by rw [htl]; simp only [maxLen]; omega) fun v' w4 hO4 hk4 _ => ?_
    have hkp4 : Kp [] w1 w4 := (hkp.tr hk3).own hk4 (hO.kp hk3)
    have hO4 : Own rIns 45 (w1.heap.size) w4 v' ((l.take (k + 1)).map insS) := by rw [htk]; exact hO4
    refine br (fun b1 => ?_) (fun b1 => ?_)
    · have b1 : ok = true := b1
      have hS4 := (hS.tr hk1).tr hkp4
      refine ix k rfl hlt ?_
      (repeat first | refine ldC ‹Sub _ _› (by assumption) ?_ | refine ld (Cl.cell (by first | assumption | exact Bk.cl (by assumption) rfl)) ?_ | refine ldK (by first | assumption | exact Bk.cl (by assumption) rfl | exact ‹Sub _ _› _ _ _ (by assumption)) ?_)
      refine quo8 (x := x) (y := 5) d hx256 (by omega) hd5 ?_
      refine int64 (by (try simp only); omega) (by (try simp only); omega) ?_
      refine run (hrem _) ?_
      refine int64 (by (try simp only); omega) (by (try simp only); omega) ?_
      refine int64 (by (try simp only); omega) (by (try simp only); omega) ?_
      exact ⟨(k + 1, v', h + 1, decide ((m : Int) < h)), by simp only; omega, rfl, ⟨rfl, rfl, rfl, rfl, rfl, trivial⟩, hlt, hO4, hkp4, by simp only; omega, by simp only; rw [hT, b1, Bool.true_and]⟩
    · have b1 : ok = false := b1
      refine int64 (by (try simp only); omega) (by (try simp only); omega) ?_
      refine int64 (by (try simp only); omega) (by (try simp only); omega) ?_
      exact ⟨(k + 1, v', h + 1, false), by simp only; omega, rfl, ⟨rfl, rfl, rfl, rfl, rfl, trivial⟩, hlt, hO4, hkp4, by simp only; omega, by simp only; rw [hT, b1]; rfl⟩
  · have htake : l.take k = l := List.take_of_length_le (by omega)
    rw [htake] at hO htl
    rw [List.drop_eq_nil_of_le (by omega)] at hT
    have hT : TOT = (ok && decide (h = 1)) := hT
    refine fill [.int .i64 6, .int .i64 0, .int .i64 0, .slice none 0 0] rfl ?_
    refine new fun b3 w3 hb3 hB3 hs3 hk3 => ?_
    refine (hO.kp hk3).ap1 τok rfl rfl (by decide) insR [.int .i64 6, .int .i64 0, .int .i64 0, .slice none 0 0] ⟨none, 0, rfl, Sl.nil _ _ _, by simp [I64, insR]⟩ (fun j u hj => by rw [Nat.zero_add]; exact hB3.cl hj) (by rw [htl]; omega) (by rw [htl]; simp only [maxLen]; omega) fun v' w4 hO4 hk4 _ => ?_
    have hkp4 : Kp [] w1 w4 := (hkp.tr hk3).own hk4 (hO.kp hk3)
    have hml : (l.map insS ++ [insR]).length = l.length + 1 := by simp
    obtain ⟨am, cm, rfl, hSm⟩ := hO4.den (by omega)
    have hden : rCod.den (New w1.heap.size w4) [.int .i64 (-1), .slice none 0 0, .slice none 0 0, .slice none 0 0, .slice am (l.map insS ++ [insR]).length cm] (codS l) := cod_main hSm
    have c5 := check_ct (New.sub _ w4) hden
    rw [checkS l hl2, hTOT] at c5
    refine ev_call c5 ?_
    rintro e w5 ⟨rfl, hk5⟩
    have hk05 := (hk1.tr hkp4).tr hk5
    refine br (fun b1 => ?_) (fun b1 => ?_)
    · have b1 : ok = true := b1
      refine br_dec (fun b2 => ?_) (fun b2 => ?_)
      · have b2 : h = 1 := b2
        refine ⟨?_, hk05⟩
        rw [hT, b1, decide_eq_true b2]
        rfl
      · have b2 : ¬ h = 1 := b2
        refine ⟨?_, hk05⟩
        rw [hT, b1, decide_eq_false b2]
        rfl
    · have b1 : ok = false := b1
      refine ⟨?_, hk05⟩
      rw [hT, b1]
      rfl
end Go.Proofs.Ytjogpbiilokldaa
