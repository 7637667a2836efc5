/-
  Own texts put together: FlA, FlB, CdI.
-/
import Derived.Test.YtjpdkcejkogciaaDoorMg06
/-
  Package close: the reader of flat rows; Right.
-/
set_option linter.unusedSimpArgs false
set_option linter.unusedVariables false
namespace Go.Proofs.YtjpdkcejkogciaaDoor
open Go.Wx Cd

theorem cin_ct (n lo hi : Int) (w : World) : CallOk Tryd.prog 34 ∧ Calls Tryd.prog 34 #[.int .i64 n, .int .i64 lo, .int .i64 hi] w (fun e w' => e = .returned (.bool (inM n lo hi)) ∧ Kp [] w w') := by
  refine ⟨⟨_, Tryd.func34, rfl, by decide⟩, ?_⟩
  refine calls_of (args := [_, _, _]) 15 [.tmp 6] τok Tryd.func34 rfl rfl rfl (Nat.le_of_ble_eq_true rfl) ?_
  refine br_dec (fun h => ?_) (fun h => ?_)
  · exact ⟨by simp [one, inM, h], Kp.refl _ _⟩
  · exact ⟨by simp [one, inM, h], Kp.refl _ _⟩

theorem flt_cells {C : Mem} {b : Nat} {p : Flt} (h : rFlt.At C b 0 p) : ∃ a1 c1 a2 c2 a3 c3, C b 0 (.slice a1 p.funs.length c1) ∧ C b 1 (.slice a2 p.bodies.length c2) ∧ C b 2 (.slice a3 p.main.length c3) ∧ Sl rFfn C a1 p.funs ∧ Sl (rSk rNd) C a2 p.bodies ∧ Sl rNd C a3 p.main ∧ p.main.length ≤ c3 := by
  obtain ⟨cs, ⟨a1, c1, a2, c2, a3, c3, rfl, h1, h2, h3, h4⟩, hc⟩ := h
  simp only [Nat.zero_add] at hc
  exact ⟨a1, c1, a2, c2, a3, c3, hc 0 _ rfl, hc 1 _ rfl, hc 2 _ rfl, h1, h2, h3, h4⟩

/-- a reader of a row: what it is given -/
structure RdF (C : Mem) (p : Flt) (bp rb : Nat) (ta : Option Addr) (t : List Nd) : Prop where
  flt : rFlt.At C bp 0 p
  row : Sl rNd C ta t
  apart : ∀ b o v, C b o v → b ≠ rb
  caps : CapsOk p
/-- a reader of a row: how it stands -/
structure RdS (C : Mem) (bp rb : Nat) (ta : Option Addr) (len tc : Nat) (k : Nat) (w : World) : Prop where
  sub : Sub C w
  blk : Bk w.heap rb [.pointer (some ⟨bp, 0, none⟩), .slice ta len tc, .int .i64 k] 107
theorem RdS.kp {C : Mem} {bp rb : Nat} {ta : Option Addr} {len tc k : Nat} {w w' : World} (h : RdS C bp rb ta len tc k w) (k' : Kp [] w w') : RdS C bp rb ta len tc k w' := ⟨h.sub.tr k', h.blk.kp k' (by simp)⟩

def NdPost (p : Flt) (tk : Int) (n : Nd) (w : World) (r : Ending) (w' : World) : Prop :=
  ∃ c ok, r = .returned (.tuple #[.int .i64 c, .bool ok]) ∧ Kp [] w w' ∧ match ndF p tk n with
    | some k => ok = true ∧ c = k
    | none => ok = false
theorem nd_post {p : Flt} {tk : Int} {n : Nd} {w w' : World} {c : Int} {ok : Bool} (hk : Kp [] w w') (e : ndF p tk n = if ok then some c else none) : NdPost p tk n w (.returned (one [.int .i64 c, .bool ok])) w' := by
  refine ⟨c, ok, rfl, hk, ?_⟩
  rw [e]
  cases ok <;> simp

theorem node_ct {C : Mem} {p : Flt} {bp rb : Nat} {ta : Option Addr} {t : List Nd} {tc k : Nat} {w : World} (hi : RdF C p bp rb ta t) (hs : RdS C bp rb ta t.length tc k w) (n : Nd) (tk : Int) (htk : 0 ≤ tk) (hlt : tk ≤ 1099511627776) (na : I64 n.a) (nb : I64 n.b) :
    CallOk Tryd.prog 80 ∧ Calls Tryd.prog 80 #[.pointer (some ⟨rb, 0, none⟩), .agg #[.int .i64 n.op, .int .i64 n.a, .int .i64 n.b], .int .i64 tk] w (NdPost p tk n w) := by
  refine ⟨⟨_, Tryd.func80, rfl, by decide⟩, ?_⟩
  refine calls_ev (args := [_, _, _]) 166 [.tmp 6, .tmp 7] Tryd.func80 rfl rfl rfl (Nat.le_of_ble_eq_true rfl) ?_
  obtain ⟨a1, c1, a2, c2, a3, c3, k0, k1, k2, h1, h2, h3, h4⟩ := flt_cells hi.flt
  have hs1 := h1.1
  have hs2 := h2.1
  refine ev_seq τok ?_
  refine new fun bn w1 hbn hN hsn hk1 => ?_
  have hN : Bk w1.heap bn [.int .i64 n.op, .int .i64 n.a, .int .i64 n.b] 47 := hN
  have hS : Sub C w1 := hs.sub.tr hk1
  have hB : Bk w1.heap rb [.pointer (some ⟨bp, 0, none⟩), .slice ta t.length tc, .int .i64 k] 107 := (hs.kp hk1).blk
  refine ev_mid τok (fun z : Bool => [(0, .pointer (some ⟨rb, 0, none⟩)), (2, .int .i64 tk), (4, .pointer (some ⟨bn, 0, none⟩)), (8, .bool z)]) (fun z w' => z = n.zero ∧ w1 = w') ?_ ?_
  · (repeat first | refine ldC ‹Sub _ _› (by assumption) ?_ | refine ld (Cl.cell (by first | assumption | exact Bk.cl (by assumption) rfl)) ?_ | refine ldK (by first | assumption | exact Bk.cl (by assumption) rfl | exact ‹Sub _ _› _ _ _ (by assumption)) ?_)
    refine br_dec (fun ha => ?_) (fun ha => ?_)
    · (repeat first | refine ldC ‹Sub _ _› (by assumption) ?_ | refine ld (Cl.cell (by first | assumption | exact Bk.cl (by assumption) rfl)) ?_ | refine ldK (by first | assumption | exact Bk.cl (by assumption) rfl | exact ‹Sub _ _› _ _ _ (by assumption)) ?_)
      exact ⟨_, rfl, ⟨rfl, rfl, rfl, rfl, trivial⟩, by simp [Nd.zero, ha], rfl⟩
    · exact ⟨_, rfl, ⟨rfl, rfl, rfl, rfl, trivial⟩, by simp [Nd.zero, ha], rfl⟩
  rintro _ _ ⟨rfl, rfl⟩
  refine ev_of τok ?_
  (repeat first | refine ldC ‹Sub _ _› (by assumption) ?_ | refine ld (Cl.cell (by first | assumption | exact Bk.cl (by assumption) rfl)) ?_ | refine ldK (by first | assumption | exact Bk.cl (by assumption) rfl | exact ‹Sub _ _› _ _ _ (by assumption)) ?_)
  refine br_dec (fun o1 => ?_) (fun o1 => ?_)
  · refine drawQ τok (fun w' => Kp [] w1 w') (by kernel_rfl) ((Kp.refl [] w1).dr _) ?_
    (repeat first | refine ldC ‹Sub _ _› (by assumption) ?_ | refine ld (Cl.cell (by first | assumption | exact Bk.cl (by assumption) rfl)) ?_ | refine ldK (by first | assumption | exact Bk.cl (by assumption) rfl | exact ‹Sub _ _› _ _ _ (by assumption)) ?_)
    refine int64 (by omega) (by omega) ?_
    refine callK (fun w' hk' => cin_ct _ _ _ w') ?_
    refine br (fun ht => ?_) (fun ht => ?_)
    · (repeat first | refine ldC ‹Sub _ _› (by assumption) ?_ | refine ld (Cl.cell (by first | assumption | exact Bk.cl (by assumption) rfl)) ?_ | refine ldK (by first | assumption | exact Bk.cl (by assumption) rfl | exact ‹Sub _ _› _ _ _ (by assumption)) ?_)
      intro w2 hk2
      exact nd_post (hk1.tr hk2) (by unfold ndF; rw [if_pos o1, ht, Bool.true_and])
    · intro w2 hk2
      exact nd_post (hk1.tr hk2) (by unfold ndF; rw [if_pos o1, ht, Bool.false_and])
  refine br_dec (fun o2 => ?_) (fun o2 => ?_)
  · exact nd_post hk1 (by unfold ndF; rw [if_neg o1, if_pos o2])
  refine br_dec (fun o3 => ?_) (fun o3 => ?_)
  · refine drawQ τok (fun w' => Kp [] w1 w') (by kernel_rfl) ((Kp.refl [] w1).dr _) ?_
    (repeat first | refine ldC ‹Sub _ _› (by assumption) ?_ | refine ld (Cl.cell (by first | assumption | exact Bk.cl (by assumption) rfl)) ?_ | refine ldK (by first | assumption | exact Bk.cl (by assumption) rfl | exact ‹Sub _ _› _ _ _ (by assumption)) ?_)
    refine callK (fun w' hk' => cin_ct _ _ _ w') ?_
    refine br (fun ht => ?_) (fun ht => ?_)
    · (repeat first | refine ldC ‹Sub _ _› (by assumption) ?_ | refine ld (Cl.cell (by first | assumption | exact Bk.cl (by assumption) rfl)) ?_ | refine ldK (by first | assumption | exact Bk.cl (by assumption) rfl | exact ‹Sub _ _› _ _ _ (by assumption)) ?_)
      intro w2 hk2
      exact nd_post (hk1.tr hk2) (by unfold ndF; rw [if_neg o1, if_neg o2, if_pos o3, ht, Bool.true_and])
    · intro w2 hk2
      exact nd_post (hk1.tr hk2) (by unfold ndF; rw [if_neg o1, if_neg o2, if_pos o3, ht, Bool.false_and])
  refine br_dec (fun o4 => ?_) (fun o4 => ?_)
  · refine drawQ τok (fun w' => Kp [] w1 w') (by kernel_rfl) ((Kp.refl [] w1).dr _) ?_
    (repeat first | refine ldC ‹Sub _ _› (by assumption) ?_ | refine ld (Cl.cell (by first | assumption | exact Bk.cl (by assumption) rfl)) ?_ | refine ldK (by first | assumption | exact Bk.cl (by assumption) rfl | exact ‹Sub _ _› _ _ _ (by assumption)) ?_)
    refine int64 (by omega) (by omega) ?_
    refine callK (fun w' hk' => cin_ct _ _ _ w') ?_
    refine br (fun ht => ?_) (fun ht => ?_)
    · have hin : 0 ≤ n.a ∧ n.a ≤ p.bodies.length - 1 := by simpa [inM] using ht
      obtain ⟨x, hx⟩ : ∃ x, p.bodies[n.a.toNat]? = some x := ⟨p.bodies[n.a.toNat]'(by omega), by simp⟩
      obtain ⟨b, o, rfl, a', cap, hcell, _, hsl'⟩ := h2.sk hx
      (repeat first | refine ldC ‹Sub _ _› (by assumption) ?_ | refine ld (Cl.cell (by first | assumption | exact Bk.cl (by assumption) rfl)) ?_ | refine ldK (by first | assumption | exact Bk.cl (by assumption) rfl | exact ‹Sub _ _› _ _ _ (by assumption)) ?_)
      refine ix n.a.toNat (by omega) (by omega) ?_
      (repeat first | refine ldC ‹Sub _ _› (by assumption) ?_ | refine ld (Cl.cell (by first | assumption | exact Bk.cl (by assumption) rfl)) ?_ | refine ldK (by first | assumption | exact Bk.cl (by assumption) rfl | exact ‹Sub _ _› _ _ _ (by assumption)) ?_)
      refine br_dec (fun hp => ?_) (fun hp => ?_)
      · (repeat first | refine ldC ‹Sub _ _› (by assumption) ?_ | refine ld (Cl.cell (by first | assumption | exact Bk.cl (by assumption) rfl)) ?_ | refine ldK (by first | assumption | exact Bk.cl (by assumption) rfl | exact ‹Sub _ _› _ _ _ (by assumption)) ?_)
        intro w2 hk2
        exact nd_post (hk1.tr hk2) (by unfold ndF; rw [if_neg o1, if_neg o2, if_neg o3, if_pos o4, ht, hx, Option.getD_some, decide_eq_true (show 0 < x.length by omega), Bool.true_and, Bool.true_and])
      · intro w2 hk2
        exact nd_post (hk1.tr hk2) (by unfold ndF; rw [if_neg o1, if_neg o2, if_neg o3, if_pos o4, ht, hx, Option.getD_some, decide_eq_false (show ¬ 0 < x.length by omega), Bool.true_and, Bool.false_and])
    · intro w2 hk2
      exact nd_post (hk1.tr hk2) (by unfold ndF; rw [if_neg o1, if_neg o2, if_neg o3, if_pos o4, ht, Bool.false_and, Bool.false_and])
  refine br_dec (fun o5 => ?_) (fun o5 => ?_)
  · refine drawQ τok (fun w' => Kp [] w1 w') (by kernel_rfl) ((Kp.refl [] w1).dr _) ?_
    (repeat first | refine ldC ‹Sub _ _› (by assumption) ?_ | refine ld (Cl.cell (by first | assumption | exact Bk.cl (by assumption) rfl)) ?_ | refine ldK (by first | assumption | exact Bk.cl (by assumption) rfl | exact ‹Sub _ _› _ _ _ (by assumption)) ?_)
    refine int64 (by omega) (by omega) ?_
    refine callK (fun w' hk' => cin_ct _ _ _ w') ?_
    refine br (fun ht => ?_) (fun ht => ?_)
    · have hin : 0 ≤ n.a ∧ n.a ≤ p.funs.length - 1 := by simpa [inM] using ht
      obtain ⟨x, hx⟩ : ∃ x, p.funs[n.a.toNat]? = some x := ⟨p.funs[n.a.toNat]'(by omega), by simp⟩
      obtain ⟨b, o, rfl, a', cap, _, _, hcell, _⟩ := sl_ffn h1 hx
      (repeat first | refine ldC ‹Sub _ _› (by assumption) ?_ | refine ld (Cl.cell (by first | assumption | exact Bk.cl (by assumption) rfl)) ?_ | refine ldK (by first | assumption | exact Bk.cl (by assumption) rfl | exact ‹Sub _ _› _ _ _ (by assumption)) ?_)
      refine ix n.a.toNat (by omega) (by omega) ?_
      (repeat first | refine ldC ‹Sub _ _› (by assumption) ?_ | refine ld (Cl.cell (by first | assumption | exact Bk.cl (by assumption) rfl)) ?_ | refine ldK (by first | assumption | exact Bk.cl (by assumption) rfl | exact ‹Sub _ _› _ _ _ (by assumption)) ?_)
      intro w2 hk2
      exact nd_post (hk1.tr hk2) (by unfold ndF; rw [if_neg o1, if_neg o2, if_neg o3, if_neg o4, if_pos o5, ht, Bool.true_and, hx]; simp)
    · intro w2 hk2
      exact nd_post (hk1.tr hk2) (by unfold ndF; rw [if_neg o1, if_neg o2, if_neg o3, if_neg o4, if_pos o5, ht, Bool.false_and])
  refine br_dec (fun o6 => ?_) (fun o6 => ?_)
  · refine br_yes o6 ?_
    exact nd_post hk1 (by unfold ndF; rw [if_neg o1, if_neg o2, if_neg o3, if_neg o4, if_neg o5, if_pos o6])
  refine br_dec (fun o7 => ?_) (fun o7 => ?_)
  · exact nd_post hk1 (by unfold ndF; rw [if_neg o1, if_neg o2, if_neg o3, if_neg o4, if_neg o5, if_neg o6, if_pos o7])
  refine br_dec (fun o8 => ?_) (fun o8 => ?_)
  · refine drawQ τok (fun w' => Kp [] w1 w') (by kernel_rfl) ((Kp.refl [] w1).dr _) ?_
    (repeat first | refine ldC ‹Sub _ _› (by assumption) ?_ | refine ld (Cl.cell (by first | assumption | exact Bk.cl (by assumption) rfl)) ?_ | refine ldK (by first | assumption | exact Bk.cl (by assumption) rfl | exact ‹Sub _ _› _ _ _ (by assumption)) ?_)
    refine callK (fun w' hk' => cin_ct _ _ _ w') ?_
    refine br (fun ht => ?_) (fun ht => ?_)
    · (repeat first | refine ldC ‹Sub _ _› (by assumption) ?_ | refine ld (Cl.cell (by first | assumption | exact Bk.cl (by assumption) rfl)) ?_ | refine ldK (by first | assumption | exact Bk.cl (by assumption) rfl | exact ‹Sub _ _› _ _ _ (by assumption)) ?_)
      refine callK (fun w' hk' => cin_ct _ _ _ w') ?_
      intro w2 hk2
      exact nd_post (hk1.tr hk2) (by unfold ndF; rw [if_neg o1, if_neg o2, if_neg o3, if_neg o4, if_neg o5, if_neg o6, if_neg o7, if_pos o8, ht, Bool.true_and])
    · intro w2 hk2
      exact nd_post (hk1.tr hk2) (by unfold ndF; rw [if_neg o1, if_neg o2, if_neg o3, if_neg o4, if_neg o5, if_neg o6, if_neg o7, if_pos o8, ht, Bool.false_and])
  refine br_dec (fun o9 => ?_) (fun o9 => ?_)
  · refine drawQ τok (fun w' => Kp [] w1 w') (by kernel_rfl) ((Kp.refl [] w1).dr _) ?_
    (repeat first | refine ldC ‹Sub _ _› (by assumption) ?_ | refine ld (Cl.cell (by first | assumption | exact Bk.cl (by assumption) rfl)) ?_ | refine ldK (by first | assumption | exact Bk.cl (by assumption) rfl | exact ‹Sub _ _› _ _ _ (by assumption)) ?_)
    obtain ⟨z, hz⟩ : ∃ z, IntKind.wrap .i64 (1 + n.b) = z := ⟨_, rfl⟩
    refine intv z hz ?_
    (repeat first | refine ldC ‹Sub _ _› (by assumption) ?_ | refine ld (Cl.cell (by first | assumption | exact Bk.cl (by assumption) rfl)) ?_ | refine ldK (by first | assumption | exact Bk.cl (by assumption) rfl | exact ‹Sub _ _› _ _ _ (by assumption)) ?_)
    refine callK (fun w' hk' => cin_ct _ _ _ w') ?_
    refine br (fun ht => ?_) (fun ht => ?_)
    · (repeat first | refine ldC ‹Sub _ _› (by assumption) ?_ | refine ld (Cl.cell (by first | assumption | exact Bk.cl (by assumption) rfl)) ?_ | refine ldK (by first | assumption | exact Bk.cl (by assumption) rfl | exact ‹Sub _ _› _ _ _ (by assumption)) ?_)
      refine callK (fun w' hk' => cin_ct _ _ _ w') ?_
      intro w2 hk2
      by_cases hb : inM n.b 0 16 = true
      · have hb' : 0 ≤ n.b ∧ n.b ≤ 16 := by simpa [inM] using hb
        have hz' : z = 1 + n.b := by rw [← hz]; exact IntWalk.i64_in _ (by omega)
        subst hz'
        exact nd_post (hk1.tr hk2) (by unfold ndF; rw [if_neg o1, if_neg o2, if_neg o3, if_neg o4, if_neg o5, if_neg o6, if_neg o7, if_neg o8, if_pos o9, ht, Bool.true_and])
      · have hb : inM n.b 0 16 = false := by simpa using hb
        refine ⟨z, false, by rw [hb]; rfl, hk1.tr hk2, ?_⟩
        unfold ndF
        rw [if_neg o1, if_neg o2, if_neg o3, if_neg o4, if_neg o5, if_neg o6, if_neg o7, if_neg o8, if_pos o9, hb, Bool.and_false]
        rfl
    · intro w2 hk2
      refine ⟨z, false, rfl, hk1.tr hk2, ?_⟩
      unfold ndF
      rw [if_neg o1, if_neg o2, if_neg o3, if_neg o4, if_neg o5, if_neg o6, if_neg o7, if_neg o8, if_pos o9, ht, Bool.false_and]
      rfl
  refine br_dec (fun o10 => ?_) (fun o10 => ?_)
  · refine drawQ τok (fun w' => Kp [] w1 w') (by kernel_rfl) ((Kp.refl [] w1).dr _) ?_
    (repeat first | refine ldC ‹Sub _ _› (by assumption) ?_ | refine ld (Cl.cell (by first | assumption | exact Bk.cl (by assumption) rfl)) ?_ | refine ldK (by first | assumption | exact Bk.cl (by assumption) rfl | exact ‹Sub _ _› _ _ _ (by assumption)) ?_)
    refine callK (fun w' hk' => cin_ct _ _ _ w') ?_
    refine br (fun ht => ?_) (fun ht => ?_)
    · (repeat first | refine ldC ‹Sub _ _› (by assumption) ?_ | refine ld (Cl.cell (by first | assumption | exact Bk.cl (by assumption) rfl)) ?_ | refine ldK (by first | assumption | exact Bk.cl (by assumption) rfl | exact ‹Sub _ _› _ _ _ (by assumption)) ?_)
      intro w2 hk2
      exact nd_post (hk1.tr hk2) (by unfold ndF; rw [if_neg o1, if_neg o2, if_neg o3, if_neg o4, if_neg o5, if_neg o6, if_neg o7, if_neg o8, if_neg o9, if_pos o10, ht, Bool.true_and])
    · intro w2 hk2
      exact nd_post (hk1.tr hk2) (by unfold ndF; rw [if_neg o1, if_neg o2, if_neg o3, if_neg o4, if_neg o5, if_neg o6, if_neg o7, if_neg o8, if_neg o9, if_pos o10, ht, Bool.false_and])
  refine br_dec (fun o11 => ?_) (fun o11 => ?_)
  · exact nd_post hk1 (by unfold ndF; rw [if_neg o1, if_neg o2, if_neg o3, if_neg o4, if_neg o5, if_neg o6, if_neg o7, if_neg o8, if_neg o9, if_neg o10, if_pos o11])
  refine br_dec (fun o12 => ?_) (fun o12 => ?_)
  · exact nd_post hk1 (by unfold ndF; rw [if_neg o1, if_neg o2, if_neg o3, if_neg o4, if_neg o5, if_neg o6, if_neg o7, if_neg o8, if_neg o9, if_neg o10, if_neg o11, if_pos o12])
  refine br_dec (fun o13 => ?_) (fun o13 => ?_)
  · refine drawQ τok (fun w' => Kp [] w1 w') (by kernel_rfl) ((Kp.refl [] w1).dr _) ?_
    (repeat first | refine ldC ‹Sub _ _› (by assumption) ?_ | refine ld (Cl.cell (by first | assumption | exact Bk.cl (by assumption) rfl)) ?_ | refine ldK (by first | assumption | exact Bk.cl (by assumption) rfl | exact ‹Sub _ _› _ _ _ (by assumption)) ?_)
    refine callK (fun w' hk' => cin_ct _ _ _ w') ?_
    refine br (fun ht => ?_) (fun ht => ?_)
    · (repeat first | refine ldC ‹Sub _ _› (by assumption) ?_ | refine ld (Cl.cell (by first | assumption | exact Bk.cl (by assumption) rfl)) ?_ | refine ldK (by first | assumption | exact Bk.cl (by assumption) rfl | exact ‹Sub _ _› _ _ _ (by assumption)) ?_)
      intro w2 hk2
      exact nd_post (hk1.tr hk2) (by unfold ndF; rw [if_neg o1, if_neg o2, if_neg o3, if_neg o4, if_neg o5, if_neg o6, if_neg o7, if_neg o8, if_neg o9, if_neg o10, if_neg o11, if_neg o12, if_pos o13, ht, Bool.true_and])
    · intro w2 hk2
      exact nd_post (hk1.tr hk2) (by unfold ndF; rw [if_neg o1, if_neg o2, if_neg o3, if_neg o4, if_neg o5, if_neg o6, if_neg o7, if_neg o8, if_neg o9, if_neg o10, if_neg o11, if_neg o12, if_pos o13, ht, Bool.false_and])
  refine ⟨0, false, rfl, hk1, ?_⟩
  unfold ndF
  rw [if_neg o1, if_neg o2, if_neg o3, if_neg o4, if_neg o5, if_neg o6, if_neg o7, if_neg o8, if_neg o9, if_neg o10, if_neg o11, if_neg o12, if_neg o13]
end Go.Proofs.YtjpdkcejkogciaaDoor

/-
  Package close: the reader's row; whole.
-/
set_option linter.unusedSimpArgs false
set_option linter.unusedVariables false
namespace Go.Proofs.YtjpdkcejkogciaaDoor
open Go.Wx Cd

def RowPost (C : Mem) (p : Flt) (bp rb : Nat) (ta : Option Addr) (t : List Nd) (tc : Nat) (o : Option (List Nd)) (w : World) (e : Ending) (w' : World) : Prop :=
  Kp [rb] w w' ∧ match o with
    | some r => e = .returned (.bool true) ∧ RdS C bp rb ta t.length tc (t.length - r.length) w'
    | none => e = .returned (.bool false)

theorem row_ct {C : Mem} {p : Flt} {bp rb : Nat} {tc : Nat} : ∀ (f : Nat) (ta : Option Addr) (t : List Nd) (hi : RdF C p bp rb ta t) (k : Nat) (tk : Int) (arm : Bool) (w : World), RdS C bp rb ta t.length tc k w → k ≤ t.length → t.length - k ≤ f → 0 ≤ tk → tk + 16 * (t.length - k) ≤ 1099511627776 →
    CallOk Tryd.prog 56 ∧ Calls Tryd.prog 56 #[.pointer (some ⟨rb, 0, none⟩), .int .i64 tk, .bool arm] w (RowPost C p bp rb ta t tc ((parse (cntF p) nxF f (tk, arm) (t.drop k)).map Prod.snd) w)
  | 0, ta, t, hi, k, tk, arm, w, hs, hk, hf, htk, hbd => by
    refine ⟨⟨_, Tryd.func56, rfl, by decide⟩, ?_⟩
    refine calls_of (args := [_, _, _]) 92 [.tmp 6] τok Tryd.func56 rfl rfl rfl (Nat.le_of_ble_eq_true rfl) ?_
    have hB := hs.blk
    have hl := hi.row.1
    refine drawR τok (by kernel_rfl) ?_
    refine ldR (hB.cl rfl) ?_
    refine ldR (hB.cl rfl) ?_
    intro m
    refine br_dec (fun h => ?_) (fun h => ?_)
    · exact ⟨((Kp.refl [] w).weak (by simp)).dr _, rfl⟩
    · exact absurd (show (t.length : Int) ≤ k by omega) h
  | f + 1, ta, t, hi, k, tk, arm, w, hs, hk, hf, htk, hbd => by
    refine ⟨⟨_, Tryd.func56, rfl, by decide⟩, ?_⟩
    refine calls_of (args := [_, _, _]) 92 [.tmp 6] τok Tryd.func56 rfl rfl rfl (Nat.le_of_ble_eq_true rfl) ?_
    have hB := hs.blk
    have hl := hi.row.1
    obtain ⟨RES, hRES⟩ : ∃ r, (parse (cntF p) nxF (f + 1) (tk, arm) (t.drop k)).map Prod.snd = r := ⟨_, rfl⟩
    rw [hRES]
    refine drawR τok (by kernel_rfl) ?_
    refine ldR (hB.cl rfl) ?_
    refine ldR (hB.cl rfl) ?_
    intro m
    have no : ∀ w', Kp [rb] w w' → RES = none → RowPost C p bp rb ta t tc RES w (.returned (one [.bool false])) w' := fun w' h e => ⟨h, by rw [e]; rfl⟩
    have hkw : Kp [rb] w { w with drawn := m } := ((Kp.refl [] w).weak (by simp)).dr _
    refine br_dec (fun h => ?_) (fun h => ?_)
    · refine no _ hkw ?_
      rw [← hRES, List.drop_eq_nil_of_le (by omega)]
      rfl
    have hlt : k < t.length := by omega
    obtain ⟨n, hn, hd⟩ := drop_get hlt
    obtain ⟨b, o, rfl, i1, i2, i3, hcells⟩ := sl_nd hi.row hn
    obtain ⟨w1, hw1⟩ : ∃ w1 : World, w1 = { w with drawn := m } := ⟨_, rfl⟩
    rw [← hw1] at hkw ⊢
    have hs1 : RdS C bp rb (some ⟨b, o, none⟩) t.length tc k w1 := by rw [hw1]; exact ⟨hs.sub, hs.blk⟩
    have hS1 := hs1.sub
    have hB1 := hs1.blk
    refine drawG τok (fun u => Kp [] w1 u) ?_
    refine readsG τok [0, 1, 2, 3, 4, 5, 6, 7, 8, 9] 2 #[true, true, true, true, true, true, true, true, true, true, false, false] rfl rfl (by kernel_rfl) (by kernel_rfl) (by kernel_rfl) ((Kp.refl [] w1).dr _) ?_
    refine ldK (hB1.cl rfl) ?_
    refine ldK (hB1.cl rfl) ?_
    refine ix k rfl hlt ?_
    refine ldNK [.int .i64 n.op, .int .i64 n.a, .int .i64 n.b] rfl (fun j v hj => hS1 _ _ _ (hcells j v hj)) ?_
    refine nextG τok 10 1 #[true, true, true, true, true, true, true, true, true, true, true, false] rfl rfl rfl (by kernel_rfl) ?_
    refine new fun bn w2 hbn hN hsn hk2 => ?_
    have hk2 : Kp [] w1 w2 := hk2.rd
    have hbn : bn = w1.heap.size := hbn
    refine ⟨.inl hk2, ?_⟩
    refine nextG τok 11 0 #[true, true, true, true, true, true, true, true, true, true, true, true] rfl rfl rfl (by kernel_rfl) ?_
    refine stN hN rfl (by simp [Value.oneCell']) fun w3 hN hs3 hk3 => ?_
    have hk13 : Kp [] w1 w3 := hk2.newSt hbn hk3
    refine ⟨.inl hk13, ?_⟩
    refine doneG (by kernel_rfl) ?_
    have hrl := hs.blk.lt
    have hB3 := hB1.kp hk13 (by simp)
    have hw1s : w1.heap.size = w.heap.size := by rw [hw1]
    refine ld (hB3.cl rfl).cell ?_
    refine int64 (by omega) (by omega) ?_
    refine st hB3 (by simp) rfl fun w4 hB4 hs4 hk4 => ?_
    have hB4 : Bk w4.heap rb [.pointer (some ⟨bp, 0, none⟩), .slice (some ⟨b, o, none⟩) t.length tc, .int .i64 ((k + 1 : Nat) : Int)] 107 := hB4
    have hN4 : Bk w4.heap bn [.int .i64 n.op, .int .i64 n.a, .int .i64 n.b] 47 := hN.kp hk4 (by simp; omega)
    have hk04 : Kp [rb] w w4 := (hkw.tr hk13).trans hk4 (fun x hx _ => hx)
    have hs4' : RdS C bp rb (some ⟨b, o, none⟩) t.length tc (k + 1) w4 := ⟨(hS1.tr hk13).kp hk4 fun b o v hc => by simpa using hi.apart b o v hc, hB4⟩
    refine ld (hN4.cl rfl).cell ?_
    rw [hd, parse_step] at hRES
    refine br (fun harm => ?_) (fun harm => ?_)
    · refine no _ hk04 ?_
      have : ¬ (decide (n.op = 70) = arm) := by simpa using harm
      rw [← hRES]
      simp only [cntF, if_neg this]
    have harm : decide (n.op = 70) = arm := by simpa using harm
    refine ldN [.int .i64 n.op, .int .i64 n.a, .int .i64 n.b] rfl (fun j v hj => by rw [Nat.zero_add]; exact hN4.cl hj) ?_
    refine ev_call (node_ct hi hs4' n tk htk (by omega) i2 i3) ?_
    rintro e w5 ⟨c, ok, rfl, hk5, hnd⟩
    have hk05 : Kp [rb] w w5 := hk04.tr hk5
    have hs5 := hs4'.kp hk5
    have hN5 := hN4.kp hk5 (by simp)
    simp only [cntF, if_pos harm] at hRES
    cases hq : ndF p tk n with
    | none =>
      rw [hq] at hnd hRES
      subst hnd
      exact no _ hk05 hRES.symm
    | some c' =>
      rw [hq] at hnd hRES
      obtain ⟨rfl, rfl⟩ := hnd
      simp only [Option.map_some] at hRES
      have hc := ndF_bd hi.caps hq
      have hmore := moreF_bd hq
      clear no
      obtain ⟨cn, hcn⟩ : ∃ cn : Nat, c = cn := ⟨c.toNat, by omega⟩
      subst hcn
      rw [Int.toNat_natCast] at hRES
      refine lp τok (σ := Nat × Nat) (fun q => [(0, .pointer (some ⟨rb, 0, none⟩)), (1, .int .i64 tk), (7, .pointer (some ⟨bn, 0, none⟩)), (53, .int .i64 cn), (54, .int .i64 q.1)])
        (fun q w' => q.1 ≤ cn ∧ k + 1 ≤ q.2 ∧ q.2 ≤ t.length ∧ Kp [rb] w w' ∧ RdS C bp rb (some ⟨b, o, none⟩) t.length tc q.2 w' ∧ Bk w'.heap bn [.int .i64 n.op, .int .i64 n.a, .int .i64 n.b] 47 ∧
          RES = (kidsL (parse (cntF p) nxF f) (nxF (tk, arm) n) q.1 (cn - q.1) (t.drop q.2)).map Prod.snd) (fun q => cn - q.1) (0, k + 1) rfl
        ⟨rfl, rfl, rfl, rfl, rfl, trivial⟩ ⟨Nat.zero_le _, Nat.le_refl _, hlt, hk05, hs5, hN5, hRES.symm⟩ ?_
      clear hs5 hN5 hk05 hk5 hRES
      rintro ⟨j, a⟩ w6 ⟨hj, ha1, ha2, hk06, hs6, hN6, hR⟩
      simp only at hj ha1 ha2 hs6 hR
      refine br_dec (fun g1 => ?_) (fun g1 => ?_)
      · have hjl : j < cn := by omega
        rw [show cn - j = (cn - (j + 1)) + 1 by omega, kidsL_step] at hR
        have hb1 := hmore j
        have key : ∀ m : Int, moreF n j = m → ∀ arm', (decide (n.op = 69) && decide (0 < j)) = arm' → CallOk Tryd.prog 56 ∧ Calls Tryd.prog 56 #[.pointer (some ⟨rb, 0, none⟩), .int .i64 (tk + m), .bool arm'] w6 (RowPost C p bp rb (some ⟨b, o, none⟩) t tc ((parse (cntF p) nxF f (nxF (tk, arm) n j) (t.drop a)).map Prod.snd) w6) := fun m hm arm' ha' => by
          have := row_ct f _ t hi a (tk + m) arm' w6 hs6 ha2 (by omega) (by omega) (by omega)
          simp only [nxF, hm, ha']
          exact this
        refine ld (hN6.cl rfl).cell ?_
        have m67 : n.op = 67 → moreF n j = if j = 1 then 1 else 0 := fun o => by
          unfold moreF
          by_cases h : j = 1 <;> simp [o, h]
        have m72 : n.op = 72 → moreF n j = if j = 2 then 1 else 0 := fun o => by
          unfold moreF
          by_cases h : j = 2 <;> simp [o, h]
        have m70 : n.op = 70 → moreF n j = n.a := fun o => by simp [moreF, o]
        have m0 : n.op ≠ 67 → n.op ≠ 72 → n.op ≠ 70 → moreF n j = 0 := fun o o' o'' => by simp [moreF, o, o', o'']
        have o69' : n.op = 69 → moreF n j = 0 := fun o => m0 (by omega) (by omega) (by omega)
        clear hd hn hcells
        refine br_dec (fun o67 => ?_) (fun o67 => ?_)
        · refine br_dec (fun j1 => ?_) (fun j1 => ?_)
          · have hm : moreF n j = 1 := by rw [m67 o67, if_pos (by omega)]
            have o69 : ¬ n.op = 69 := by omega
            refine br_yes j1 ?_
            refine int64 (by omega) (by omega) ?_
            refine ld (hN6.cl rfl).cell ?_
            refine br_no o69 ?_
            refine ev_call (key 1 hm false (by first | simp [o69] | (rw [decide_eq_true o69]; simp))) ?_
            rintro e w7 ⟨hk7, hpost⟩
            have hk07 : Kp [rb] w w7 := hk06.trans hk7 (fun x hx _ => hx)
            cases hq' : parse (cntF p) nxF f (nxF (tk, arm) n j) (t.drop a) with
            | none =>
              rw [hq'] at hpost hR
              have hpost : e = .returned (.bool false) := hpost
              subst hpost
              exact ⟨hk07, by rw [hR]; rfl⟩
            | some q =>
              obtain ⟨x, r⟩ := q
              rw [hq'] at hpost hR
              obtain ⟨rfl, hs7⟩ : e = .returned (.bool true) ∧ RdS C bp rb (some ⟨b, o, none⟩) t.length tc (t.length - r.length) w7 := hpost
              obtain ⟨r1, r2, r3, _⟩ := parse_at ha2 hq'
              refine int64 (by (try simp only); omega) (by (try simp only); omega) ?_
              refine ⟨(j + 1, t.length - r.length), by simp only; omega, rfl, ⟨rfl, rfl, rfl, rfl, rfl, trivial⟩, hjl, by simp only; omega, by simp only; omega, hk07, hs7, hN6.kp hk7 (by simp; omega), ?_⟩
              rw [hR]
              simp only
              rw [← r1]
          · have hm : moreF n j = 0 := by rw [m67 o67, if_neg (by omega)]
            have o69 : ¬ n.op = 69 := by omega
            refine ld (hN6.cl rfl).cell ?_
            refine br_no (show ¬ n.op = 72 by omega) ?_
            refine ld (hN6.cl rfl).cell ?_
            refine br_no (show ¬ n.op = 70 by omega) ?_
            refine int64 (by omega) (by omega) ?_
            refine ld (hN6.cl rfl).cell ?_
            refine br_no o69 ?_
            refine ev_call (key 0 hm false (by first | simp [o69] | (rw [decide_eq_true o69]; simp))) ?_
            rintro e w7 ⟨hk7, hpost⟩
            have hk07 : Kp [rb] w w7 := hk06.trans hk7 (fun x hx _ => hx)
            cases hq' : parse (cntF p) nxF f (nxF (tk, arm) n j) (t.drop a) with
            | none =>
              rw [hq'] at hpost hR
              have hpost : e = .returned (.bool false) := hpost
              subst hpost
              exact ⟨hk07, by rw [hR]; rfl⟩
            | some q =>
              obtain ⟨x, r⟩ := q
              rw [hq'] at hpost hR
              obtain ⟨rfl, hs7⟩ : e = .returned (.bool true) ∧ RdS C bp rb (some ⟨b, o, none⟩) t.length tc (t.length - r.length) w7 := hpost
              obtain ⟨r1, r2, r3, _⟩ := parse_at ha2 hq'
              refine int64 (by (try simp only); omega) (by (try simp only); omega) ?_
              refine ⟨(j + 1, t.length - r.length), by simp only; omega, rfl, ⟨rfl, rfl, rfl, rfl, rfl, trivial⟩, hjl, by simp only; omega, by simp only; omega, hk07, hs7, hN6.kp hk7 (by simp; omega), ?_⟩
              rw [hR]
              simp only
              rw [← r1]
        · refine ld (hN6.cl rfl).cell ?_
          refine br_dec (fun o72 => ?_) (fun o72 => ?_)
          · refine br_dec (fun j2 => ?_) (fun j2 => ?_)
            · have hm : moreF n j = 1 := by rw [m72 o72, if_pos (by omega)]
              have o69 : ¬ n.op = 69 := by omega
              refine int64 (by omega) (by omega) ?_
              refine ld (hN6.cl rfl).cell ?_
              refine br_no o69 ?_
              refine ev_call (key 1 hm false (by first | simp [o69] | (rw [decide_eq_true o69]; simp))) ?_
              rintro e w7 ⟨hk7, hpost⟩
              have hk07 : Kp [rb] w w7 := hk06.trans hk7 (fun x hx _ => hx)
              cases hq' : parse (cntF p) nxF f (nxF (tk, arm) n j) (t.drop a) with
              | none =>
                rw [hq'] at hpost hR
                have hpost : e = .returned (.bool false) := hpost
                subst hpost
                exact ⟨hk07, by rw [hR]; rfl⟩
              | some q =>
                obtain ⟨x, r⟩ := q
                rw [hq'] at hpost hR
                obtain ⟨rfl, hs7⟩ : e = .returned (.bool true) ∧ RdS C bp rb (some ⟨b, o, none⟩) t.length tc (t.length - r.length) w7 := hpost
                obtain ⟨r1, r2, r3, _⟩ := parse_at ha2 hq'
                refine int64 (by (try simp only); omega) (by (try simp only); omega) ?_
                refine ⟨(j + 1, t.length - r.length), by simp only; omega, rfl, ⟨rfl, rfl, rfl, rfl, rfl, trivial⟩, hjl, by simp only; omega, by simp only; omega, hk07, hs7, hN6.kp hk7 (by simp; omega), ?_⟩
                rw [hR]
                simp only
                rw [← r1]
            · have hm : moreF n j = 0 := by rw [m72 o72, if_neg (by omega)]
              have o69 : ¬ n.op = 69 := by omega
              refine ld (hN6.cl rfl).cell ?_
              refine br_no (show ¬ n.op = 70 by omega) ?_
              refine int64 (by omega) (by omega) ?_
              refine ld (hN6.cl rfl).cell ?_
              refine br_no o69 ?_
              refine ev_call (key 0 hm false (by first | simp [o69] | (rw [decide_eq_true o69]; simp))) ?_
              rintro e w7 ⟨hk7, hpost⟩
              have hk07 : Kp [rb] w w7 := hk06.trans hk7 (fun x hx _ => hx)
              cases hq' : parse (cntF p) nxF f (nxF (tk, arm) n j) (t.drop a) with
              | none =>
                rw [hq'] at hpost hR
                have hpost : e = .returned (.bool false) := hpost
                subst hpost
                exact ⟨hk07, by rw [hR]; rfl⟩
              | some q =>
                obtain ⟨x, r⟩ := q
                rw [hq'] at hpost hR
                obtain ⟨rfl, hs7⟩ : e = .returned (.bool true) ∧ RdS C bp rb (some ⟨b, o, none⟩) t.length tc (t.length - r.length) w7 := hpost
                obtain ⟨r1, r2, r3, _⟩ := parse_at ha2 hq'
                refine int64 (by (try simp only); omega) (by (try simp only); omega) ?_
                refine ⟨(j + 1, t.length - r.length), by simp only; omega, rfl, ⟨rfl, rfl, rfl, rfl, rfl, trivial⟩, hjl, by simp only; omega, by simp only; omega, hk07, hs7, hN6.kp hk7 (by simp; omega), ?_⟩
                rw [hR]
                simp only
                rw [← r1]
          · refine ld (hN6.cl rfl).cell ?_
            refine br_dec (fun o70 => ?_) (fun o70 => ?_)
            · have hm : moreF n j = n.a := m70 o70
              have o69 : ¬ n.op = 69 := by omega
              refine ld (hN6.cl rfl).cell ?_
              refine int64 (by omega) (by omega) ?_
              refine ld (hN6.cl rfl).cell ?_
              refine br_no o69 ?_
              refine ev_call (key n.a hm false (by first | simp [o69] | (rw [decide_eq_true o69]; simp))) ?_
              rintro e w7 ⟨hk7, hpost⟩
              have hk07 : Kp [rb] w w7 := hk06.trans hk7 (fun x hx _ => hx)
              cases hq' : parse (cntF p) nxF f (nxF (tk, arm) n j) (t.drop a) with
              | none =>
                rw [hq'] at hpost hR
                have hpost : e = .returned (.bool false) := hpost
                subst hpost
                exact ⟨hk07, by rw [hR]; rfl⟩
              | some q =>
                obtain ⟨x, r⟩ := q
                rw [hq'] at hpost hR
                obtain ⟨rfl, hs7⟩ : e = .returned (.bool true) ∧ RdS C bp rb (some ⟨b, o, none⟩) t.length tc (t.length - r.length) w7 := hpost
                obtain ⟨r1, r2, r3, _⟩ := parse_at ha2 hq'
                refine int64 (by (try simp only); omega) (by (try simp only); omega) ?_
                refine ⟨(j + 1, t.length - r.length), by simp only; omega, rfl, ⟨rfl, rfl, rfl, rfl, rfl, trivial⟩, hjl, by simp only; omega, by simp only; omega, hk07, hs7, hN6.kp hk7 (by simp; omega), ?_⟩
                rw [hR]
                simp only
                rw [← r1]
            · have hm : moreF n j = 0 := m0 o67 o72 o70
              refine int64 (by omega) (by omega) ?_
              refine ld (hN6.cl rfl).cell ?_
              refine br_dec (fun o69 => ?_) (fun o69 => ?_)
              · skip
                refine ev_call (key 0 hm (decide ((0 : Int) < (j : Int))) (by first | simp [o69] | (rw [decide_eq_true o69]; simp))) ?_
                rintro e w7 ⟨hk7, hpost⟩
                have hk07 : Kp [rb] w w7 := hk06.trans hk7 (fun x hx _ => hx)
                cases hq' : parse (cntF p) nxF f (nxF (tk, arm) n j) (t.drop a) with
                | none =>
                  rw [hq'] at hpost hR
                  have hpost : e = .returned (.bool false) := hpost
                  subst hpost
                  exact ⟨hk07, by rw [hR]; rfl⟩
                | some q =>
                  obtain ⟨x, r⟩ := q
                  rw [hq'] at hpost hR
                  obtain ⟨rfl, hs7⟩ : e = .returned (.bool true) ∧ RdS C bp rb (some ⟨b, o, none⟩) t.length tc (t.length - r.length) w7 := hpost
                  obtain ⟨r1, r2, r3, _⟩ := parse_at ha2 hq'
                  refine int64 (by (try simp only); omega) (by (try simp only); omega) ?_
                  refine ⟨(j + 1, t.length - r.length), by simp only; omega, rfl, ⟨rfl, rfl, rfl, rfl, rfl, trivial⟩, hjl, by simp only; omega, by simp only; omega, hk07, hs7, hN6.kp hk7 (by simp; omega), ?_⟩
                  rw [hR]
                  simp only
                  rw [← r1]
              · skip
                refine ev_call (key 0 hm false (by first | simp [o69] | (rw [decide_eq_true o69]; simp))) ?_
                rintro e w7 ⟨hk7, hpost⟩
                have hk07 : Kp [rb] w w7 := hk06.trans hk7 (fun x hx _ => hx)
                cases hq' : parse (cntF p) nxF f (nxF (tk, arm) n j) (t.drop a) with
                | none =>
                  rw [hq'] at hpost hR
                  have hpost : e = .returned (.bool false) := hpost
                  subst hpost
                  exact ⟨hk07, by rw [hR]; rfl⟩
                | some q =>
                  obtain ⟨x, r⟩ := q
                  rw [hq'] at hpost hR
                  obtain ⟨rfl, hs7⟩ : e = .returned (.bool true) ∧ RdS C bp rb (some ⟨b, o, none⟩) t.length tc (t.length - r.length) w7 := hpost
                  obtain ⟨r1, r2, r3, _⟩ := parse_at ha2 hq'
                  refine int64 (by (try simp only); omega) (by (try simp only); omega) ?_
                  refine ⟨(j + 1, t.length - r.length), by simp only; omega, rfl, ⟨rfl, rfl, rfl, rfl, rfl, trivial⟩, hjl, by simp only; omega, by simp only; omega, hk07, hs7, hN6.kp hk7 (by simp; omega), ?_⟩
                  rw [hR]
                  simp only
                  rw [← r1]
      · refine ⟨hk06, ?_⟩
        rw [show cn - j = 0 by omega] at hR
        subst hR
        simp only [kidsL, Option.map_some]
        refine ⟨rfl, ?_⟩
        rw [List.length_drop, show t.length - (t.length - a) = a by omega]
        exact hs6

theorem rdF_sub {C : Mem} {w : World} (h : Sub C w) {b : Nat} (hb : w.heap.size ≤ b) : ∀ b' o v, C b' o v → b' ≠ b := fun b' o v hc => by have := h.lt b' o v hc; omega

theorem whole_ct {C : Mem} {p : Flt} {bp : Nat} {ta : Option Addr} {t : List Nd} {tc : Nat} {w : World} (hS : Sub C w) (hp : rFlt.At C bp 0 p) (hc : CapsOk p) (ht : Sl rNd C ta t) (tk : Int) (h0 : 0 ≤ tk) (h1 : tk ≤ 1048576) :
    CallOk Tryd.prog 35 ∧ Calls Tryd.prog 35 #[.pointer (some ⟨bp, 0, none⟩), .slice ta t.length tc, .int .i64 tk] w (fun e w' => e = .returned (.bool (wholeF p t tk)) ∧ Kp [] w w') := by
  obtain ⟨RES, hRES⟩ : ∃ r, wholeF p t tk = r := ⟨_, rfl⟩
  rw [hRES]
  refine ⟨⟨_, Tryd.func35, rfl, by decide⟩, ?_⟩
  refine calls_of (args := [_, _, _]) 29 [.tmp 6] τok Tryd.func35 rfl rfl rfl (Nat.le_of_ble_eq_true rfl) ?_
  refine new fun rb w1 hrb hB hs1 hk1 => ?_
  have hB : Bk w1.heap rb [.pointer (some ⟨bp, 0, none⟩), .slice ta t.length tc, .int .i64 ((0 : Nat) : Int)] 107 := hB
  have hi : RdF C p bp rb ta t := ⟨hp, ht, rdF_sub hS (by omega), hc⟩
  have hs : RdS C bp rb ta t.length tc 0 w1 := ⟨hS.tr hk1, hB⟩
  unfold wholeF treeOf at hRES
  refine br_dec (fun g1 => ?_) (fun g1 => ?_)
  · rw [decide_eq_true (show t.length ≤ 16384 by omega), Bool.true_and] at hRES
    refine ev_call (row_ct t.length ta t hi 0 tk false w1 hs (Nat.zero_le _) (by omega) h0 (by omega)) ?_
    rintro e w2 ⟨hk2, hpost⟩
    rw [List.drop_zero] at hpost
    have hk12 : Kp [] w w2 := hk1.newSt hrb hk2
    cases hq : parse (cntF p) nxF t.length (tk, false) t with
    | none =>
      rw [hq] at hpost hRES
      have hpost : e = .returned (.bool false) := hpost
      subst hpost
      exact ⟨by rw [← hRES]; rfl, hk12⟩
    | some q =>
      obtain ⟨x, r⟩ := q
      rw [hq] at hpost hRES
      obtain ⟨rfl, hs2⟩ : e = .returned (.bool true) ∧ RdS C bp rb ta t.length tc (t.length - r.length) w2 := hpost
      have hB2 := hs2.blk
      have hl := parse_len hq
      refine ld (hB2.cl rfl).cell ?_
      refine ⟨?_, hk12⟩
      rw [← hRES]
      cases r with
      | nil => simp [one]
      | cons y r =>
        simp only [one]
        rw [decide_eq_false (by simp only [List.length_cons] at hl ⊢; omega)]
        rfl
  · rw [decide_eq_false (show ¬ t.length ≤ 16384 by omega), Bool.false_and] at hRES
    exact ⟨by rw [← hRES]; rfl, hk1⟩
end Go.Proofs.YtjpdkcejkogciaaDoor

/-
  Code: package bare: registered and Right, where all rows are boxes or none.
-/
set_option linter.unusedSimpArgs false
set_option linter.unusedVariables false
namespace Go.Proofs.YtjpdkcejkogciaaDoor
open Go.Wx Cd

theorem registered_ct {C : Mem} {w : World} (hS : Sub C w) (bodies : List (List Nd)) (shapes : List Shp) (nat : Int) (ab ash ap : Option Addr) (cb cs cp : Nat) (vm : Value) (hb : Sl (rSl rNd) C ab bodies) (hs : Sl rShp C ash shapes) (hl : bodies.length = shapes.length) :
    CallOk Tryd.prog 38 ∧ Calls Tryd.prog 38 #[.agg #[.slice ab bodies.length cb, .slice ash shapes.length cs, vm, .int .i64 nat, .slice ap 0 cp]] w (fun e w' => e = .returned (.bool (natOk bodies shapes nat)) ∧ Kp [] w w') := by
  obtain ⟨RES, hRES⟩ : ∃ r, natOk bodies shapes nat = r := ⟨_, rfl⟩
  rw [hRES]
  refine ⟨⟨_, Tryd.func38, rfl, by decide⟩, ?_⟩
  refine calls_of (args := [_]) 112 [.tmp 2] τok Tryd.func38 rfl rfl rfl (Nat.le_of_ble_eq_true rfl) ?_
  refine new fun b1 w1 hb1 hB1 hs1 hk1 => ?_
  have hB1 : Bk w1.heap b1 [.slice ab bodies.length cb, .slice ash shapes.length cs, vm, .int .i64 nat, .slice ap 0 cp] 33 := by
    have : (Value.agg #[.slice ab bodies.length cb, .slice ash shapes.length cs, vm, .int .i64 nat, .slice ap 0 cp]).cells.toList = [.slice ab bodies.length cb, .slice ash shapes.length cs, vm, .int .i64 nat, .slice ap 0 cp] := by rfl
    rw [← this]
    exact hB1
  have hS1 := hS.tr hk1
  (repeat first | refine ldC ‹Sub _ _› (by assumption) ?_ | refine ld (Cl.cell (by first | assumption | exact Bk.cl (by assumption) rfl)) ?_ | refine ldK (by first | assumption | exact Bk.cl (by assumption) rfl | exact ‹Sub _ _› _ _ _ (by assumption)) ?_)
  refine br_dec (fun h1 => ?_) (fun h1 => ?_)
  · (repeat first | refine ldC ‹Sub _ _› (by assumption) ?_ | refine ld (Cl.cell (by first | assumption | exact Bk.cl (by assumption) rfl)) ?_ | refine ldK (by first | assumption | exact Bk.cl (by assumption) rfl | exact ‹Sub _ _› _ _ _ (by assumption)) ?_)
    refine ⟨?_, hk1⟩
    rw [← hRES]
    simp [one, natOk, h1]
  (repeat first | refine ldC ‹Sub _ _› (by assumption) ?_ | refine ld (Cl.cell (by first | assumption | exact Bk.cl (by assumption) rfl)) ?_ | refine ldK (by first | assumption | exact Bk.cl (by assumption) rfl | exact ‹Sub _ _› _ _ _ (by assumption)) ?_)
  have no : ∀ w', Kp [] w w' → RES = false → Ending.returned (one [.bool false]) = .returned (.bool RES) ∧ Kp [] w w' := fun w' h e => ⟨by rw [e]; rfl, h⟩
  refine br_dec (fun h2 => ?_) (fun h2 => ?_)
  · exact no _ hk1 (by rw [← hRES]; simp [natOk, h1, show ¬ 0 ≤ nat by omega])
  (repeat first | refine ldC ‹Sub _ _› (by assumption) ?_ | refine ld (Cl.cell (by first | assumption | exact Bk.cl (by assumption) rfl)) ?_ | refine ldK (by first | assumption | exact Bk.cl (by assumption) rfl | exact ‹Sub _ _› _ _ _ (by assumption)) ?_)
  refine br_dec (fun h3 => ?_) (fun h3 => ?_)
  · exact no _ hk1 (by rw [← hRES]; simp [natOk, h1, show ¬ nat < bodies.length by omega])
  obtain ⟨x, hx⟩ : ∃ x, bodies[nat.toNat]? = some x := ⟨bodies[nat.toNat]'(by omega), by simp⟩
  obtain ⟨s, hsx⟩ : ∃ x, shapes[nat.toNat]? = some x := ⟨shapes[nat.toNat]'(by omega), by simp⟩
  have hRES : RES = (decide (x.length = 0) && (decide (s.params = 0) && decide (s.kept = [[], [true]]))) := by
    rw [← hRES]
    unfold natOk
    rw [hx, hsx, decide_eq_false h1, decide_eq_true (show 0 ≤ nat by omega), decide_eq_true (show nat < bodies.length by omega)]
    simp
  obtain ⟨b, o, rfl, a', cap, hcx, _⟩ := hb.sl hx
  obtain ⟨b', o', rfl, ak, ck, hkept, _, hcp, hck⟩ := sl_shp hs hsx
  (repeat first | refine ldC ‹Sub _ _› (by assumption) ?_ | refine ld (Cl.cell (by first | assumption | exact Bk.cl (by assumption) rfl)) ?_ | refine ldK (by first | assumption | exact Bk.cl (by assumption) rfl | exact ‹Sub _ _› _ _ _ (by assumption)) ?_)
  refine ix nat.toNat (by omega) (by omega) ?_
  (repeat first | refine ldC ‹Sub _ _› (by assumption) ?_ | refine ld (Cl.cell (by first | assumption | exact Bk.cl (by assumption) rfl)) ?_ | refine ldK (by first | assumption | exact Bk.cl (by assumption) rfl | exact ‹Sub _ _› _ _ _ (by assumption)) ?_)
  refine br_dec (fun h4 => ?_) (fun h4 => ?_)
  · exact no _ hk1 (by rw [hRES, decide_eq_false (by omega)]; rfl)
  rw [decide_eq_true (show x.length = 0 by omega), Bool.true_and] at hRES
  (repeat first | refine ldC ‹Sub _ _› (by assumption) ?_ | refine ld (Cl.cell (by first | assumption | exact Bk.cl (by assumption) rfl)) ?_ | refine ldK (by first | assumption | exact Bk.cl (by assumption) rfl | exact ‹Sub _ _› _ _ _ (by assumption)) ?_)
  refine ix nat.toNat (by omega) (by omega) ?_
  refine ldN [.int .i64 s.params, .slice ak s.kept.length ck] rfl (fun j v hj => ?_) ?_
  · match j with
    | 0 => simp at hj; subst hj; exact hS1 _ _ _ hcp
    | 1 => simp at hj; subst hj; exact hS1 _ _ _ hck
    | j + 2 => simp at hj
  refine new fun b2 w2 hb2 hB2 hs2 hk2 => ?_
  refine stN hB2 rfl (by simp [Value.oneCell']) fun w3 hB3 hs3 hk3 => ?_
  have hk23 : Kp [] w1 w3 := hk2.newSt hb2 hk3
  have hk13 := hk1.tr hk23
  have hS3 := hS1.tr hk23
  (repeat first | refine ldC ‹Sub _ _› (by assumption) ?_ | refine ld (Cl.cell (by first | assumption | exact Bk.cl (by assumption) rfl)) ?_ | refine ldK (by first | assumption | exact Bk.cl (by assumption) rfl | exact ‹Sub _ _› _ _ _ (by assumption)) ?_)
  refine br_dec (fun h5 => ?_) (fun h5 => ?_)
  · exact no _ hk13 (by rw [hRES, decide_eq_false h5]; rfl)
  rw [decide_eq_true (show s.params = 0 by simpa using h5), Bool.true_and] at hRES
  (repeat first | refine ldC ‹Sub _ _› (by assumption) ?_ | refine ld (Cl.cell (by first | assumption | exact Bk.cl (by assumption) rfl)) ?_ | refine ldK (by first | assumption | exact Bk.cl (by assumption) rfl | exact ‹Sub _ _› _ _ _ (by assumption)) ?_)
  refine br_dec (fun h6 => ?_) (fun h6 => ?_)
  · exact no _ hk13 (by rw [hRES, decide_eq_false (fun e => h6 (by rw [e]; rfl))])
  have h6 : s.kept.length = 2 := by
    have : (s.kept.length : Int) = 2 := by simpa using h6
    omega
  obtain ⟨y0, y1, hy⟩ : ∃ y0 y1, s.kept = [y0, y1] := by
    match h : s.kept, h6 with
    | [y0, y1], _ => exact ⟨y0, y1, rfl⟩
  obtain ⟨b5, o5, rfl, a0, c0, hc0, hsl0⟩ := hkept.sl (i := 0) (x := y0) (by rw [hy]; rfl)
  obtain ⟨b6, o6, e6, a1, c1, hc1, hsl1⟩ := hkept.sl (i := 1) (x := y1) (by rw [hy]; rfl)
  have e6 := Option.some.inj e6
  injection e6 with e7 e8
  subst e7 e8
  (repeat first | refine ldC ‹Sub _ _› (by assumption) ?_ | refine ld (Cl.cell (by first | assumption | exact Bk.cl (by assumption) rfl)) ?_ | refine ldK (by first | assumption | exact Bk.cl (by assumption) rfl | exact ‹Sub _ _› _ _ _ (by assumption)) ?_)
  refine ix 0 rfl (by omega) ?_
  (repeat first | refine ldC ‹Sub _ _› (by assumption) ?_ | refine ld (Cl.cell (by first | assumption | exact Bk.cl (by assumption) rfl)) ?_ | refine ldK (by first | assumption | exact Bk.cl (by assumption) rfl | exact ‹Sub _ _› _ _ _ (by assumption)) ?_)
  refine br_dec (fun h7 => ?_) (fun h7 => ?_)
  · refine no _ hk13 ?_
    rw [hRES, decide_eq_false (fun e => h7 ?_)]
    rw [hy] at e
    simp at e
    rw [e.1]
    rfl
  have h7 : y0 = [] := List.length_eq_zero_iff.1 (by
    have : (y0.length : Int) = 0 := by simpa using h7
    omega)
  (repeat first | refine ldC ‹Sub _ _› (by assumption) ?_ | refine ld (Cl.cell (by first | assumption | exact Bk.cl (by assumption) rfl)) ?_ | refine ldK (by first | assumption | exact Bk.cl (by assumption) rfl | exact ‹Sub _ _› _ _ _ (by assumption)) ?_)
  refine ix 1 rfl (by omega) ?_
  (repeat first | refine ldC ‹Sub _ _› (by assumption) ?_ | refine ld (Cl.cell (by first | assumption | exact Bk.cl (by assumption) rfl)) ?_ | refine ldK (by first | assumption | exact Bk.cl (by assumption) rfl | exact ‹Sub _ _› _ _ _ (by assumption)) ?_)
  refine fill [.bool true] rfl ?_
  refine new fun b8 w8 hb8 hB8 hs8 hk8 => ?_
  have hk18 := hk13.tr hk8
  have hD : Sl rBool (New b8 w8) (some ⟨b8, 0, none⟩) [true] := ⟨by simp, .inr ⟨b8, 0, rfl, fun i x hi => by
    match i with
    | 0 =>
      simp at hi
      subst hi
      exact ⟨[.bool true], rfl, fun j v hj => ⟨Nat.le_refl _, hB8.cu (by simpa using hj)⟩⟩
    | i + 1 => simp at hi⟩⟩
  refine ev_call (equalB_ct (hS3.tr hk8) (New.sub b8 w8) y1 [true] a1 (some ⟨b8, 0, none⟩) c1 1 hsl1 hD) ?_
  rintro e w9 ⟨rfl, hk9⟩
  have hk19 := hk18.tr hk9
  have hB19 := hB1.kp ((hk23.tr hk8).tr hk9) (by simp)
  have hRES : RES = decide (y1 = [true]) := by
    rw [hRES, hy, h7]
    simp
  refine br (fun h8 => ?_) (fun h8 => ?_)
  · exact no _ hk19 (by rw [hRES]; simpa using h8)
  have hRES : RES = true := by rw [hRES]; simpa using h8
  refine ld (hB19.cl rfl).cell ?_
  refine lp τok (fun _ : Unit => [(67, .slice ap 0 cp), (68, .int .i64 0), (69, .int .i64 0)]) (fun _ w' => Kp [] w w') (fun _ => 0) () rfl ⟨rfl, rfl, rfl, trivial⟩ hk19 ?_
  rintro _ w10 hk10
  exact ⟨by rw [hRES]; rfl, hk10⟩

theorem bx_of {C : Mem} {a : Option Addr} (h : Sl rNd C a [Nd.box]) : ∃ b o, a = some ⟨b, o, none⟩ ∧ ∀ w, Sub C w → Bx w b o := by
  obtain ⟨b, o, ha, hc⟩ := h.at (i := 0) (by simp)
  obtain ⟨cs, ⟨rfl, _⟩, h2⟩ := hc 0 Nd.box rfl
  simp only [Nat.zero_mul, Nat.add_zero] at h2
  exact ⟨b, o, ha, fun w hw => ⟨hw _ _ _ (h2 0 _ rfl), hw _ _ _ (h2 1 _ rfl), hw _ _ _ (h2 2 _ rfl)⟩⟩

theorem entsOk_drop {bodies : List (List Nd)} {shapes : List Shp} {k : Nat} {x : List Nd} {s : Shp} (hx : bodies.drop k = x :: bodies.drop (k + 1)) (hs : shapes.drop k = s :: shapes.drop (k + 1)) : entsOk (bodies.drop k) (shapes.drop k) = (entOk x s && entsOk (bodies.drop (k + 1)) (shapes.drop (k + 1))) := by
  rw [hx, hs]
  rfl

theorem right_ct {C : Mem} {w : World} (hS : Sub C w) (bodies : List (List Nd)) (shapes : List Shp) (nat : Int) (ab ash am ap : Option Addr) (cb cs cm cp : Nat) (hb : Sl (rSl rNd) C ab bodies) (hs : Sl rShp C ash shapes) (hm : Sl rNd C am [Nd.box])
    (hbox : ∀ b ∈ bodies, b = [] ∨ b = [Nd.box]) (hb64 : bodies.length ≤ 64) (hs64 : shapes.length ≤ 64) :
    CallOk Tryd.prog 21 ∧ Calls Tryd.prog 21 #[.agg #[.slice ab bodies.length cb, .slice ash shapes.length cs, .slice am 1 cm, .int .i64 nat, .slice ap 0 cp]] w (fun e w' => ∃ n : Int, e = .returned (.int .i64 n) ∧ decide (n = 0) = rightM bodies shapes nat ∧ Kp [] w w') := by
  obtain ⟨RES, hRES⟩ : ∃ r, rightM bodies shapes nat = r := ⟨_, rfl⟩
  rw [hRES]
  refine ⟨⟨_, Tryd.func21, rfl, by decide⟩, ?_⟩
  refine calls_of (args := [_]) 74 [.tmp 2] τok Tryd.func21 rfl rfl rfl (Nat.le_of_ble_eq_true rfl) ?_
  refine new fun b1 w1 hb1 hB1 hs1 hk1 => ?_
  have hB1 : Bk w1.heap b1 [.slice ab bodies.length cb, .slice ash shapes.length cs, .slice am 1 cm, .int .i64 nat, .slice ap 0 cp] 33 := hB1
  have hS1 := hS.tr hk1
  (repeat first | refine ldC ‹Sub _ _› (by assumption) ?_ | refine ld (Cl.cell (by first | assumption | exact Bk.cl (by assumption) rfl)) ?_ | refine ldK (by first | assumption | exact Bk.cl (by assumption) rfl | exact ‹Sub _ _› _ _ _ (by assumption)) ?_)
  refine br_dec (fun h1 => ?_) (fun h1 => ?_)
  · exact absurd h1 (by omega)
  (repeat first | refine ldC ‹Sub _ _› (by assumption) ?_ | refine ld (Cl.cell (by first | assumption | exact Bk.cl (by assumption) rfl)) ?_ | refine ldK (by first | assumption | exact Bk.cl (by assumption) rfl | exact ‹Sub _ _› _ _ _ (by assumption)) ?_)
  refine br_dec (fun h2 => ?_) (fun h2 => ?_)
  · exact absurd h2 (by omega)
  (repeat first | refine ldC ‹Sub _ _› (by assumption) ?_ | refine ld (Cl.cell (by first | assumption | exact Bk.cl (by assumption) rfl)) ?_ | refine ldK (by first | assumption | exact Bk.cl (by assumption) rfl | exact ‹Sub _ _› _ _ _ (by assumption)) ?_)
  refine br_dec (fun h3 => ?_) (fun h3 => ?_)
  · exact ⟨8, rfl, by rw [← hRES]; unfold rightM; rw [decide_eq_false (p := bodies.length = shapes.length) (fun e => h3 (by rw [e]))]; rfl, hk1⟩
  have hl : bodies.length = shapes.length := by
    have : (bodies.length : Int) = shapes.length := by simpa using h3
    omega
  unfold rightM at hRES
  rw [decide_eq_true hl, Bool.true_and] at hRES
  (repeat first | refine ldC ‹Sub _ _› (by assumption) ?_ | refine ld (Cl.cell (by first | assumption | exact Bk.cl (by assumption) rfl)) ?_ | refine ldK (by first | assumption | exact Bk.cl (by assumption) rfl | exact ‹Sub _ _› _ _ _ (by assumption)) ?_)
  refine lp τok (σ := Nat) (fun k => [(1, .pointer (some ⟨b1, 0, none⟩)), (24, .slice ab bodies.length cb), (25, .int .i64 bodies.length), (26, .int .i64 k)])
    (fun k w' => k ≤ bodies.length ∧ Kp [] w1 w' ∧ RES = (entsOk (bodies.drop k) (shapes.drop k) && natOk bodies shapes nat)) (fun k => bodies.length - k) 0 rfl ⟨rfl, rfl, rfl, rfl, trivial⟩ ⟨Nat.zero_le _, Kp.refl _ _, hRES.symm⟩ ?_
  rintro k w2 ⟨hk, hkp, hr⟩
  have hB2 := hB1.kp hkp (by simp)
  have hS2 := hS1.tr hkp
  refine br_dec (fun h4 => ?_) (fun h4 => ?_)
  · have hlt : k < bodies.length := by omega
    obtain ⟨x, hx, hdx⟩ := drop_get hlt
    obtain ⟨s, hsx, hds⟩ := drop_get (l := shapes) (k := k) (by omega)
    rw [entsOk_drop hdx hds, Bool.and_assoc] at hr
    have hxb := hbox x (List.mem_of_getElem? hx)
    obtain ⟨b, o, rfl, ax, cx, hcx, hslx⟩ := hb.sl hx
    obtain ⟨b', o', rfl, ak, ck, hkept, _, hcp, hck⟩ := sl_shp hs hsx
    refine ix k rfl hlt ?_
    (repeat first | refine ldC ‹Sub _ _› (by assumption) ?_ | refine ld (Cl.cell (by first | assumption | exact Bk.cl (by assumption) rfl)) ?_ | refine ldK (by first | assumption | exact Bk.cl (by assumption) rfl | exact ‹Sub _ _› _ _ _ (by assumption)) ?_)
    refine ix k rfl (by omega) ?_
    refine ldN [.int .i64 s.params, .slice ak s.kept.length ck] rfl (fun j v hj => ?_) ?_
    · match j with
      | 0 => simp at hj; subst hj; exact hS2 _ _ _ hcp
      | 1 => simp at hj; subst hj; exact hS2 _ _ _ hck
      | j + 2 => simp at hj
    refine new fun b3 w3 hb3 hB3 hs3 hk3 => ?_
    refine stN hB3 rfl (by simp [Value.oneCell']) fun w4 hB4 hs4 hk4 => ?_
    have hk24 : Kp [] w2 w4 := hk3.newSt hb3 hk4
    have hkp4 := hkp.tr hk24
    refine ldN [.int .i64 s.params, .slice ak s.kept.length ck] rfl (fun j v hj => by rw [Nat.zero_add]; exact hB4.cl hj) ?_
    refine ev_call (shapedS_ct (hS1.tr hkp4) s ak ck hkept) ?_
    rintro e w5 ⟨rfl, hk5⟩
    have hkp5 := hkp4.tr hk5
    have hB5 := hB4.kp hk5 (by simp)
    have no : ∀ w', Kp [] w1 w' → entOk x s = false → ∃ n : Int, Ending.returned (one [.int .i64 8]) = .returned (.int .i64 n) ∧ decide (n = 0) = RES ∧ Kp [] w w' := fun w' h e => ⟨8, rfl, by rw [hr, e]; rfl, hk1.tr h⟩
    refine br (fun h5 => ?_) (fun h5 => ?_)
    · exact no _ hkp5 (by unfold entOk; rw [show shpOk s = false by simpa using h5]; rfl)
    have h5 : shpOk s = true := by simpa using h5
    have go : ∀ w', Kp [] w1 w' → entOk x s = true → RES = (entsOk (bodies.drop (k + 1)) (shapes.drop (k + 1)) && natOk bodies shapes nat) := fun w' h e => by rw [hr, e, Bool.true_and]
    refine br_dec (fun h6 => ?_) (fun h6 => ?_)
    · have hx1 : x = [Nd.box] := by
        rcases hxb with e | e
        · rw [e] at h6; simp at h6
        · exact e
      (repeat first | refine ldC ‹Sub _ _› (by assumption) ?_ | refine ld (Cl.cell (by first | assumption | exact Bk.cl (by assumption) rfl)) ?_ | refine ldK (by first | assumption | exact Bk.cl (by assumption) rfl | exact ‹Sub _ _› _ _ _ (by assumption)) ?_)
      refine br_dec (fun h7 => ?_) (fun h7 => ?_)
      · exact no _ hkp5 (by unfold entOk; rw [h5, hx1, decide_eq_false h7]; rfl)
      (repeat first | refine ldC ‹Sub _ _› (by assumption) ?_ | refine ld (Cl.cell (by first | assumption | exact Bk.cl (by assumption) rfl)) ?_ | refine ldK (by first | assumption | exact Bk.cl (by assumption) rfl | exact ‹Sub _ _› _ _ _ (by assumption)) ?_)
      refine br_dec (fun h8 => ?_) (fun h8 => ?_)
      · exact no _ hkp5 (by unfold entOk; rw [h5, hx1, decide_eq_false (show ¬ s.kept.length = 0 by omega)]; simp)
      have hB15 := hB1.kp hkp5 (by simp)
      refine ldN [.slice (some ⟨b, o, none⟩) bodies.length cb, .slice (some ⟨b', o', none⟩) shapes.length cs, .slice am 1 cm, .int .i64 nat, .slice ap 0 cp] rfl (fun j v hj => by rw [Nat.zero_add]; exact hB15.cl hj) ?_
      subst hx1
      obtain ⟨bb, oo, rfl, hbx⟩ := bx_of hslx
      refine ev_call (there_box cx _ k (hbx w5 (hS1.tr hkp5))) ?_
      rintro e w6 ⟨rfl, hk6⟩
      have hkp6 := hkp5.tr hk6
      refine int64 (by omega) (by omega) ?_
      exact ⟨k + 1, by omega, rfl, ⟨rfl, rfl, rfl, rfl, trivial⟩, hlt, hkp6, go _ hkp6 (by unfold entOk; rw [h5, decide_eq_true (show s.params = 0 by simpa using h7), decide_eq_true (show s.kept.length = 0 by omega)]; simp)⟩
    · refine int64 (by omega) (by omega) ?_
      exact ⟨k + 1, by omega, rfl, ⟨rfl, rfl, rfl, rfl, trivial⟩, hlt, hkp5, go _ hkp5 (by unfold entOk; rw [h5, decide_eq_true (show x.length = 0 by omega)]; rfl)⟩
  · rw [List.drop_eq_nil_of_le (by omega)] at hr
    have hr : RES = natOk bodies shapes nat := hr
    refine ldN [.slice ab bodies.length cb, .slice ash shapes.length cs, .slice am 1 cm, .int .i64 nat, .slice ap 0 cp] rfl (fun j v hj => by rw [Nat.zero_add]; exact hB2.cl hj) ?_
    (repeat first | refine ldC ‹Sub _ _› (by assumption) ?_ | refine ld (Cl.cell (by first | assumption | exact Bk.cl (by assumption) rfl)) ?_ | refine ldK (by first | assumption | exact Bk.cl (by assumption) rfl | exact ‹Sub _ _› _ _ _ (by assumption)) ?_)
    obtain ⟨bb, oo, rfl, hbx⟩ := bx_of hm
    refine ev_call (there_box cm _ _ (hbx w2 hS2)) ?_
    rintro e w3 ⟨rfl, hk3⟩
    have hB3 := hB2.kp hk3 (by simp)
    refine ldN [.slice ab bodies.length cb, .slice ash shapes.length cs, .slice (some ⟨bb, oo, none⟩) 1 cm, .int .i64 nat, .slice ap 0 cp] rfl (fun j v hj => by rw [Nat.zero_add]; exact hB3.cl hj) ?_
    refine ev_call (registered_ct (hS2.tr hk3) bodies shapes nat ab ash ap cb cs cp _ hb hs hl) ?_
    rintro e w4 ⟨rfl, hk4⟩
    have hk14 := ((hk1.tr hkp).tr hk3).tr hk4
    refine br (fun h5 => ?_) (fun h5 => ?_)
    · exact ⟨22, rfl, by rw [hr, show natOk bodies shapes nat = false by simpa using h5]; rfl, hk14⟩
    · exact ⟨0, rfl, by rw [hr, show natOk bodies shapes nat = true by simpa using h5]; rfl, hk14⟩
end Go.Proofs.YtjpdkcejkogciaaDoor

