/-
  Code: the checker's plain.
-/
import Derived.Test.YtjogpbiilokldaaCdB
import Derived.Test.YtjogpbiilokldaaWxH
set_option linter.unusedSimpArgs false
set_option linter.unusedVariables false
namespace Go.Proofs.Ytjogpbiilokldaa
open Go.Wx Cd

section
variable {C : Mem} {c : Cod} {code : List Ins} {p bc hb : Nat} {ac : Option Addr} {cc : Nat} {fl : Int} {hc : Nat} {s : List Int × Int} {w : World}

def PlainPost (c : Cod) (n : Ins) (h : Int) (w : World) (r : Ending) (w' : World) : Prop :=
  ∃ pp q ok, r = .returned (.tuple #[.int .i64 pp, .int .i64 q, .bool ok]) ∧ Kp [] w w' ∧ match plainM c n h with
    | some k => ok = true ∧ pp = k ∧ q = 1
    | none => ok = false

theorem plain_post {c : Cod} {n : Ins} {h : Int} {w w' : World} {pp : Int} {ok : Bool} (hk : Kp [] w w') (e : plainM c n h = if ok then some pp else none) : PlainPost c n h w (.returned (one [.int .i64 pp, .int .i64 1, .bool ok])) w' := by
  refine ⟨pp, 1, ok, rfl, hk, ?_⟩
  rw [e]
  cases ok <;> simp

theorem plain_ct (hi : CkIn C c code p bc hb ac) (hl : c.shapes.length ≤ c.bodies.length) (hk : Ck C bc hb ac code.length cc fl hc p s w) (n : Ins) (an : Option Addr) (tc : Nat) (h : Int) (hh : 0 ≤ h ∧ h ≤ 4611686018427387904) (na : I64 n.a) (nb : I64 n.b) :
    CallOk Try.prog 76 ∧ Calls Try.prog 76 #[.pointer (some ⟨p, 0, none⟩), .agg #[.int .i64 n.op, .int .i64 n.a, .int .i64 n.b, .slice an n.to.length tc], .int .i64 h] w (PlainPost c n h w) := by
  refine ⟨⟨_, Try.func76, rfl, by decide⟩, ?_⟩
  refine calls_ev (args := [_, _, _]) 153 [.tmp 6, .tmp 7, .tmp 8] Try.func76 rfl rfl rfl (Nat.le_of_ble_eq_true rfl) ?_
  obtain ⟨a1, c1, a2, c2, a3, c3, a4, c4, k0, k1, k2, k3, k4, h1, h2, h3, h4, h5⟩ := cod_cells hi.cod
  have hs1 := h1.1
  have hs2 := h2.1
  have hs3 := h3.1
  refine ev_seq τok ?_
  refine new fun bn w1 hbn hN hsn hk1 => ?_
  have hN : Bk w1.heap bn [.int .i64 n.op, .int .i64 n.a, .int .i64 n.b, .slice an n.to.length tc] 45 := hN
  have hS : Sub C w1 := hk.sub.tr hk1
  have hkk := hk.kp hk1
  have hB : Bk w1.heap p [.pointer (some ⟨bc, 0, none⟩), .slice ac code.length cc, .int .i64 fl, .slice (some ⟨hb, 0, none⟩) code.length hc, .int .i64 s.2] 113 := hkk.blk
  refine ev_mid τok (fun z : Bool => [(0, .pointer (some ⟨p, 0, none⟩)), (2, .int .i64 h), (4, .pointer (some ⟨bn, 0, none⟩)), (9, .bool z)]) (fun z w' => z = n.zero ∧ w1 = w') ?_ ?_
  · (repeat first | refine ldC ‹Sub _ _› (by assumption) ?_ | refine ld (Cl.cell (by first | assumption | exact Bk.cl (by assumption) rfl)) ?_ | refine ldK (by first | assumption | exact Bk.cl (by assumption) rfl | exact ‹Sub _ _› _ _ _ (by assumption)) ?_)
    refine br_dec (fun ha => ?_) (fun ha => ?_)
    · (repeat first | refine ldC ‹Sub _ _› (by assumption) ?_ | refine ld (Cl.cell (by first | assumption | exact Bk.cl (by assumption) rfl)) ?_ | refine ldK (by first | assumption | exact Bk.cl (by assumption) rfl | exact ‹Sub _ _› _ _ _ (by assumption)) ?_)
      exact ⟨_, rfl, ⟨rfl, rfl, rfl, rfl, trivial⟩, by simp [Ins.zero, ha], rfl⟩
    · exact ⟨_, rfl, ⟨rfl, rfl, rfl, rfl, trivial⟩, by simp [Ins.zero, ha], rfl⟩
  rintro _ _ ⟨rfl, rfl⟩
  refine ev_of τok ?_
  (repeat first | refine ldC ‹Sub _ _› (by assumption) ?_ | refine ld (Cl.cell (by first | assumption | exact Bk.cl (by assumption) rfl)) ?_ | refine ldK (by first | assumption | exact Bk.cl (by assumption) rfl | exact ‹Sub _ _› _ _ _ (by assumption)) ?_)
  refine br_dec (fun o1 => ?_) (fun o1 => ?_)
  · exact plain_post hk1 (by unfold plainM; rw [if_pos o1])
  refine br_dec (fun o2 => ?_) (fun o2 => ?_)
  · refine drawQ τok (fun w' => Kp [] w1 w') (by kernel_rfl) ((Kp.refl [] w1).dr _) ?_
    (repeat first | refine ldC ‹Sub _ _› (by assumption) ?_ | refine ld (Cl.cell (by first | assumption | exact Bk.cl (by assumption) rfl)) ?_ | refine ldK (by first | assumption | exact Bk.cl (by assumption) rfl | exact ‹Sub _ _› _ _ _ (by assumption)) ?_)
    refine callK (fun w' hk' => in_ct _ _ _ w') ?_
    refine br (fun ht => ?_) (fun ht => ?_)
    · (repeat first | refine ldC ‹Sub _ _› (by assumption) ?_ | refine ld (Cl.cell (by first | assumption | exact Bk.cl (by assumption) rfl)) ?_ | refine ldK (by first | assumption | exact Bk.cl (by assumption) rfl | exact ‹Sub _ _› _ _ _ (by assumption)) ?_)
      intro w2 hk2
      exact plain_post (hk1.tr hk2) (by unfold plainM; rw [if_neg o1, if_pos o2, ht, Bool.true_and])
    · intro w2 hk2
      exact plain_post (hk1.tr hk2) (by unfold plainM; rw [if_neg o1, if_pos o2, ht, Bool.false_and])
  refine br_dec (fun o3 => ?_) (fun o3 => ?_)
  · refine drawQ τok (fun w' => Kp [] w1 w') (by kernel_rfl) ((Kp.refl [] w1).dr _) ?_
    (repeat first | refine ldC ‹Sub _ _› (by assumption) ?_ | refine ld (Cl.cell (by first | assumption | exact Bk.cl (by assumption) rfl)) ?_ | refine ldK (by first | assumption | exact Bk.cl (by assumption) rfl | exact ‹Sub _ _› _ _ _ (by assumption)) ?_)
    refine int64 (by omega) (by omega) ?_
    refine callK (fun w' hk' => in_ct _ _ _ w') ?_
    refine br (fun ht => ?_) (fun ht => ?_)
    · (repeat first | refine ldC ‹Sub _ _› (by assumption) ?_ | refine ld (Cl.cell (by first | assumption | exact Bk.cl (by assumption) rfl)) ?_ | refine ldK (by first | assumption | exact Bk.cl (by assumption) rfl | exact ‹Sub _ _› _ _ _ (by assumption)) ?_)
      intro w2 hk2
      exact plain_post (hk1.tr hk2) (by unfold plainM; rw [if_neg o1, if_neg o2, if_pos o3, ht, Bool.true_and])
    · intro w2 hk2
      exact plain_post (hk1.tr hk2) (by unfold plainM; rw [if_neg o1, if_neg o2, if_pos o3, ht, Bool.false_and])
  refine br_dec (fun o4 => ?_) (fun o4 => ?_)
  · refine drawQ τok (fun w' => Kp [] w1 w') (by kernel_rfl) ((Kp.refl [] w1).dr _) ?_
    (repeat first | refine ldC ‹Sub _ _› (by assumption) ?_ | refine ld (Cl.cell (by first | assumption | exact Bk.cl (by assumption) rfl)) ?_ | refine ldK (by first | assumption | exact Bk.cl (by assumption) rfl | exact ‹Sub _ _› _ _ _ (by assumption)) ?_)
    refine int64 (by omega) (by omega) ?_
    refine callK (fun w' hk' => in_ct _ _ _ w') ?_
    refine br (fun ht => ?_) (fun ht => ?_)
    · have hin : 0 ≤ n.a ∧ n.a ≤ c.funs.length - 1 := by simpa [inM] using ht
      obtain ⟨x, hx⟩ : ∃ x, c.funs[n.a.toNat]? = some x := ⟨c.funs[n.a.toNat]'(by omega), by simp⟩
      obtain ⟨b, o, rfl, a', cap, _, _, hcell, _⟩ := sl_fn h2 hx
      (repeat first | refine ldC ‹Sub _ _› (by assumption) ?_ | refine ld (Cl.cell (by first | assumption | exact Bk.cl (by assumption) rfl)) ?_ | refine ldK (by first | assumption | exact Bk.cl (by assumption) rfl | exact ‹Sub _ _› _ _ _ (by assumption)) ?_)
      refine ix n.a.toNat (by omega) (by omega) ?_
      (repeat first | refine ldC ‹Sub _ _› (by assumption) ?_ | refine ld (Cl.cell (by first | assumption | exact Bk.cl (by assumption) rfl)) ?_ | refine ldK (by first | assumption | exact Bk.cl (by assumption) rfl | exact ‹Sub _ _› _ _ _ (by assumption)) ?_)
      intro w2 hk2
      exact plain_post (hk1.tr hk2) (by unfold plainM; rw [if_neg o1, if_neg o2, if_neg o3, if_pos o4, ht, Bool.true_and, hx]; simp)
    · intro w2 hk2
      exact plain_post (hk1.tr hk2) (by unfold plainM; rw [if_neg o1, if_neg o2, if_neg o3, if_pos o4, ht, Bool.false_and])
  refine br_dec (fun o5 => ?_) (fun o5 => ?_)
  · exact plain_post hk1 (by unfold plainM; rw [if_neg o1, if_neg o2, if_neg o3, if_neg o4, if_pos o5])
  refine br_dec (fun o7 => ?_) (fun o7 => ?_)
  · refine drawQ τok (fun w' => Kp [] w1 w') (by kernel_rfl) ((Kp.refl [] w1).dr _) ?_
    (repeat first | refine ldC ‹Sub _ _› (by assumption) ?_ | refine ld (Cl.cell (by first | assumption | exact Bk.cl (by assumption) rfl)) ?_ | refine ldK (by first | assumption | exact Bk.cl (by assumption) rfl | exact ‹Sub _ _› _ _ _ (by assumption)) ?_)
    refine int64 (by omega) (by omega) ?_
    refine callK (fun w' hk' => in_ct _ _ _ w') ?_
    refine br (fun ht => ?_) (fun ht => ?_)
    · have hin : 0 ≤ n.a ∧ n.a ≤ c.bodies.length - 1 := by simpa [inM] using ht
      obtain ⟨x, hx⟩ : ∃ x, c.bodies[n.a.toNat]? = some x := ⟨c.bodies[n.a.toNat]'(by omega), by simp⟩
      obtain ⟨b, o, rfl, a', cap, hcell, hsl'⟩ := h3.sl hx
      (repeat first | refine ldC ‹Sub _ _› (by assumption) ?_ | refine ld (Cl.cell (by first | assumption | exact Bk.cl (by assumption) rfl)) ?_ | refine ldK (by first | assumption | exact Bk.cl (by assumption) rfl | exact ‹Sub _ _› _ _ _ (by assumption)) ?_)
      refine ix n.a.toNat (by omega) (by omega) ?_
      (repeat first | refine ldC ‹Sub _ _› (by assumption) ?_ | refine ld (Cl.cell (by first | assumption | exact Bk.cl (by assumption) rfl)) ?_ | refine ldK (by first | assumption | exact Bk.cl (by assumption) rfl | exact ‹Sub _ _› _ _ _ (by assumption)) ?_)
      refine br_dec (fun hp => ?_) (fun hp => ?_)
      · (repeat first | refine ldC ‹Sub _ _› (by assumption) ?_ | refine ld (Cl.cell (by first | assumption | exact Bk.cl (by assumption) rfl)) ?_ | refine ldK (by first | assumption | exact Bk.cl (by assumption) rfl | exact ‹Sub _ _› _ _ _ (by assumption)) ?_)
        intro w2 hk2
        exact plain_post (hk1.tr hk2) (by unfold plainM; rw [if_neg o1, if_neg o2, if_neg o3, if_neg o4, if_neg o5, if_pos o7, ht, hx, Option.getD_some, decide_eq_true (show 0 < x.length by omega), Bool.true_and, Bool.true_and])
      · intro w2 hk2
        exact plain_post (hk1.tr hk2) (by unfold plainM; rw [if_neg o1, if_neg o2, if_neg o3, if_neg o4, if_neg o5, if_pos o7, ht, hx, Option.getD_some, decide_eq_false (show ¬ 0 < x.length by omega), Bool.true_and, Bool.false_and])
    · intro w2 hk2
      exact plain_post (hk1.tr hk2) (by unfold plainM; rw [if_neg o1, if_neg o2, if_neg o3, if_neg o4, if_neg o5, if_pos o7, ht, Bool.false_and, Bool.false_and])
  refine br_dec (fun o8 => ?_) (fun o8 => ?_)
  · refine drawQ τok (fun w' => Kp [] w1 w') (by kernel_rfl) ((Kp.refl [] w1).dr _) ?_
    (repeat first | refine ldC ‹Sub _ _› (by assumption) ?_ | refine ld (Cl.cell (by first | assumption | exact Bk.cl (by assumption) rfl)) ?_ | refine ldK (by first | assumption | exact Bk.cl (by assumption) rfl | exact ‹Sub _ _› _ _ _ (by assumption)) ?_)
    refine callK (fun w' hk' => ctor_ct hi hl (hkk.kp hk') n.a n.b na) ?_
    intro w2 hk2
    exact plain_post (hk1.tr hk2) (by unfold plainM; rw [if_neg o1, if_neg o2, if_neg o3, if_neg o4, if_neg o5, if_neg o7, if_pos o8])
  refine br_dec (fun o10 => ?_) (fun o10 => ?_)
  · exact plain_post hk1 (by unfold plainM; rw [if_neg o1, if_neg o2, if_neg o3, if_neg o4, if_neg o5, if_neg o7, if_neg o8, if_pos o10])
  refine br_dec (fun o12 => ?_) (fun o12 => ?_)
  · refine drawQ τok (fun w' => Kp [] w1 w') (by kernel_rfl) ((Kp.refl [] w1).dr _) ?_
    (repeat first | refine ldC ‹Sub _ _› (by assumption) ?_ | refine ld (Cl.cell (by first | assumption | exact Bk.cl (by assumption) rfl)) ?_ | refine ldK (by first | assumption | exact Bk.cl (by assumption) rfl | exact ‹Sub _ _› _ _ _ (by assumption)) ?_)
    refine callK (fun w' hk' => in_ct _ _ _ w') ?_
    refine br (fun ht => ?_) (fun ht => ?_)
    · (repeat first | refine ldC ‹Sub _ _› (by assumption) ?_ | refine ld (Cl.cell (by first | assumption | exact Bk.cl (by assumption) rfl)) ?_ | refine ldK (by first | assumption | exact Bk.cl (by assumption) rfl | exact ‹Sub _ _› _ _ _ (by assumption)) ?_)
      intro w2 hk2
      exact plain_post (hk1.tr hk2) (by unfold plainM; rw [if_neg o1, if_neg o2, if_neg o3, if_neg o4, if_neg o5, if_neg o7, if_neg o8, if_neg o10, if_pos o12, ht, Bool.true_and])
    · intro w2 hk2
      exact plain_post (hk1.tr hk2) (by unfold plainM; rw [if_neg o1, if_neg o2, if_neg o3, if_neg o4, if_neg o5, if_neg o7, if_neg o8, if_neg o10, if_pos o12, ht, Bool.false_and])
  refine br_dec (fun o14 => ?_) (fun o14 => ?_)
  · refine drawQ τok (fun w' => Kp [] w1 w') (by kernel_rfl) ((Kp.refl [] w1).dr _) ?_
    (repeat first | refine ldC ‹Sub _ _› (by assumption) ?_ | refine ld (Cl.cell (by first | assumption | exact Bk.cl (by assumption) rfl)) ?_ | refine ldK (by first | assumption | exact Bk.cl (by assumption) rfl | exact ‹Sub _ _› _ _ _ (by assumption)) ?_)
    refine min64Q ?_
    refine int64 (by have := na.1; omega) (by have := na.1; omega) ?_
    (repeat first | refine ldC ‹Sub _ _› (by assumption) ?_ | refine ld (Cl.cell (by first | assumption | exact Bk.cl (by assumption) rfl)) ?_ | refine ldK (by first | assumption | exact Bk.cl (by assumption) rfl | exact ‹Sub _ _› _ _ _ (by assumption)) ?_)
    refine br_dec (fun hp => ?_) (fun hp => ?_)
    · (repeat first | refine ldC ‹Sub _ _› (by assumption) ?_ | refine ld (Cl.cell (by first | assumption | exact Bk.cl (by assumption) rfl)) ?_ | refine ldK (by first | assumption | exact Bk.cl (by assumption) rfl | exact ‹Sub _ _› _ _ _ (by assumption)) ?_)
      intro w2 hk2
      exact plain_post (hk1.tr hk2) (by unfold plainM; rw [if_neg o1, if_neg o2, if_neg o3, if_neg o4, if_neg o5, if_neg o7, if_neg o8, if_neg o10, if_neg o12, if_pos o14, decide_eq_true hp, Bool.true_and])
    · intro w2 hk2
      exact plain_post (hk1.tr hk2) (by unfold plainM; rw [if_neg o1, if_neg o2, if_neg o3, if_neg o4, if_neg o5, if_neg o7, if_neg o8, if_neg o10, if_neg o12, if_pos o14, decide_eq_false hp, Bool.false_and])
  refine ⟨0, 0, false, rfl, hk1, ?_⟩
  unfold plainM
  rw [if_neg o1, if_neg o2, if_neg o3, if_neg o4, if_neg o5, if_neg o7, if_neg o8, if_neg o10, if_neg o12, if_neg o14]
end
end Go.Proofs.Ytjogpbiilokldaa
