/-
  Own texts put together: RcG, RcH, RcK.
-/
import Derived.Test.YtjpdkcejkogciaaDoorMg10
/-
  Code: the reference's Next, walked.
-/
set_option linter.unusedSimpArgs false
set_option linter.unusedVariables false
namespace Go.Proofs.YtjpdkcejkogciaaDoor
open Go.Wx Cd

theorem next20_ct {C : Mem} {w : World} (hS : Sub C w) {cs : List Value} {c : Cod} (hc : rCod.den C cs c) (hco : CodOk c) (i : Nat) (hi : i ≤ 1099511627776) (n : Ins) (an : Option Addr) (tc : Nat) (hto : Sl rInt C an n.to) (na : I64 n.a) (nb : I64 n.b) (h fl : Int) (hh : 0 ≤ h ∧ h ≤ 2305843009213693952) (hf : 0 ≤ fl ∧ fl ≤ 2305843009213693952) :
    CallOk Tryd.prog 79 ∧ Calls Tryd.prog 79 #[.agg cs.toArray, .int .i64 (i : Int), .agg #[.int .i64 n.op, .int .i64 n.a, .int .i64 n.b, .slice an n.to.length tc], .int .i64 h, .int .i64 fl] w (NextPost c i n h fl w) := by
  refine ⟨⟨_, Tryd.func79, rfl, by decide⟩, ?_⟩
  obtain ⟨a1, c1, a2, c2, a3, c3, a4, c4, rfl, h1, h2, h3, h4, h5⟩ := hc
  have hs1 := h1.1
  have hs2 := h2.1
  have hs3 := h3.1
  have htl := hto.1
  refine calls_ev (args := [_, _, _, _, _]) 389 [.tmp 10, .tmp 11] Tryd.func79 rfl rfl rfl (Nat.le_of_ble_eq_true rfl) ?_
  refine ev_seq τok ?_
  refine new fun b5 w0 hb5 hB5 hs0 hk0 => ?_
  refine new fun b7 w1 hb7 hB7 hs1' hk1' => ?_
  have hB5 : Bk w1.heap b5 [.int .i64 c.nat, .slice a1 c.shapes.length c1, .slice a2 c.funs.length c2, .slice a3 c.bodies.length c3, .slice a4 c.main.length c4] 41 := Bk.kp hB5 hk1' (by simp)
  have hB7 : Bk w1.heap b7 [.int .i64 n.op, .int .i64 n.a, .int .i64 n.b, .slice an n.to.length tc] 50 := hB7
  have hk1 := hk0.tr hk1'
  have hS1 := hS.tr hk1
  refine ev_mid τok (fun z : Bool => [(1, .int .i64 (i : Int)), (3, .int .i64 h), (4, .int .i64 fl), (5, .pointer (some ⟨b5, 0, none⟩)), (7, .pointer (some ⟨b7, 0, none⟩)), (12, .bool z)]) (fun z w' => z = n.zero ∧ w1 = w') ?_ ?_
  · (repeat first | refine ldC ‹Sub _ _› (by assumption) ?_ | refine ld (Cl.cell (by first | assumption | exact Bk.cl (by assumption) rfl)) ?_ | refine ldK (by first | assumption | exact Bk.cl (by assumption) rfl | exact ‹Sub _ _› _ _ _ (by assumption)) ?_)
    refine br_dec (fun ha => ?_) (fun ha => ?_)
    · (repeat first | refine ldC ‹Sub _ _› (by assumption) ?_ | refine ld (Cl.cell (by first | assumption | exact Bk.cl (by assumption) rfl)) ?_ | refine ldK (by first | assumption | exact Bk.cl (by assumption) rfl | exact ‹Sub _ _› _ _ _ (by assumption)) ?_)
      exact ⟨_, rfl, ⟨rfl, rfl, rfl, rfl, rfl, rfl, trivial⟩, by simp [Ins.zero, ha], rfl⟩
    · exact ⟨_, rfl, ⟨rfl, rfl, rfl, rfl, rfl, rfl, trivial⟩, by simp [Ins.zero, ha], rfl⟩
  rintro _ _ ⟨rfl, rfl⟩
  obtain ⟨z, hz⟩ : ∃ z, z = n.zero := ⟨_, rfl⟩
  rw [← hz]
  refine ev_mid τok (fun d : Bool => [(1, .int .i64 (i : Int)), (3, .int .i64 h), (4, .int .i64 fl), (5, .pointer (some ⟨b5, 0, none⟩)), (7, .pointer (some ⟨b7, 0, none⟩)), (12, .bool z), (13, .bool d)]) (fun d w' => d = decide (n.to.length = 0) ∧ w1 = w') ?_ ?_
  · (repeat first | refine ldC ‹Sub _ _› (by assumption) ?_ | refine ld (Cl.cell (by first | assumption | exact Bk.cl (by assumption) rfl)) ?_ | refine ldK (by first | assumption | exact Bk.cl (by assumption) rfl | exact ‹Sub _ _› _ _ _ (by assumption)) ?_)
    exact ⟨_, rfl, ⟨rfl, rfl, rfl, rfl, rfl, rfl, rfl, trivial⟩, by simp, rfl⟩
  rintro D _ ⟨hD, rfl⟩
  refine ev_seq τok ?_
  refine ev_mid τok (fun y : Bool => [(1, .int .i64 (i : Int)), (3, .int .i64 h), (4, .int .i64 fl), (5, .pointer (some ⟨b5, 0, none⟩)), (7, .pointer (some ⟨b7, 0, none⟩)), (12, .bool z), (13, .bool D), (14, .int .i64 0), (15, .bool y)]) (fun y w' => y = (D && z) ∧ w1 = w') ?_ ?_
  · refine br (fun e => ?_) (fun e => ?_)
    · have e : z = true := e
      exact ⟨_, rfl, ⟨rfl, rfl, rfl, rfl, rfl, rfl, rfl, rfl, rfl, trivial⟩, by rw [e]; simp, rfl⟩
    · have e : z = false := e
      exact ⟨_, rfl, ⟨rfl, rfl, rfl, rfl, rfl, rfl, rfl, rfl, rfl, trivial⟩, by rw [e]; simp, rfl⟩
  rintro y _ ⟨hy, rfl⟩
  refine ev_mid τok (fun x : Int × Bool => [(1, .int .i64 (i : Int)), (3, .int .i64 h), (4, .int .i64 fl), (14, .int .i64 x.1), (15, .bool x.2)])
    (fun x w' => Kp [] w1 w' ∧ (x.2 = true → -4611686018427387904 ≤ x.1 ∧ x.1 ≤ 4611686018427387904) ∧ nextM c i n h fl = if x.2 then (if x.1 ≤ h - fl then some [((i : Int) + 1, h - x.1 + 1)] else none) else none) ?_ ?_
  · refine ld (hB7.cl rfl).cell ?_
    refine br_dec (fun o1 => ?_) (fun o1 => ?_)
    · refine ⟨(0, y), rfl, ⟨rfl, rfl, rfl, rfl, rfl, trivial⟩, Kp.refl _ _, by simp, ?_⟩
      rw [nxt (by omega) (by omega) (by omega) (by omega) (pl1 o1), ← hD, ← hz, ← hy]
    have no : ∀ {w2 : World} (p : Int), Kp [] w1 w2 → nextM c i n h fl = none → Kp [] w1 w2 ∧ (false = true → -4611686018427387904 ≤ p ∧ p ≤ 4611686018427387904) ∧ nextM c i n h fl = if false = true then (if p ≤ h - fl then some [((i : Int) + 1, h - p + 1)] else none) else none := fun p k e => ⟨k, (by simp), by rw [e]; rfl⟩
    refine br_dec (fun o2 => ?_) (fun o2 => ?_)
    · have he := nxt (c := c) (i := i) (fl := fl) (by omega) (by omega) (by omega) (by omega) (pl2 (c := c) (h := h) o2)
      rw [← hD] at he
      refine br (fun d => ?_) (fun d => ?_)
      · have d : D = true := d
        (repeat first | refine ldC ‹Sub _ _› (by assumption) ?_ | refine ld (Cl.cell (by first | assumption | exact Bk.cl (by assumption) rfl)) ?_ | refine ldK (by first | assumption | exact Bk.cl (by assumption) rfl | exact ‹Sub _ _› _ _ _ (by assumption)) ?_)
        refine ev_call (within20_ct _ _ _ w1) ?_
        rintro e w2 ⟨rfl, hk2⟩
        refine br (fun ht => ?_) (fun ht => ?_)
        · refine ld ((hB7.kp hk2 (by simp)).cl rfl).cell ?_
          exact ⟨(0, decide (n.b = 0)), rfl, ⟨rfl, rfl, rfl, rfl, rfl, trivial⟩, hk2, by simp, by rw [he, d, ht]; simp⟩
        · exact ⟨(0, false), rfl, ⟨rfl, rfl, rfl, rfl, rfl, trivial⟩, no 0 hk2 (by rw [he, ht]; simp)⟩
      · have d : D = false := d
        exact ⟨(0, false), rfl, ⟨rfl, rfl, rfl, rfl, rfl, trivial⟩, no 0 (Kp.refl _ _) (by rw [he, d]; simp)⟩
    refine br_dec (fun o3 => ?_) (fun o3 => ?_)
    · have he := nxt (c := c) (i := i) (fl := fl) (by omega) (by omega) (by omega) (by omega) (pl3 (c := c) (h := h) o3)
      rw [← hD] at he
      refine br (fun d => ?_) (fun d => ?_)
      · have d : D = true := d
        (repeat first | refine ldC ‹Sub _ _› (by assumption) ?_ | refine ld (Cl.cell (by first | assumption | exact Bk.cl (by assumption) rfl)) ?_ | refine ldK (by first | assumption | exact Bk.cl (by assumption) rfl | exact ‹Sub _ _› _ _ _ (by assumption)) ?_)
        refine int64 (by omega) (by omega) ?_
        refine ev_call (within20_ct _ _ _ w1) ?_
        rintro e w2 ⟨rfl, hk2⟩
        refine br (fun ht => ?_) (fun ht => ?_)
        · refine ld ((hB7.kp hk2 (by simp)).cl rfl).cell ?_
          exact ⟨(0, decide (n.b = 0)), rfl, ⟨rfl, rfl, rfl, rfl, rfl, trivial⟩, hk2, by simp, by rw [he, d, ht]; simp⟩
        · exact ⟨(0, false), rfl, ⟨rfl, rfl, rfl, rfl, rfl, trivial⟩, no 0 hk2 (by rw [he, ht]; simp)⟩
      · have d : D = false := d
        exact ⟨(0, false), rfl, ⟨rfl, rfl, rfl, rfl, rfl, trivial⟩, no 0 (Kp.refl _ _) (by rw [he, d]; simp)⟩
    refine br_dec (fun o4 => ?_) (fun o4 => ?_)
    · have he := nxt (c := c) (i := i) (fl := fl) (by omega) (by omega) (by omega) (by omega) (pl4 (c := c) (h := h) o4)
      rw [← hD] at he
      refine br (fun d => ?_) (fun d => ?_)
      · have d : D = true := d
        (repeat first | refine ldC ‹Sub _ _› (by assumption) ?_ | refine ld (Cl.cell (by first | assumption | exact Bk.cl (by assumption) rfl)) ?_ | refine ldK (by first | assumption | exact Bk.cl (by assumption) rfl | exact ‹Sub _ _› _ _ _ (by assumption)) ?_)
        refine int64 (by omega) (by omega) ?_
        refine ev_call (within20_ct _ _ _ w1) ?_
        rintro e w2 ⟨rfl, hk2⟩
        have hB72 := hB7.kp hk2 (by simp)
        have hB52 := hB5.kp hk2 (by simp)
        obtain ⟨T, hT⟩ : ∃ t, inM n.a 0 ((c.funs.length : Int) - 1) = t := ⟨_, rfl⟩
        rw [hT]
        cases T with
        | true =>
          have hin : 0 ≤ n.a ∧ n.a ≤ c.funs.length - 1 := by simpa [inM] using hT
          obtain ⟨f, hx⟩ : ∃ x, c.funs[n.a.toNat]? = some x := ⟨c.funs[n.a.toNat]'(by omega), by simp⟩
          obtain ⟨b, o, rfl, a', cap, _, _, hcell, _⟩ := sl_fn h2 hx
          have hcaps := hco.caps f (List.mem_of_getElem? hx)
          refine drawR τok (by kernel_rfl) ?_
          refine ldR (hB72.cl rfl) ?_
          refine ldR (hB52.cl rfl) ?_
          refine ldR (hB72.cl rfl) ?_
          refine ix n.a.toNat (by omega) (by omega) ?_
          refine ldR ((hS1.tr hk2) _ _ _ hcell) ?_
          intro m'
          refine ld (hB72.cl rfl).cell ?_
          refine ⟨(n.b, decide (n.b = f.caps)), rfl, ⟨rfl, rfl, rfl, rfl, rfl, trivial⟩, hk2.dr _, by simp; omega, ?_⟩
          rw [he, d, hT, hx]
          simp
        | false =>
          refine drawR τok (by kernel_rfl) ?_
          intro m'
          refine ld (hB72.cl rfl).cell ?_
          exact ⟨(n.b, false), rfl, ⟨rfl, rfl, rfl, rfl, rfl, trivial⟩, no _ (hk2.dr _) (by rw [he, hT]; simp)⟩
      · have d : D = false := d
        refine drawR τok (by kernel_rfl) ?_
        intro m'
        refine ld (hB7.cl rfl).cell ?_
        exact ⟨(n.b, false), rfl, ⟨rfl, rfl, rfl, rfl, rfl, trivial⟩, no _ ((Kp.refl _ _).dr _) (by rw [he, d]; simp)⟩
    refine br_dec (fun o5 => ?_) (fun o5 => ?_)
    · refine ⟨(2, y), rfl, ⟨rfl, rfl, rfl, rfl, rfl, trivial⟩, Kp.refl _ _, by simp, ?_⟩
      rw [nxt (by omega) (by omega) (by omega) (by omega) (pl5 o5), ← hD, ← hz, ← hy]
    refine br_dec (fun o6 => ?_) (fun o6 => ?_)
    · have he : nextM c i n h fl = if (y && decide (h - fl = 1)) then some [] else none := by
        unfold nextM
        rw [if_pos o6, hy, hD, hz]
        by_cases q1 : n.zero = true <;> by_cases q2 : n.to.length = 0 <;> simp [q1, q2]
      refine br (fun e => ?_) (fun e => ?_)
      · have e : y = true := e
        refine int64 (by omega) (by omega) ?_
        refine ⟨_, _, rfl, hk1, ?_⟩
        rw [he, e]
        by_cases g : h = fl + 1
        · rw [decide_eq_true (show h - fl = 1 by omega)]
          exact ⟨by simpa using g, none, 0, rfl, Sl.nil _ _ _⟩
        · simp [show ¬ h - fl = 1 by omega]
          omega
      · have e : y = false := e
        exact next_no _ hk1 (by rw [he, e]; simp)
    refine br_dec (fun o7 => ?_) (fun o7 => ?_)
    · have he := nxt (c := c) (i := i) (fl := fl) (by omega) (by omega) (by omega) (by omega) (pl7 (c := c) (h := h) o7)
      rw [← hD] at he
      refine br (fun d => ?_) (fun d => ?_)
      · have d : D = true := d
        (repeat first | refine ldC ‹Sub _ _› (by assumption) ?_ | refine ld (Cl.cell (by first | assumption | exact Bk.cl (by assumption) rfl)) ?_ | refine ldK (by first | assumption | exact Bk.cl (by assumption) rfl | exact ‹Sub _ _› _ _ _ (by assumption)) ?_)
        refine int64 (by omega) (by omega) ?_
        refine ev_call (within20_ct _ _ _ w1) ?_
        rintro e w2 ⟨rfl, hk2⟩
        have hB72 := hB7.kp hk2 (by simp)
        have hB52 := hB5.kp hk2 (by simp)
        refine br (fun ht => ?_) (fun ht => ?_)
        · have hin : 0 ≤ n.a ∧ n.a ≤ c.bodies.length - 1 := by simpa [inM] using ht
          obtain ⟨x, hx⟩ : ∃ x, c.bodies[n.a.toNat]? = some x := ⟨c.bodies[n.a.toNat]'(by omega), by simp⟩
          obtain ⟨b, o, rfl, a', cap, hcell, hsl'⟩ := h3.sl hx
          refine ld (hB72.cl rfl).cell ?_
          refine br_dec (fun q => ?_) (fun q => ?_)
          · have q : n.b = 0 := q
            refine ld (hB52.cl rfl).cell ?_
            refine ld (hB72.cl rfl).cell ?_
            refine ix n.a.toNat (by omega) (by omega) ?_
            refine ld ((hS1.tr hk2) _ _ _ hcell).cell ?_
            refine ⟨(0, decide ((0 : Int) < x.length)), rfl, ⟨rfl, rfl, rfl, rfl, rfl, trivial⟩, hk2, by simp, ?_⟩
            rw [he, d, ht, hx, decide_eq_true q]
            simp
          · have q : ¬ n.b = 0 := q
            exact ⟨(0, false), rfl, ⟨rfl, rfl, rfl, rfl, rfl, trivial⟩, no 0 hk2 (by rw [he, decide_eq_false q]; simp)⟩
        · exact ⟨(0, false), rfl, ⟨rfl, rfl, rfl, rfl, rfl, trivial⟩, no 0 hk2 (by rw [he, ht]; simp)⟩
      · have d : D = false := d
        exact ⟨(0, false), rfl, ⟨rfl, rfl, rfl, rfl, rfl, trivial⟩, no 0 (Kp.refl _ _) (by rw [he, d]; simp)⟩
    refine br_dec (fun o8 => ?_) (fun o8 => ?_)
    · have he := nxt (c := c) (i := i) (fl := fl) (by omega) (by omega) (by omega) (by omega) (pl8 (c := c) (h := h) o8)
      rw [← hD] at he
      unfold I64 at na
      refine br (fun d => ?_) (fun d => ?_)
      · have d : D = true := d
        (repeat first | refine ldC ‹Sub _ _› (by assumption) ?_ | refine ld (Cl.cell (by first | assumption | exact Bk.cl (by assumption) rfl)) ?_ | refine ldK (by first | assumption | exact Bk.cl (by assumption) rfl | exact ‹Sub _ _› _ _ _ (by assumption)) ?_)
        refine int64 (by omega) (by omega) ?_
        refine int64 (by omega) (by omega) ?_
        refine ev_call (within20_ct _ _ _ w1) ?_
        rintro e w2 ⟨rfl, hk2⟩
        have hB72 := hB7.kp hk2 (by simp)
        have hB52 := hB5.kp hk2 (by simp)
        have hS2 := hS1.tr hk2
        obtain ⟨T, hT⟩ : ∃ t, inM n.a 0 (16 * (c.shapes.length : Int) - 1) = t := ⟨_, rfl⟩
        rw [hT]
        cases T with
        | true =>
          have hin : 0 ≤ n.a ∧ n.a ≤ 16 * c.shapes.length - 1 := by simpa [inM] using hT
          have hbl := hco.len
          obtain ⟨x, hx⟩ : ∃ x, c.bodies[(n.a / 16).toNat]? = some x := ⟨c.bodies[(n.a / 16).toNat]'(by omega), by simp⟩
          obtain ⟨b, o, rfl, a', cap, hcell, hsl'⟩ := h3.sl hx
          obtain ⟨s, hsx⟩ : ∃ x, c.shapes[(n.a / 16).toNat]? = some x := ⟨c.shapes[(n.a / 16).toNat]'(by omega), by simp⟩
          obtain ⟨bs, os, rfl, ak, ck, hkept, _, _, hck⟩ := sl_shp h1 hsx
          have hkl := hkept.1
          have hkm : keptM c (n.a / 16) = s.kept := by simp [keptM, hsx]
          have hfm : famM c (n.a / 16) = decide (x.length = 0) := by
            simp [famM, inM, hx]
            omega
          refine drawR τok (by kernel_rfl) ?_
          refine ldR (hB52.cl rfl) ?_
          refine ldR (hB72.cl rfl) ?_
          refine quo64Q hin.1 na.2 (by omega) ?_
          refine ix (n.a / 16).toNat (by omega) (by omega) ?_
          refine ldR (hS2 _ _ _ hcell) ?_
          refine br_dec (fun g => ?_) (fun g => ?_)
          · have g : (x.length : Int) = 0 := g
            refine ldR (hB72.cl rfl) ?_
            refine rem64Q hin.1 (by omega) ?_
            refine ldR (hB52.cl rfl) ?_
            refine ldR (hB72.cl rfl) ?_
            refine quo64Q hin.1 na.2 (by omega) ?_
            refine ix (n.a / 16).toNat (by omega) (by omega) ?_
            refine ldR (hS2 _ _ _ hck) ?_
            intro m'
            refine drawR τok (by kernel_rfl) ?_
            refine br_dec (fun g2 => ?_) (fun g2 => ?_)
            · have g2 : n.a % 16 < s.kept.length := g2
              obtain ⟨q, hq⟩ : ∃ y, s.kept[(n.a % 16).toNat]? = some y := ⟨s.kept[(n.a % 16).toNat]'(by omega), by simp⟩
              obtain ⟨bq, oq, rfl, aq, cq, hcq, hslq⟩ := hkept.sl hq
              have hql := hslq.1
              refine ldR (hB72.cl rfl) ?_
              refine ldR (hB52.cl rfl) ?_
              refine ldR (hB72.cl rfl) ?_
              refine quo64Q hin.1 na.2 (by omega) ?_
              refine ix (n.a / 16).toNat (by omega) (by omega) ?_
              refine ldR (hS2 _ _ _ hck) ?_
              refine ldR (hB72.cl rfl) ?_
              refine rem64Q hin.1 (by omega) ?_
              refine ix (n.a % 16).toNat (by omega) (by omega) ?_
              refine ldR (hS2 _ _ _ hcq) ?_
              intro m''
              refine ld (hB72.cl rfl).cell ?_
              refine ⟨(n.b, decide (n.b = (q.length : Int))), rfl, ⟨rfl, rfl, rfl, rfl, rfl, trivial⟩, (hk2.dr _).dr _, by simp; omega, ?_⟩
              have hct : ctorM c n.a n.b = decide (n.b = (q.length : Int)) := by
                simp [ctorM, hfm, hkm, hq, hin.1, show x.length = 0 by omega, eq_comm]
              rw [he, d, hct, Bool.true_and]
            · have g2 : ¬ n.a % 16 < s.kept.length := g2
              have hq : s.kept[(n.a % 16).toNat]? = none := by simp; omega
              intro m''
              refine ld (hB72.cl rfl).cell ?_
              exact ⟨(n.b, false), rfl, ⟨rfl, rfl, rfl, rfl, rfl, trivial⟩, no _ ((hk2.dr _).dr _) (by rw [he]; simp [ctorM, hkm, hq])⟩
          · have g : ¬ (x.length : Int) = 0 := g
            intro m'
            refine drawR τok (by kernel_rfl) ?_
            intro m''
            refine ld (hB72.cl rfl).cell ?_
            exact ⟨(n.b, false), rfl, ⟨rfl, rfl, rfl, rfl, rfl, trivial⟩, no _ ((hk2.dr _).dr _) (by rw [he]; simp [ctorM, hfm, show ¬ x.length = 0 by omega])⟩
        | false =>
          have hct : ctorM c n.a n.b = false := by
            by_cases h0 : 0 ≤ n.a
            · have hn : ¬ n.a ≤ 16 * (c.shapes.length : Int) - 1 := by
                intro hle
                have : inM n.a 0 (16 * (c.shapes.length : Int) - 1) = true := by simp [inM, h0, hle]
                rw [this] at hT
                cases hT
              have : famM c (n.a / 16) = false := by
                have h9 : ¬ n.a / 16 ≤ (c.shapes.length : Int) - 1 := by omega
                simp [famM, inM, h9]
              simp [ctorM, this]
            · simp [ctorM, h0]
          refine drawR τok (by kernel_rfl) ?_
          intro m'
          refine drawR τok (by kernel_rfl) ?_
          intro m''
          refine ld (hB72.cl rfl).cell ?_
          exact ⟨(n.b, false), rfl, ⟨rfl, rfl, rfl, rfl, rfl, trivial⟩, no _ ((hk2.dr _).dr _) (by rw [he, hct]; simp)⟩
      · have d : D = false := d
        refine drawR τok (by kernel_rfl) ?_
        intro m'
        refine drawR τok (by kernel_rfl) ?_
        intro m''
        refine ld (hB7.cl rfl).cell ?_
        exact ⟨(n.b, false), rfl, ⟨rfl, rfl, rfl, rfl, rfl, trivial⟩, no _ (((Kp.refl _ _).dr _).dr _) (by rw [he, d]; simp)⟩
    refine br_dec (fun o9 => ?_) (fun o9 => ?_)
    · have he : nextM c i n h fl = if 1 ≤ h - fl then armsM c n h else none := by
        unfold nextM
        rw [if_neg (by omega), if_neg (by omega), if_neg (by omega), if_pos o9]
      have hno : armsM c n h = none → nextM c i n h fl = none := fun e => by rw [he, e]; simp
      (repeat first | refine ldC ‹Sub _ _› (by assumption) ?_ | refine ld (Cl.cell (by first | assumption | exact Bk.cl (by assumption) rfl)) ?_ | refine ldK (by first | assumption | exact Bk.cl (by assumption) rfl | exact ‹Sub _ _› _ _ _ (by assumption)) ?_)
      refine int64 (by omega) (by omega) ?_
      refine ev_call (within20_ct _ _ _ w1) ?_
      rintro e w2 ⟨rfl, hk2⟩
      have hB72 := hB7.kp hk2 (by simp)
      have hB52 := hB5.kp hk2 (by simp)
      have hS2 := hS1.tr hk2
      have hk02 := hk1.tr hk2
      have dead : ∀ m', armsM c n h = none → NextPost c i n h fl w (.returned (.tuple #[.slice none 0 0, .bool false])) { w2 with drawn := m' } := fun m' e => next_no _ (hk02.dr _) (hno e)
      refine br (fun ht => ?_) (fun ht => ?_)
      rotate_left
      · refine drawR τok (by kernel_rfl) ?_
        intro m'
        exact dead m' (by simp [armsM, famM, ht])
      have hin : 0 ≤ n.a ∧ n.a ≤ c.shapes.length - 1 := by simpa [inM] using ht
      have hbl := hco.len
      obtain ⟨x, hx⟩ : ∃ x, c.bodies[n.a.toNat]? = some x := ⟨c.bodies[n.a.toNat]'(by omega), by simp⟩
      obtain ⟨b, o, rfl, a', cap, hcell, hsl'⟩ := h3.sl hx
      obtain ⟨s, hsx⟩ : ∃ x, c.shapes[n.a.toNat]? = some x := ⟨c.shapes[n.a.toNat]'(by omega), by simp⟩
      obtain ⟨bs, os, rfl, ak, ck, hkept, _, _, hck⟩ := sl_shp h1 hsx
      have hkl := hkept.1
      have hkm : keptM c n.a = s.kept := by simp [keptM, hsx]
      have hfm : famM c n.a = decide (x.length = 0) := by simp [famM, ht, hx]
      refine ld (hB72.cl rfl).cell ?_
      refine ld (hB52.cl rfl).cell ?_
      refine drawR τok (by kernel_rfl) ?_
      refine br_dec (fun g1 => ?_) (fun g1 => ?_)
      rotate_left
      · have g1 : n.a = c.nat := by simpa using g1
        intro m'
        exact dead m' (by simp [armsM, g1])
      have g1 : ¬ n.a = c.nat := g1
      refine ldR (hB52.cl rfl) ?_
      refine ldR (hB72.cl rfl) ?_
      refine ix n.a.toNat (by omega) (by omega) ?_
      refine ldR (hS2 _ _ _ hcell) ?_
      refine br_dec (fun g2 => ?_) (fun g2 => ?_)
      rotate_left
      · have g2 : ¬ (x.length : Int) = 0 := g2
        intro m'
        exact dead m' (by simp [armsM, hfm, show ¬ x.length = 0 by omega])
      have g2 : (x.length : Int) = 0 := g2
      refine ldR (hB72.cl rfl) ?_
      refine br_dec (fun g3 => ?_) (fun g3 => ?_)
      rotate_left
      · have g3 : ¬ 1 ≤ n.b := g3
        intro m'
        exact dead m' (by simp [armsM, g3])
      have g3 : 1 ≤ n.b := g3
      refine ldR (hB72.cl rfl) ?_
      refine ldR (hB52.cl rfl) ?_
      refine ldR (hB72.cl rfl) ?_
      refine ix n.a.toNat (by omega) (by omega) ?_
      refine ldR (hS2 _ _ _ hck) ?_
      refine br_dec (fun g4 => ?_) (fun g4 => ?_)
      rotate_left
      · have g4 : ¬ n.b = s.kept.length := g4
        intro m'
        exact dead m' (by simp [armsM, hkm, g4])
      have g4 : n.b = s.kept.length := g4
      refine ldR (hB72.cl rfl) ?_
      refine ldR (hB72.cl rfl) ?_
      refine int64 (by omega) (by omega) ?_
      intro m'
      refine br_ndec (fun g5 => ?_) (fun g5 => ?_)
      rotate_left
      · have g5 : ¬ (n.to.length : Int) = 2 * n.b := g5
        exact dead m' (by simp [armsM, g5])
      have g5 : (n.to.length : Int) = 2 * n.b := g5
      refine br_dec (fun g6 => ?_) (fun g6 => ?_)
      · have g6 : h ≤ fl := g6
        exact next_no _ (hk02.dr _) (by rw [he, if_neg (by omega)])
      have g6 : ¬ h ≤ fl := g6
      have hea : nextM c i n h fl = armsL s.kept n.to h := by
        rw [he, if_pos (by omega), armsM, hkm, hfm, if_pos ?_]
        simp [show x.length = 0 by omega, g1, g3, g4]
        omega
      have kd : Kp [] w2 { w2 with drawn := m' } := (Kp.refl [] w2).dr _
      refine lp τok (σ := Nat × Value × List (Int × Int)) (fun q => [(3, .int .i64 h), (5, .pointer (some ⟨b5, 0, none⟩)), (7, .pointer (some ⟨b7, 0, none⟩)), (16, q.2.1), (17, .int .i64 (q.1 : Int))])
        (fun q w' => q.1 ≤ s.kept.length ∧ Kp [] w2 w' ∧ Own rPair 139 w2.heap.size w' q.2.1 q.2.2 ∧ q.2.2.length = q.1 ∧ armsL s.kept n.to h = (armsL (s.kept.drop q.1) (n.to.drop (2 * q.1)) h).map (q.2.2 ++ ·)) (fun q => s.kept.length - q.1) (0, .slice none 0 0, []) rfl
        ⟨rfl, rfl, rfl, rfl, rfl, trivial⟩ ⟨Nat.zero_le _, kd, Own.nil rPair 139 kd.size, rfl, by simp⟩ ?_
      rintro ⟨j, v, pre⟩ w3 ⟨hj, hk3, hO, hpl, hea'⟩
      simp only at hj hO hpl hea'
      have hB73 := hB72.kp hk3 (by simp)
      have hB53 := hB52.kp hk3 (by simp)
      have hS3 := hS2.tr hk3
      refine ld (hB73.cl rfl).cell ?_
      refine br_dec (fun g7 => ?_) (fun g7 => ?_)
      · have g7 : (j : Int) < n.b := g7
        have hlt : j < s.kept.length := by omega
        obtain ⟨q, hq, hqd⟩ := drop_get hlt
        obtain ⟨bq, oq, rfl, aq, cq, hcq, hslq⟩ := hkept.sl hq
        have hql := hslq.1
        obtain ⟨t, htj, htd⟩ := drop_get (l := n.to) (k := 2 * j) (by omega)
        obtain ⟨m, hmj, hmd⟩ := drop_get (l := n.to) (k := 2 * j + 1) (by omega)
        obtain ⟨bt, ot, rfl, hct, ht64⟩ := hto.int htj
        obtain ⟨bt', ot', hbe, hcm, hm64⟩ := hto.int hmj
        cases hbe
        rw [hqd, htd, hmd] at hea'
        simp only [armsL] at hea'
        refine ld (hB53.cl rfl).cell ?_
        refine ld (hB73.cl rfl).cell ?_
        refine ix n.a.toNat (by omega) (by omega) ?_
        refine ld (hS3 _ _ _ hck).cell ?_
        refine ix j rfl hlt ?_
        refine ld (hS3 _ _ _ hcq).cell ?_
        refine ld (hB73.cl rfl).cell ?_
        refine int64 (by omega) (by omega) ?_
        refine int64 (by omega) (by omega) ?_
        refine ix (2 * j + 1) (by omega) (by omega) ?_
        refine ld (hS3 _ _ _ hcm).cell ?_
        refine br_dec (fun g8 => ?_) (fun g8 => ?_)
        · have g8 : ¬ m = (q.length : Int) := g8
          rw [if_neg g8] at hea'
          exact next_no _ (hk02.tr hk3) (by rw [hea, hea']; rfl)
        have g8 : m = (q.length : Int) := by simpa using g8
        rw [if_pos g8] at hea'
        refine ld (hB73.cl rfl).cell ?_
        refine int64 (by omega) (by omega) ?_
        refine ix (2 * j) (by omega) (by omega) ?_
        refine ld (hS3 _ _ _ hct).cell ?_
        refine int64 (by omega) (by omega) ?_
        refine int64 (by omega) (by omega) ?_
        refine pair_build _ _ ?_
        refine pair_lit [(t, h - 1 + (q.length : Int))] (.inl rfl) fun b4 w4 hb4 hB4 hs4 hk4 => ?_
        refine pair_ap (hO.kp hk4) (t, h - 1 + (q.length : Int)) ⟨ht64, by unfold I64; simp only; omega⟩ hB4 (by omega) fun v' w5 hO5 hk5 => ?_
        have k25 : Kp [] w2 w5 := (hk3.tr hk4).own hk5 (hO.kp hk4)
        refine int64 (by (try simp only); omega) (by (try simp only); omega) ?_
        refine ⟨(j + 1, v', pre ++ [(t, h - 1 + (q.length : Int))]), by simp only; omega, rfl, ⟨rfl, rfl, rfl, rfl, rfl, trivial⟩, hlt, k25, hO5, by simp; omega, ?_⟩
        simp only
        rw [hea', show 2 * (j + 1) = 2 * j + 1 + 1 by omega, Option.map_map]
        congr 1
        funext l
        simp
      · have g7 : ¬ (j : Int) < n.b := g7
        rw [List.drop_eq_nil_of_le (by omega)] at hea'
        simp only [armsL, Option.map_some, List.append_nil] at hea'
        obtain ⟨av, cv, rfl, hSv⟩ := hO.den (by omega)
        exact next_yes (hk02.tr hk3) (hea.trans hea') (hSv.mono fun b o u hu => ⟨by have := hu.1; have := hk02.size; omega, hu.2⟩)
    refine br_dec (fun o10 => ?_) (fun o10 => ?_)
    · refine ⟨(1, y), rfl, ⟨rfl, rfl, rfl, rfl, rfl, trivial⟩, Kp.refl _ _, by simp, ?_⟩
      rw [nxt (by omega) (by omega) (by omega) (by omega) (pl10 o10), ← hD, ← hz, ← hy]
    refine br_dec (fun o11 => ?_) (fun o11 => ?_)
    · have he : nextM c i n h fl = if (z && decide (n.to.length = 1) && decide (1 ≤ h - fl)) then some [(n.to.getD 0 0, h - 1), ((i : Int) + 1, h)] else none := by
        unfold nextM
        rw [if_neg (by omega), if_neg (by omega), if_pos o11, hz]
      cases z with
      | false => exact next_no _ hk1 (by rw [he]; simp)
      | true =>
        refine ld (hB7.cl rfl).cell ?_
        refine br_dec (fun q => ?_) (fun q => ?_)
        · have q : ¬ (n.to.length : Int) = 1 := q
          exact next_no _ hk1 (by rw [he]; simp; omega)
        have q : (n.to.length : Int) = 1 := by simpa using q
        refine br_dec (fun g => ?_) (fun g => ?_)
        · have g : h ≤ fl := g
          exact next_no _ hk1 (by rw [he]; simp; omega)
        have g : ¬ h ≤ fl := g
        obtain ⟨x, hx, _⟩ := drop_get (l := n.to) (k := 0) (by omega)
        obtain ⟨bt, ot, rfl, hcell, hx64⟩ := hto.int hx
        have hx0 : n.to.getD 0 0 = x := by simp [List.getD, hx]
        refine ld (hB7.cl rfl).cell ?_
        refine ix 0 rfl (by omega) ?_
        refine ld (hS1 _ _ _ hcell).cell ?_
        refine int64 (by omega) (by omega) ?_
        refine pair_build _ _ ?_
        refine int64 (by omega) (by omega) ?_
        refine pair_build _ _ ?_
        refine pair_lit [(x, h - 1), ((i : Int) + 1, h)] (.inr rfl) fun b3 w3 hb3 hB3 hs3' hk3 => ?_
        have z2 := hk1.size
        refine ⟨_, _, rfl, hk1.tr hk3, ?_⟩
        rw [he, hx0, decide_eq_true (show n.to.length = 1 by omega), decide_eq_true (show 1 ≤ h - fl by omega)]
        refine ⟨rfl, _, _, rfl, pairs_row (by omega) hB3 (fun v hv => ?_) (by simp)⟩
        unfold I64 at *
        simp at hv
        rcases hv with rfl | rfl <;> simp only <;> omega
    refine br_dec (fun o12 => ?_) (fun o12 => ?_)
    · have he := nxt (c := c) (i := i) (fl := fl) (by omega) (by omega) (by omega) (by omega) (pl12 (c := c) (h := h) o12)
      rw [← hD] at he
      refine br (fun d => ?_) (fun d => ?_)
      · have d : D = true := d
        (repeat first | refine ldC ‹Sub _ _› (by assumption) ?_ | refine ld (Cl.cell (by first | assumption | exact Bk.cl (by assumption) rfl)) ?_ | refine ldK (by first | assumption | exact Bk.cl (by assumption) rfl | exact ‹Sub _ _› _ _ _ (by assumption)) ?_)
        refine ev_call (within20_ct _ _ _ w1) ?_
        rintro e w2 ⟨rfl, hk2⟩
        refine br (fun ht => ?_) (fun ht => ?_)
        · refine ld ((hB7.kp hk2 (by simp)).cl rfl).cell ?_
          exact ⟨(2, decide (n.b = 0)), rfl, ⟨rfl, rfl, rfl, rfl, rfl, trivial⟩, hk2, by simp, by rw [he, d, ht]; simp⟩
        · exact ⟨(2, false), rfl, ⟨rfl, rfl, rfl, rfl, rfl, trivial⟩, no _ hk2 (by rw [he, ht]; simp)⟩
      · have d : D = false := d
        exact ⟨(2, false), rfl, ⟨rfl, rfl, rfl, rfl, rfl, trivial⟩, no _ (Kp.refl _ _) (by rw [he, d]; simp)⟩
    refine br_dec (fun o13 => ?_) (fun o13 => ?_)
    · have he : nextM c i n h fl = if (z && decide (n.to.length = 1)) then some [(n.to.getD 0 0, h)] else none := by
        unfold nextM
        rw [if_neg (by omega), if_pos o13, hz]
      cases z with
      | false => exact next_no _ hk1 (by rw [he]; simp)
      | true =>
        refine ld (hB7.cl rfl).cell ?_
        refine br_dec (fun q => ?_) (fun q => ?_)
        · have q : ¬ (n.to.length : Int) = 1 := q
          exact next_no _ hk1 (by rw [he]; simp; omega)
        have q : (n.to.length : Int) = 1 := by simpa using q
        obtain ⟨x, hx, _⟩ := drop_get (l := n.to) (k := 0) (by omega)
        obtain ⟨bt, ot, rfl, hcell, hx64⟩ := hto.int hx
        have hx0 : n.to.getD 0 0 = x := by simp [List.getD, hx]
        refine ld (hB7.cl rfl).cell ?_
        refine ix 0 rfl (by omega) ?_
        refine ld (hS1 _ _ _ hcell).cell ?_
        refine pair_build _ _ ?_
        refine pair_lit [(x, h)] (.inl rfl) fun b3 w3 hb3 hB3 hs3' hk3 => ?_
        have z2 := hk1.size
        refine ⟨_, _, rfl, hk1.tr hk3, ?_⟩
        rw [he, hx0, decide_eq_true (show n.to.length = 1 by omega)]
        refine ⟨rfl, _, _, rfl, pairs_row (by omega) hB3 (fun v hv => ?_) (by simp)⟩
        unfold I64 at *
        simp at hv
        subst hv
        simp only
        omega
    refine br_dec (fun o14 => ?_) (fun o14 => ?_)
    · have he := nx14 (c := c) (n := n) (h := h) (i := i) (fl := fl) o14 hh.1 hf.1
      rw [← hD] at he
      unfold I64 at na
      refine br (fun d => ?_) (fun d => ?_)
      · have d : D = true := d
        (repeat first | refine ldC ‹Sub _ _› (by assumption) ?_ | refine ld (Cl.cell (by first | assumption | exact Bk.cl (by assumption) rfl)) ?_ | refine ldK (by first | assumption | exact Bk.cl (by assumption) rfl | exact ‹Sub _ _› _ _ _ (by assumption)) ?_)
        refine ev_call (within20_ct _ _ _ w1) ?_
        rintro e w2 ⟨rfl, hk2⟩
        have hB72 := hB7.kp hk2 (by simp)
        refine br (fun ht => ?_) (fun ht => ?_)
        · have hin : 1 ≤ n.a ∧ n.a ≤ h := by simpa [inM] using ht
          refine ld (hB72.cl rfl).cell ?_
          refine ld (hB72.cl rfl).cell ?_
          refine int64 (by omega) (by omega) ?_
          exact ⟨(n.a + 1, decide (n.b = 0)), rfl, ⟨rfl, rfl, rfl, rfl, rfl, trivial⟩, hk2, by simp; omega, by rw [he, d, ht]; simp⟩
        · refine ld (hB72.cl rfl).cell ?_
          refine intw ?_
          exact ⟨(_, false), rfl, ⟨rfl, rfl, rfl, rfl, rfl, trivial⟩, no _ hk2 (by rw [he, ht]; simp)⟩
      · have d : D = false := d
        refine ld (hB7.cl rfl).cell ?_
        refine intw ?_
        exact ⟨(_, false), rfl, ⟨rfl, rfl, rfl, rfl, rfl, trivial⟩, no _ (Kp.refl _ _) (by rw [he, d]; simp)⟩
    refine ⟨(0, false), rfl, ⟨rfl, rfl, rfl, rfl, rfl, trivial⟩, no _ (Kp.refl _ _) ?_⟩
    rw [nxt o6 o9 o11 o13 (pl0 o1 o2 o3 o4 o5 o7 o8 o10 o12 o14)]
    simp
  rintro ⟨p, ok⟩ w2 ⟨hk2, hb, he⟩
  simp only at hb he
  refine ev_of τok ?_
  have hk02 := hk1.tr hk2
  cases ok with
  | true =>
    obtain ⟨hb1, hb2⟩ := hb rfl
    simp only [if_true] at he
    refine int64 (by omega) (by omega) ?_
    refine int64 (by omega) (by omega) ?_
    refine int64 (by omega) (by omega) ?_
    refine pair_build _ _ ?_
    refine pair_lit [((i : Int) + 1, h - p + 1)] (.inl rfl) fun b3 w3 hb3 hB3 hs3' hk3 => ?_
    refine int64 (by omega) (by omega) ?_
    have z2 := hk02.size
    refine ⟨_, _, rfl, hk02.tr hk3, ?_⟩
    rw [he]
    by_cases g : p ≤ h - fl
    · rw [if_pos g]
      refine ⟨by simp; omega, _, _, rfl, pairs_row (by omega) hB3 (fun x hx => ?_) (by simp)⟩
      simp only [List.mem_singleton] at hx
      subst hx
      unfold I64
      simp only
      omega
    · rw [if_neg g]
      simp
      omega
  | false =>
    simp only [Bool.false_eq_true, if_false] at he
    refine int64 (by omega) (by omega) ?_
    refine intw ?_
    refine intw ?_
    refine pair_build _ _ ?_
    refine pair_lit [(_, _)] (.inl rfl) fun b3 w3 hb3 hB3 hs3' hk3 => ?_
    exact next_no _ (hk02.tr hk3) he
end Go.Proofs.YtjpdkcejkogciaaDoor

/-
  Code: the reference's Block.
-/
set_option linter.unusedSimpArgs false
set_option linter.unusedVariables false
namespace Go.Wx
def RowB (h : Array Obj) (b : Nat) (l : List Bool) (T : TypeId) : Prop := Bk h b (l.map Value.bool) T
theorem RowB.cl {h : Array Obj} {b : Nat} {l : List Bool} {T : TypeId} (hb : RowB h b l T) {k : Nat} (hk : k < l.length) : Cl h b (0 + k * 1) (.bool (l.getD k false)) := Bk.cl hb (by simp [hk])
theorem RowB.kp {X : List Nat} {w w' : World} {b : Nat} {l : List Bool} {T : TypeId} (hb : RowB w.heap b l T) (h : Kp X w w') (hx : b ∉ X) : RowB w'.heap b l T := Bk.kp hb h hx
theorem stB {w : World} {b k : Nat} {x : Bool} {K : World → Prop} {l : List Bool} {T : TypeId} (hb : RowB w.heap b l T) (hk : k < l.length)
    (h : ∀ w', RowB w'.heap b (l.set k x) T → w'.heap.size = w.heap.size → Kp [b] w w' → K w') : EvSt w ⟨b, 0 + k * 1, none⟩ (.bool x) K := by
  refine st hb (by simpa using hk) rfl fun w' hb' hs hkp => h w' ?_ hs hkp
  unfold RowB
  have : (l.set k x).map Value.bool = (l.map Value.bool).set (0 + k * 1) (.bool x) := by simp [List.map_set]
  rw [this]
  exact hb'
end Go.Wx
namespace Cd
/-- heights where met, and which are met, against heights with -1 for 'not met' -/
structure Met (len : Nat) (H : List Int) (M : List Bool) (s : List Int) : Prop where
  h : H.length = len
  m : M.length = len
  sl : s.length = len
  eq : ∀ j, j < len → s.getD j 0 = if M.getD j false then H.getD j 0 else -1
  pos : ∀ j, M.getD j false = true → 0 ≤ H.getD j 0
theorem Met.set {len : Nat} {H : List Int} {M : List Bool} {s : List Int} (k : Met len H M s) {t : Nat} (ht : t < len) (x : Int) (hx : 0 ≤ x) : Met len (H.set t x) (M.set t true) (s.set t x) := by
  refine ⟨by simp [k.h], by simp [k.m], by simp [k.sl], fun j hj => ?_, fun j hj => ?_⟩
  rotate_left
  · by_cases e : t = j
    · subst e
      simp [List.getD_eq_getElem?_getD, List.getElem?_set, k.h, ht, hx]
    · simp only [List.getD_eq_getElem?_getD] at hj ⊢
      rw [List.getElem?_set_ne e] at hj ⊢
      exact k.pos j (by simpa [List.getD_eq_getElem?_getD] using hj)
  have h1 := k.h
  have h2 := k.m
  have h3 := k.sl
  by_cases e : t = j
  · subst e
    simp [List.getD_eq_getElem?_getD, List.getElem?_set, h1, h2, h3, hj]
  · have := k.eq j hj
    simp only [List.getD_eq_getElem?_getD] at this ⊢
    rw [List.getElem?_set_ne e, List.getElem?_set_ne e, List.getElem?_set_ne e]
    exact this
end Cd
namespace Go.Proofs.YtjpdkcejkogciaaDoor
open Go.Wx Cd

theorem block20_ct {C : Mem} {w : World} (hS : Sub C w) {cs : List Value} {c : Cod} (hc : rCod.den C cs c) (hco : CodOk c) (code : List Ins) (ac : Option Addr) (cc : Nat) (hcode : Sl rIns C ac code) (hlen : code.length ≤ 1048576) (fl : Int) (hf : 0 ≤ fl ∧ fl ≤ 256) :
    CallOk Tryd.prog 54 ∧ Calls Tryd.prog 54 #[.agg cs.toArray, .slice ac code.length cc, .int .i64 fl] w (fun e w' => e = .returned (.tuple #[.bool (blockM c code fl).isSome, .int .i64 ((blockM c code fl).getD 0)]) ∧ Kp [] w w') := by
  obtain ⟨RES, hRES⟩ : ∃ r, blockM c code fl = r := ⟨_, rfl⟩
  rw [hRES]
  have hc0 := hc
  obtain ⟨a1, c1, a2, c2, a3, c3, a4, c4, rfl, h1, h2, h3, h4, h5⟩ := hc
  refine ⟨⟨_, Tryd.func54, rfl, by decide⟩, ?_⟩
  refine calls_of (args := [_, _, _]) 110 [.tmp 6, .tmp 7] τok Tryd.func54 rfl rfl rfl (Nat.le_of_ble_eq_true rfl) ?_
  refine new fun b3 w1 hb3 hB3 hs1 hk1 => ?_
  have hB3 : Bk w1.heap b3 [.int .i64 c.nat, .slice a1 c.shapes.length c1, .slice a2 c.funs.length c2, .slice a3 c.bodies.length c3, .slice a4 c.main.length c4] 41 := hB3
  refine br_dec (fun h0 => ?_) (fun h0 => ?_)
  · have : RES = none := by rw [← hRES]; unfold blockM; rw [if_pos (by omega)]
    subst this
    exact ⟨rfl, hk1⟩
  have h0 : 0 < code.length := by omega
  refine mk τok rfl rfl code.length rfl (by decide) (by omega) (by omega) fun b9 w2 hb9 hB9 hs2 hk2 => ?_
  refine mk τok rfl rfl code.length rfl (by decide) (by omega) (by omega) fun b10 w3 hb10 hB10 hs3 hk3 => ?_
  rw [rep_one] at hB9 hB10
  have hR9 : RowI w3.heap b9 (List.replicate code.length 0) 3 := by
    have := hB9.kp hk3 (by simp)
    unfold RowI
    simpa [zc] using this
  have hR10 : RowB w3.heap b10 (List.replicate code.length false) 4 := by
    unfold RowB
    simpa [zc] using hB10
  have hb9l := Bk.lt hR9
  have z1 := hk1.size
  refine ix 0 rfl h0 ?_
  refine stI hR9 (by simpa using h0) fun w4 hR9 hs4 hk4 => ?_
  have hR10 := hR10.kp hk4 (by simp; omega)
  refine ix 0 rfl h0 ?_
  refine stB hR10 (by simpa using h0) fun w5 hR10 hs5 hk5 => ?_
  have hR9 := hR9.kp hk5 (by simp; omega)
  have k13 := hk2.tr hk3
  have k14 : Kp [] w1 w4 := k13.trans hk4 (fun x hx hl => by simp at hx; omega)
  have k15 : Kp [] w1 w5 := k14.trans hk5 (fun x hx hl => by simp at hx; omega)
  have hblk : RES = blkM c code.length fl 0 code (fl :: List.replicate (code.length - 1) (-1), fl) := by
    rw [← hRES]; unfold blockM; rw [if_neg (by omega)]
  have hmet : Met code.length ((List.replicate code.length (0 : Int)).set 0 fl) ((List.replicate code.length false).set 0 true) (fl :: List.replicate (code.length - 1) (-1)) := by
    have e0 : (List.replicate code.length (-1 : Int)).set 0 fl = fl :: List.replicate (code.length - 1) (-1) := by
      cases hq : code.length with
      | zero => omega
      | succ m => simp [List.replicate_succ]
    rw [← e0]
    refine Met.set ⟨by simp, by simp, by simp, fun j hj => ?_, fun j hj => ?_⟩ h0 fl hf.1
    · simp [List.getD_eq_getElem?_getD, hj]
    · simp [List.getD_eq_getElem?_getD, List.getElem?_replicate] at hj
      split at hj <;> simp at hj
  refine lp τok (σ := Nat × List Int × List Bool × List Int × Int) (fun q => [(1, .slice ac code.length cc), (2, .int .i64 fl), (3, .pointer (some ⟨b3, 0, none⟩)), (8, .int .i64 q.2.2.2.2), (9, .slice (some ⟨b9, 0, none⟩) code.length code.length), (10, .slice (some ⟨b10, 0, none⟩) code.length code.length), (11, .int .i64 (q.1 : Int))])
    (fun q w' => q.1 ≤ code.length ∧ Kp [b9, b10] w5 w' ∧ RowI w'.heap b9 q.2.1 3 ∧ RowB w'.heap b10 q.2.2.1 4 ∧ Met code.length q.2.1 q.2.2.1 q.2.2.2.1 ∧ RES = blkM c code.length fl q.1 (code.drop q.1) (q.2.2.2.1, q.2.2.2.2) ∧ Hb fl (256 + q.1 * 1099511627776) (q.2.2.2.1, q.2.2.2.2)) (fun q => code.length - q.1)
    (0, (List.replicate code.length (0 : Int)).set 0 fl, (List.replicate code.length false).set 0 true, fl :: List.replicate (code.length - 1) (-1), fl) rfl ⟨rfl, rfl, rfl, rfl, rfl, rfl, rfl, trivial⟩ ⟨Nat.zero_le _, Kp.refl _ _, hR9, hR10, hmet, hblk, ?_⟩ ?_
  · refine ⟨fun x hx => ?_, by simp, by simp; omega⟩
    simp at hx
    rcases hx with rfl | ⟨_, rfl⟩
    · right; simp; omega
    · left; rfl
  rintro ⟨k, H, M, S, mo⟩ w6 ⟨hk6, hkp, hR9, hR10, hmet, hres, hhb⟩
  simp only at hk6 hR9 hR10 hmet hres hhb
  have own : ∀ {u}, Kp [b9, b10] w5 u → Kp [] w1 u := fun k => k15.trans k (fun x hx hl => by simp at hx; omega)
  have hb10l := Bk.lt hR10
  refine br_dec (fun g1 => ?_) (fun g1 => ?_)
  · have hlt : k < code.length := by omega
    obtain ⟨n, hn, hdn⟩ := drop_get hlt
    obtain ⟨bi, oi, rfl, an, tc, hto, i1, i2, i3, hcells⟩ := sl_ins hcode hn
    rw [hdn] at hres
    simp only [blkM] at hres
    have hm1 := hmet.m
    have hm2 := hmet.h
    have hm3 := hmet.sl
    have hek := hmet.eq k hlt
    refine ix k rfl hlt ?_
    refine ld (RowB.cl hR10 (by omega)).cell ?_
    refine br (fun g2 => ?_) (fun g2 => ?_)
    · have g2 : M.getD k false = false := by simpa using g2
      rw [g2] at hek
      have : RES = none := by rw [hres, if_pos (by simpa using hek)]
      subst this
      exact ⟨rfl, hk1.tr (own hkp)⟩
    have g2 : M.getD k false = true := by simpa using g2
    rw [g2] at hek
    simp only [if_true] at hek
    have hB36 := hB3.kp (own hkp) (by simp)
    have hS6 := (hS.tr hk1).tr (own hkp)
    refine drawG τok (fun u => Kp [] w6 u) ?_
    refine readsG τok [0, 1, 2, 3, 4, 5, 6, 7, 8, 9, 10] 6 #[true, true, true, true, true, true, true, true, true, true, true, false, false, false, false, false, false] rfl rfl (by kernel_rfl) (by kernel_rfl) (by kernel_rfl) ((Kp.refl _ _).dr _) ?_
    refine ldNK [.int .i64 c.nat, .slice a1 c.shapes.length c1, .slice a2 c.funs.length c2, .slice a3 c.bodies.length c3, .slice a4 c.main.length c4] rfl (fun j v hj => by rw [Nat.zero_add]; exact hB36.cl hj) ?_
    refine ix k rfl hlt ?_
    refine ldNK [.int .i64 n.op, .int .i64 n.a, .int .i64 n.b, .slice an n.to.length tc] rfl (fun j v hj => hS6 _ _ _ (hcells j v hj)) ?_
    refine ix k rfl hlt ?_
    refine ldK (RowI.cl hR9 (by omega)) ?_
    rw [show S.getD k 0 = H.getD k 0 from hek] at hres
    have hkS : k < S.length := by omega
    have hmem := hhb.1 _ (getD_mem0 hkS)
    rw [show S.getD k 0 = H.getD k 0 from hek] at hmem
    have hpos := hmet.pos k g2
    have hne : ¬ H.getD k 0 = -1 := by omega
    rw [if_neg hne] at hres
    have hgb : fl ≤ H.getD k 0 ∧ H.getD k 0 ≤ 2305843009213693952 := by
      rcases hmem with h | h
      · exact absurd h hne
      · refine ⟨h.1, ?_⟩
        have : (k : Int) * 1099511627776 ≤ 1048576 * 1099511627776 := Int.mul_le_mul_of_nonneg_right (by omega) (by omega)
        omega
    have hone : oneM c code.length fl k n (S, mo) = (nextM c k n (H.getD k 0) fl).bind fun l => goM code.length k l (S, mo) := by
      unfold oneM
      simp only
      rw [show S.getD k 0 = H.getD k 0 from hek]
    rw [hone] at hres
    refine nextG τok 11 5 #[true, true, true, true, true, true, true, true, true, true, true, true, false, false, false, false, false] rfl rfl rfl (by kernel_rfl) ?_
    refine ev_call (next20_ct (hS6.dr _) hc0 hco k (by omega) n an tc hto i2 i3 (H.getD k 0) fl ⟨hpos, hgb.2⟩ ⟨hf.1, by omega⟩) ?_
    rintro e w7 ⟨v, ok, rfl, hk7, hpost⟩
    have hk7 : Kp [] w6 w7 := hk7.rd
    refine ⟨.inl hk7, ?_⟩
    refine readsG τok [12, 13] 3 #[true, true, true, true, true, true, true, true, true, true, true, true, true, true, false, false, false] rfl rfl (by kernel_rfl) (by kernel_rfl) (by kernel_rfl) hk7 ?_
    refine readsG τok [14] 2 #[true, true, true, true, true, true, true, true, true, true, true, true, true, true, true, false, false] rfl rfl (by kernel_rfl) (by kernel_rfl) (by kernel_rfl) hk7 ?_
    refine nextG τok 15 1 #[true, true, true, true, true, true, true, true, true, true, true, true, true, true, true, true, false] rfl rfl rfl (by kernel_rfl) ?_
    refine ⟨.inl hk7, ?_⟩
    refine nextG τok 16 0 #[true, true, true, true, true, true, true, true, true, true, true, true, true, true, true, true, true] rfl rfl rfl (by kernel_rfl) ?_
    refine ⟨.inl hk7, ?_⟩
    refine doneG (by kernel_rfl) ?_
    have k57 : Kp [b9, b10] w5 w7 := hkp.tr hk7
    cases hnx : nextM c k n (H.getD k 0) fl with
    | none =>
      rw [hnx] at hpost hres
      subst hpost
      have : RES = none := hres
      subst this
      exact ⟨rfl, hk1.tr (own k57)⟩
    | some l =>
      rw [hnx] at hpost hres
      obtain ⟨rfl, al, cl, rfl, hSl⟩ := hpost
      have hSl : Sl rPair (New w6.heap.size w7) al l := hSl
      have hll := hSl.1
      have hres : RES = (goM code.length k l (S, mo)).bind (blkM c code.length fl (k + 1) (code.drop (k + 1))) := hres
      have hbd := nextM_bd hco hgb.1 hf.1 hnx
      refine lp τok (σ := Nat × List Int × List Bool × List Int × Int) (fun q => [(1, .slice (some ⟨bi, oi, none⟩) code.length cc), (2, .int .i64 fl), (3, .pointer (some ⟨b3, 0, none⟩)), (8, .int .i64 q.2.2.2.2), (9, .slice (some ⟨b9, 0, none⟩) code.length code.length), (10, .slice (some ⟨b10, 0, none⟩) code.length code.length), (11, .int .i64 (k : Int)), (12, .slice al l.length cl), (14, .int .i64 (q.1 : Int))])
        (fun q w' => q.1 ≤ l.length ∧ Kp [b9, b10] w7 w' ∧ RowI w'.heap b9 q.2.1 3 ∧ RowB w'.heap b10 q.2.2.1 4 ∧ Met code.length q.2.1 q.2.2.1 q.2.2.2.1 ∧ goM code.length k l (S, mo) = goM code.length k (l.drop q.1) (q.2.2.2.1, q.2.2.2.2)) (fun q => l.length - q.1)
        (0, H, M, S, mo) rfl ⟨rfl, rfl, rfl, rfl, rfl, rfl, rfl, rfl, rfl, trivial⟩ ⟨Nat.zero_le _, Kp.refl _ _, hR9.kp hk7 (by simp), hR10.kp hk7 (by simp), hmet, rfl⟩ ?_
      rintro ⟨j, H', M', S', mo'⟩ w8 ⟨hj, hk8, hR9, hR10, hmet, hgo⟩
      simp only at hj hR9 hR10 hmet hgo
      have k58 : Kp [b9, b10] w5 w8 := k57.trans hk8 (fun x hx _ => hx)
      have bad : goM code.length k l (S, mo) = none → RES = none := fun e => by rw [hres, e]; rfl
      refine br_dec (fun g3 => ?_) (fun g3 => ?_)
      · have hltj : j < l.length := by omega
        obtain ⟨x, hx, hxd⟩ := drop_get hltj
        obtain ⟨bl, ol, rfl, hc0', hc1', x1, x2⟩ := sl_pair hSl hx
        rw [hxd] at hgo
        simp only [goM, goesM] at hgo
        have e0 : Cl w8.heap bl (ol + j * 2) (.int .i64 x.1) := hc0'.2.cl.kp hk8 (by have := hc0'.1; simp; omega)
        have e1 : Cl w8.heap bl (ol + j * 2 + 1) (.int .i64 x.2) := hc1'.2.cl.kp hk8 (by have := hc1'.1; simp; omega)
        refine ix j rfl hltj ?_
        refine pair_at 0 (by omega) rfl ?_
        refine ld e0.cell ?_
        refine ix j rfl hltj ?_
        refine pair_at 1 (by omega) rfl ?_
        refine ld e1.cell ?_
        have hx2 := (hbd x (List.mem_of_getElem? hx)).1
        have fin0 : goM code.length k l (S, mo) = none → (Ending.returned (one [.bool false, .int .i64 0]) = .returned (.tuple #[.bool RES.isSome, .int .i64 (RES.getD 0)]) ∧ Kp [] w w8) := fun e => by
          rw [bad e]
          exact ⟨rfl, hk1.tr (own k58)⟩
        refine br_dec (fun q1 => ?_) (fun q1 => ?_)
        · have q1 : x.1 ≤ (k : Int) := q1
          exact fin0 (by rw [hgo, if_pos (.inl q1)]; rfl)
        have q1 : ¬ x.1 ≤ (k : Int) := q1
        refine br_dec (fun q2 => ?_) (fun q2 => ?_)
        · have q2 : (code.length : Int) ≤ x.1 := q2
          exact fin0 (by rw [hgo, if_pos (.inr q2)]; rfl)
        have q2 : ¬ (code.length : Int) ≤ x.1 := q2
        rw [if_neg (by omega)] at hgo
        obtain ⟨t, ht⟩ : ∃ t : Nat, x.1 = t := ⟨x.1.toNat, by omega⟩
        have htl : t < code.length := by omega
        have hm1 := hmet.m
        have hm2 := hmet.h
        have hm3 := hmet.sl
        have het := hmet.eq t htl
        rw [show x.1.toNat = t by omega] at hgo
        refine ix t ht htl ?_
        refine ld (RowB.cl hR10 (by omega)).cell ?_
        refine br (fun q3 => ?_) (fun q3 => ?_)
        · have q3 : M'.getD t false = true := q3
          rw [q3] at het
          simp only [if_true] at het
          have hp := hmet.pos t q3
          rw [show S'.getD t 0 = H'.getD t 0 from het, if_neg (by omega)] at hgo
          refine ix t ht htl ?_
          refine ld (RowI.cl hR9 (by omega)).cell ?_
          refine br_dec (fun q4 => ?_) (fun q4 => ?_)
          · have q4 : ¬ H'.getD t 0 = x.2 := q4
            exact fin0 (by rw [hgo, if_neg q4]; rfl)
          have q4 : H'.getD t 0 = x.2 := by simpa using q4
          rw [if_pos q4] at hgo
          refine max64 ?_
          refine ix t ht htl ?_
          refine stB hR10 (by omega) fun w9 hR10 hs9 hk9 => ?_
          have hR9 := hR9.kp hk9 (by simp; omega)
          refine ix t ht htl ?_
          refine stI hR9 (by omega) fun w10 hR9 hs10 hk10 => ?_
          have hR10 := hR10.kp hk10 (by simp; omega)
          refine int64 (by (try simp only); omega) (by (try simp only); omega) ?_
          have k810 : Kp [b9, b10] w7 w10 := (hk8.trans hk9 (fun y hy _ => by simp at hy; simp [hy])).trans hk10 (fun y hy _ => by simp at hy; simp [hy])
          have hSs : S'.set t x.2 = S' := by
            have h9 : S'[t]? = some x.2 := by
              have h8 : t < S'.length := by omega
              rw [List.getElem?_eq_getElem h8]
              rw [List.getD_eq_getElem?_getD, List.getElem?_eq_getElem h8] at het
              simp only [Option.getD_some] at het
              rw [het, q4]
            have h8 : t < S'.length := by omega
            rw [List.getElem?_eq_getElem h8] at h9
            have h7 : S'[t] = x.2 := Option.some.inj h9
            rw [← h7]
            exact List.set_getElem_self h8
          refine ⟨(j + 1, H'.set t x.2, M'.set t true, S', max mo' x.2), by simp only; omega, rfl, ⟨rfl, rfl, rfl, rfl, rfl, rfl, rfl, rfl, rfl, trivial⟩, hltj, k810, hR9, hR10, ?_, hgo⟩
          have := hmet.set htl x.2 (by omega)
          rw [hSs] at this
          exact this
        · have q3 : M'.getD t false = false := q3
          rw [q3] at het
          simp only [Bool.false_eq_true, if_false] at het
          rw [if_pos het] at hgo
          refine max64 ?_
          refine ix t ht htl ?_
          refine stB hR10 (by omega) fun w9 hR10 hs9 hk9 => ?_
          have hR9 := hR9.kp hk9 (by simp; omega)
          refine ix t ht htl ?_
          refine stI hR9 (by omega) fun w10 hR9 hs10 hk10 => ?_
          have hR10 := hR10.kp hk10 (by simp; omega)
          refine int64 (by (try simp only); omega) (by (try simp only); omega) ?_
          have k810 : Kp [b9, b10] w7 w10 := (hk8.trans hk9 (fun y hy _ => by simp at hy; simp [hy])).trans hk10 (fun y hy _ => by simp at hy; simp [hy])
          exact ⟨(j + 1, H'.set t x.2, M'.set t true, S'.set t x.2, max mo' x.2), by simp only; omega, rfl, ⟨rfl, rfl, rfl, rfl, rfl, rfl, rfl, rfl, rfl, trivial⟩, hltj, k810, hR9, hR10, hmet.set htl x.2 (by omega), hgo⟩
      · rw [List.drop_eq_nil_of_le (by omega)] at hgo
        simp only [goM] at hgo
        refine int64 (by (try simp only); omega) (by (try simp only); omega) ?_
        rw [hgo] at hres
        refine ⟨(k + 1, H', M', S', mo'), by simp only; omega, rfl, ⟨rfl, rfl, rfl, rfl, rfl, rfl, rfl, trivial⟩, hlt, k58, hR9, hR10, hmet, hres, ?_⟩
        have hB' : (256 + ((k : Nat) : Int) * 1099511627776) + 1099511627776 = 256 + ((k + 1 : Nat) : Int) * 1099511627776 := by
          rw [Int.natCast_add, Int.add_mul]; omega
        have hle : H.getD k 0 ≤ 256 + ((k : Nat) : Int) * 1099511627776 := by
          rcases hmem with h | h
          · exact absurd h hne
          · exact h.2
        refine (goM_hb (B := 256 + ((k + 1 : Nat) : Int) * 1099511627776) hgo (hhb.mono (by omega)) fun t ht => ?_).1
        have := hbd t ht
        omega
  · rw [List.drop_eq_nil_of_le (by omega)] at hres
    have : RES = some mo := hres
    subst this
    exact ⟨rfl, hk1.tr (own hkp)⟩
end Go.Proofs.YtjpdkcejkogciaaDoor

/-
  Code: the reference's bare terms, at rows that are one box.
-/
set_option linter.unusedSimpArgs false
set_option linter.unusedVariables false
namespace Go.Proofs.YtjpdkcejkogciaaDoor
open Go.Wx Cd

theorem within15_ct (n lo hi : Int) (w : World) : CallOk Tryd.prog 49 ∧ Calls Tryd.prog 49 #[.int .i64 n, .int .i64 lo, .int .i64 hi] w (fun e w' => e = .returned (.bool (inM n lo hi)) ∧ Kp [] w w') := by
  refine ⟨⟨_, Tryd.func49, rfl, by decide⟩, ?_⟩
  refine calls_of (args := [_, _, _]) 15 [.tmp 6] τok Tryd.func49 rfl rfl rfl (Nat.le_of_ble_eq_true rfl) ?_
  refine br_dec (fun h => ?_) (fun h => ?_)
  · exact ⟨by simp [one, inM, h], Kp.refl _ _⟩
  · exact ⟨by simp [one, inM, h], Kp.refl _ _⟩

theorem count_box (w : World) : CallOk Tryd.prog 104 ∧ Calls Tryd.prog 104 #[.agg #[.int .i64 22, .int .i64 0, .int .i64 0]] w (fun e w' => e = .returned (.tuple #[.int .i64 0, .bool true]) ∧ Kp [] w w') := by
  refine ⟨⟨_, Tryd.func104, rfl, by decide⟩, ?_⟩
  refine calls_of (args := [_]) 83 [.tmp 2, .tmp 3] τok Tryd.func104 rfl rfl rfl (Nat.le_of_ble_eq_true rfl) ?_
  refine new fun b1 w1 hb1 hB1 hs1 hk1 => ?_
  have hB1 : Bk w1.heap b1 [.int .i64 22, .int .i64 0, .int .i64 0] 47 := hB1
  (repeat first | refine ldC ‹Sub _ _› (by assumption) ?_ | refine ld (Cl.cell (by first | assumption | exact Bk.cl (by assumption) rfl)) ?_ | refine ldK (by first | assumption | exact Bk.cl (by assumption) rfl | exact ‹Sub _ _› _ _ _ (by assumption)) ?_)
  exact ⟨rfl, hk1⟩

theorem read_box {w : World} {b o : Nat} (cap : Nat) (hx : Bx w b o) : CallOk Tryd.prog 93 ∧ Calls Tryd.prog 93 #[.slice (some ⟨b, o, none⟩) 1 cap] w
    (fun e w' => e = .returned (.tuple #[.agg #[.int .i64 22, .int .i64 0, .int .i64 0, .slice none 0 0], .int .i64 1, .bool true]) ∧ Kp [] w w') := by
  refine ⟨⟨_, Tryd.func93, rfl, by decide⟩, ?_⟩
  refine calls_of (args := [_]) 58 [.cell 2 127, .tmp 3, .tmp 4] τok Tryd.func93 rfl rfl rfl (Nat.le_of_ble_eq_true rfl) ?_
  refine new fun b2 w1 hb2 hB2 hs1 hk1 => ?_
  have hB2 : Bk w1.heap b2 [.int .i64 0, .int .i64 0, .int .i64 0, .slice none 0 0] 127 := hB2
  have hx1 := hx.kp hk1 (by simp)
  refine ix 0 rfl (by decide) ?_
  refine ldN [.int .i64 22, .int .i64 0, .int .i64 0] rfl (fun j v hj => by simpa using hx1.cells j v hj) ?_
  refine ev_call (count_box w1) ?_
  rintro e w2 ⟨rfl, hk2⟩
  have hx2 := hx1.kp hk2 (by simp)
  have hB2 := hB2.kp hk2 (by simp)
  refine ix 0 rfl (by decide) ?_
  refine ldN [.int .i64 22, .int .i64 0, .int .i64 0] rfl (fun j v hj => by simpa using hx2.cells j v hj) ?_
  refine new fun b7 w3 hb7 hB7 hs3 hk3 => ?_
  refine stN (vs := [.int .i64 22, .int .i64 0, .int .i64 0, .slice none 0 0]) hB7 rfl (by simp [Value.oneCell']) fun w4 hB7 hs4 hk4 => ?_
  have hk24 : Kp [] w2 w4 := hk3.newSt hb7 hk4
  have hB2 := hB2.kp hk24 (by simp)
  have hk04 := (hk1.tr hk2).tr hk24
  refine lp τok (fun _ : Unit => [(2, .pointer (some ⟨b2, 0, none⟩)), (5, .int .i64 0), (7, .pointer (some ⟨b7, 0, none⟩)), (8, .int .i64 1), (9, .int .i64 0)]) (fun _ w' => w' = w4) (fun _ => 0) () rfl ⟨rfl, rfl, rfl, rfl, rfl, trivial⟩ rfl ?_
  rintro _ w5 rfl
  refine ldN [.int .i64 22, .int .i64 0, .int .i64 0, .slice none 0 0] rfl (fun j v hj => by rw [Nat.zero_add]; exact hB7.cl hj) ?_
  refine stN hB2 rfl (by simp [Value.oneCell']) fun w6 hB2 hs6 hk6 => ?_
  refine resN τok rfl [.int .i64 22, .int .i64 0, .int .i64 0, .slice none 0 0] rfl (fun j v hj => hB2.cl hj) ?_
  refine ⟨rfl, hk04.trans hk6 (fun x hx hl => ?_)⟩
  simp at hx
  omega

theorem shape15_box {w : World} {b o : Nat} (cap : Nat) (hx : Bx w b o) : CallOk Tryd.prog 92 ∧ Calls Tryd.prog 92 #[.slice (some ⟨b, o, none⟩) 1 cap] w (fun e w' => e = .returned (.int .i64 0) ∧ Kp [] w w') := by
  refine ⟨⟨_, Tryd.func92, rfl, by decide⟩, ?_⟩
  refine calls_of (args := [_]) 23 [.tmp 2] τok Tryd.func92 rfl rfl rfl (Nat.le_of_ble_eq_true rfl) ?_
  refine ev_call (read_box cap hx) ?_
  rintro e w1 ⟨rfl, hk1⟩
  refine new fun b3 w2 hb3 hB3 hs2 hk2 => ?_
  refine stN (vs := [.int .i64 22, .int .i64 0, .int .i64 0, .slice none 0 0]) hB3 rfl (by simp [Value.oneCell']) fun w3 hB3 hs3 hk3 => ?_
  exact ⟨rfl, hk1.tr (hk2.newSt hb3 hk3)⟩

theorem of_box {w : World} {b o : Nat} (cap : Nat) (hx : Bx w b o) : CallOk Tryd.prog 72 ∧ Calls Tryd.prog 72 #[.slice (some ⟨b, o, none⟩) 1 cap] w
    (fun e w' => e = .returned (.tuple #[.agg #[.int .i64 22, .int .i64 0, .int .i64 0, .slice none 0 0], .bool true]) ∧ Kp [] w w') := by
  refine ⟨⟨_, Tryd.func72, rfl, by decide⟩, ?_⟩
  refine calls_of (args := [_]) 18 [.cell 2 127, .tmp 3] τok Tryd.func72 rfl rfl rfl (Nat.le_of_ble_eq_true rfl) ?_
  refine new fun b2 w1 hb2 hB2 hs1 hk1 => ?_
  have hB2 : Bk w1.heap b2 [.int .i64 0, .int .i64 0, .int .i64 0, .slice none 0 0] 127 := hB2
  have hx1 := hx.kp hk1 (by simp)
  refine ev_call (shape15_box cap hx1) ?_
  rintro e w2 ⟨rfl, hk2⟩
  have hx2 := hx1.kp hk2 (by simp)
  have hB2 := hB2.kp hk2 (by simp)
  refine ev_call (read_box cap hx2) ?_
  rintro e w3 ⟨rfl, hk3⟩
  have hB2 := hB2.kp hk3 (by simp)
  refine new fun b4 w4 hb4 hB4 hs4 hk4 => ?_
  refine stN (vs := [.int .i64 22, .int .i64 0, .int .i64 0, .slice none 0 0]) hB4 rfl (by simp [Value.oneCell']) fun w5 hB4 hs5 hk5 => ?_
  have hk35 : Kp [] w3 w5 := hk4.newSt hb4 hk5
  have hB2 := hB2.kp hk35 (by simp)
  have hk05 := ((hk1.tr hk2).tr hk3).tr hk35
  refine ldN [.int .i64 22, .int .i64 0, .int .i64 0, .slice none 0 0] rfl (fun j v hj => by rw [Nat.zero_add]; exact hB4.cl hj) ?_
  refine stN hB2 rfl (by simp [Value.oneCell']) fun w6 hB2 hs6 hk6 => ?_
  refine resN τok rfl [.int .i64 22, .int .i64 0, .int .i64 0, .slice none 0 0] rfl (fun j v hj => hB2.cl hj) ?_
  refine ⟨rfl, hk05.trans hk6 (fun x hx hl => ?_)⟩
  simp at hx
  omega

theorem greatest_box (w : World) : CallOk Tryd.prog 73 ∧ Calls Tryd.prog 73 #[.agg #[.int .i64 22, .int .i64 0, .int .i64 0, .slice none 0 0], .int .i64 0] w (fun e w' => e = .returned (.int .i64 (-1)) ∧ Kp [] w w') := by
  refine ⟨⟨_, Tryd.func73, rfl, by decide⟩, ?_⟩
  refine calls_of (args := [_, _]) 39 [.tmp 4] τok Tryd.func73 rfl rfl rfl (Nat.le_of_ble_eq_true rfl) ?_
  refine new fun b1 w1 hb1 hB1 hs1 hk1 => ?_
  have hB1 : Bk w1.heap b1 [.int .i64 22, .int .i64 0, .int .i64 0, .slice none 0 0] 127 := hB1
  (repeat first | refine ldC ‹Sub _ _› (by assumption) ?_ | refine ld (Cl.cell (by first | assumption | exact Bk.cl (by assumption) rfl)) ?_ | refine ldK (by first | assumption | exact Bk.cl (by assumption) rfl | exact ‹Sub _ _› _ _ _ (by assumption)) ?_)
  refine lp τok (fun _ : Unit => [(2, .pointer (some ⟨b1, 0, none⟩)), (5, .int .i64 (-1)), (6, .int .i64 0)]) (fun _ w' => w' = w1) (fun _ => 0) () rfl ⟨rfl, rfl, rfl, trivial⟩ rfl ?_
  rintro _ w2 rfl
  (repeat first | refine ldC ‹Sub _ _› (by assumption) ?_ | refine ld (Cl.cell (by first | assumption | exact Bk.cl (by assumption) rfl)) ?_ | refine ldK (by first | assumption | exact Bk.cl (by assumption) rfl | exact ‹Sub _ _› _ _ _ (by assumption)) ?_)
  exact ⟨rfl, hk1⟩

theorem names_box (cs : List Value) (known : Int) (w : World) : CallOk Tryd.prog 74 ∧ Calls Tryd.prog 74 #[.agg cs.toArray, .int .i64 known, .agg #[.int .i64 22, .int .i64 0, .int .i64 0, .slice none 0 0]] w (fun e w' => e = .returned (.bool true) ∧ Kp [] w w') := by
  refine ⟨⟨_, Tryd.func74, rfl, by decide⟩, ?_⟩
  refine calls_of (args := [_, _, _]) 86 [.tmp 6] τok Tryd.func74 rfl rfl rfl (Nat.le_of_ble_eq_true rfl) ?_
  refine new fun b1 w1 hb1 hB1 hs1 hk1 => ?_
  refine new fun b2 w2 hb2 hB2 hs2 hk2 => ?_
  have hB2 : Bk w2.heap b2 [.int .i64 22, .int .i64 0, .int .i64 0, .slice none 0 0] 127 := hB2
  refine ldN [.int .i64 22, .int .i64 0, .int .i64 0] rfl (fun j v hj => by
    rw [Nat.zero_add]
    match j with
    | 0 | 1 | 2 => exact hB2.cl hj
    | j + 3 => simp at hj) ?_
  refine new fun b3 w3 hb3 hB3 hs3 hk3 => ?_
  refine stN (vs := [.int .i64 22, .int .i64 0, .int .i64 0]) hB3 rfl (by simp [Value.oneCell']) fun w4 hB3 hs4 hk4 => ?_
  have hk24 : Kp [] w2 w4 := hk3.newSt hb3 hk4
  have hB2 := hB2.kp hk24 (by simp)
  have hk04 := (hk1.tr hk2).tr hk24
  (repeat first | refine ldC ‹Sub _ _› (by assumption) ?_ | refine ld (Cl.cell (by first | assumption | exact Bk.cl (by assumption) rfl)) ?_ | refine ldK (by first | assumption | exact Bk.cl (by assumption) rfl | exact ‹Sub _ _› _ _ _ (by assumption)) ?_)
  refine drawR τok (by kernel_rfl) ?_
  refine ldR (hB3.cl rfl) ?_
  intro m
  refine lp τok (fun _ : Unit => [(5, .pointer (some ⟨b2, 0, none⟩)), (8, .int .i64 0)]) (fun _ w' => w' = { w4 with drawn := m }) (fun _ => 0) () rfl ⟨rfl, rfl, trivial⟩ rfl ?_
  rintro _ w5 rfl
  refine ld (Cl.cell (w := { w4 with drawn := m }) (hB2.cl rfl)) ?_
  exact ⟨rfl, hk04.dr _⟩

theorem there15_box {w : World} {b o : Nat} (cap : Nat) (cs : List Value) (hcs : cs.length = 5) (known : Int) (hx : Bx w b o) : CallOk Tryd.prog 50 ∧ Calls Tryd.prog 50 #[.agg cs.toArray, .int .i64 known, .slice (some ⟨b, o, none⟩) 1 cap] w (fun e w' => e = .returned (.bool true) ∧ Kp [] w w') := by
  refine ⟨⟨_, Tryd.func50, rfl, by decide⟩, ?_⟩
  refine calls_of (args := [_, _, _]) 26 [.tmp 6] τok Tryd.func50 rfl rfl rfl (Nat.le_of_ble_eq_true rfl) ?_
  refine new fun b1 w1 hb1 hB1 hs1 hk1 => ?_
  have hB1 : Bk w1.heap b1 cs 33 := hB1
  refine ev_call (of_box cap (hx.kp hk1 (by simp))) ?_
  rintro e w2 ⟨rfl, hk2⟩
  have hB1 := hB1.kp hk2 (by simp)
  refine new fun b3 w3 hb3 hB3 hs3 hk3 => ?_
  refine stN (vs := [.int .i64 22, .int .i64 0, .int .i64 0, .slice none 0 0]) hB3 rfl (by simp [Value.oneCell']) fun w4 hB3 hs4 hk4 => ?_
  have hk24 : Kp [] w2 w4 := hk3.newSt hb3 hk4
  have hB1 := hB1.kp hk24 (by simp)
  refine ldN [.int .i64 22, .int .i64 0, .int .i64 0, .slice none 0 0] rfl (fun j v hj => by rw [Nat.zero_add]; exact hB3.cl hj) ?_
  refine ev_call (greatest_box w4) ?_
  rintro e w5 ⟨rfl, hk5⟩
  have hB1 := hB1.kp hk5 (by simp)
  have hB3 := hB3.kp hk5 (by simp)
  refine ldN cs hcs (fun j v hj => by rw [Nat.zero_add]; exact hB1.cl hj) ?_
  refine ldN [.int .i64 22, .int .i64 0, .int .i64 0, .slice none 0 0] rfl (fun j v hj => by rw [Nat.zero_add]; exact hB3.cl hj) ?_
  refine ev_call (names_box cs known w5) ?_
  rintro e w6 ⟨rfl, hk6⟩
  exact ⟨rfl, (((hk1.tr hk2).tr hk24).tr hk5).tr hk6⟩
end Go.Proofs.YtjpdkcejkogciaaDoor

