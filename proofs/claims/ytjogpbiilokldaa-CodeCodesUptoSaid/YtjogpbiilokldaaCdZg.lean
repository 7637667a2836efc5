/-
  Code: the reference's Next, walked.
-/
import Derived.Test.YtjogpbiilokldaaCdZf
set_option linter.unusedSimpArgs false
set_option linter.unusedVariables false
namespace Go.Proofs.Ytjogpbiilokldaa
open Go.Wx Cd

theorem next20_ct {C : Mem} {w : World} (hS : Sub C w) {cs : List Value} {c : Cod} (hc : rCod.den C cs c) (hco : CodOk c) (i : Nat) (hi : i ≤ 1099511627776) (n : Ins) (an : Option Addr) (tc : Nat) (hto : Sl rInt C an n.to) (na : I64 n.a) (nb : I64 n.b) (h fl : Int) (hh : 0 ≤ h ∧ h ≤ 2305843009213693952) (hf : 0 ≤ fl ∧ fl ≤ 2305843009213693952) :
    CallOk Try.prog 50 ∧ Calls Try.prog 50 #[.agg cs.toArray, .int .i64 (i : Int), .agg #[.int .i64 n.op, .int .i64 n.a, .int .i64 n.b, .slice an n.to.length tc], .int .i64 h, .int .i64 fl] w (NextPost c i n h fl w) := by
  refine ⟨⟨_, Try.func50, rfl, by decide⟩, ?_⟩
  obtain ⟨a1, c1, a2, c2, a3, c3, a4, c4, rfl, h1, h2, h3, h4, h5⟩ := hc
  have hs1 := h1.1
  have hs2 := h2.1
  have hs3 := h3.1
  have htl := hto.1
  refine calls_ev (args := [_, _, _, _, _]) 389 [.tmp 10, .tmp 11] Try.func50 rfl rfl rfl (Nat.le_of_ble_eq_true rfl) ?_
  refine ev_seq τok ?_
  refine new fun b5 w0 hb5 hB5 hs0 hk0 => ?_
  refine new fun b7 w1 hb7 hB7 hs1' hk1' => ?_
  have hB5 : Bk w1.heap b5 [.int .i64 c.nat, .slice a1 c.shapes.length c1, .slice a2 c.funs.length c2, .slice a3 c.bodies.length c3, .slice a4 c.main.length c4] 28 := Bk.kp hB5 hk1' (by simp)
  have hB7 : Bk w1.heap b7 [.int .i64 n.op, .int .i64 n.a, .int .i64 n.b, .slice an n.to.length tc] 45 := hB7
  have hk1 := hk0.tr hk1'
  have hS1 := hS.tr hk1
  refine ev_mid τok (fun z : Bool => [(1, .int .i64 (i : Int)), (3, .int .i64 h), (4, .int .i64 fl), (5, .pointer (some ⟨b5, 0, none⟩)), (7, .pointer (some ⟨b7, 0, none⟩)), (12, .bool z)]) (fun z w' => z = n.zero ∧ w1 = w') ?_ ?_
  · (repeat first | refine ldC ‹Sub _ _› (by assumption) ?_ | refine ld (Cl.cell (by first | assumption | exact Bk.cl (by assumption) rfl)) ?_ | refine ldK (by first | assumption | exact Bk.cl (by assumption) rfl | exact ‹Sub _ _› _ _ _ (by assumption)) ?_)
    refine br_dec (fun ha => ?_) (fun ha => ?_)
    · (repeat first | refine ldC ‹Sub _ _› (by assumption) ?_ | refine ld (Cl.cell (by first | assumption | exact Bk.cl (by assumption) rfl)) ?_ | refine ldK (by first | assumption | exact Bk.cl (by assumption) rfl | exact ‹Sub _ _› _ _ _ (by assumption)) ?_)
      exact ⟨_, rfl, ⟨rfl, rfl, rfl, rfl, rfl, rfl, trivial⟩, by simp [Ins.zero, ha], rfl⟩
    · exact ⟨_, rfl, ⟨rfl, rfl, rfl, rfl, rfl, rfl, trivial⟩, by simp [Ins.zero, ha], rfl⟩
  rintro _ _ ⟨rfl, rfl⟩
  obtain ⟨z, hz⟩ : ∃ z, z = n.zero := ⟨_, rfl⟩
  rw [← hz]
  refine ev_mid τok (fun d : Bool => [(1, .int .i64 (i : Int)), (3, .int .i64 h), (4, .int .i64 fl), (5, .pointer (some ⟨b5, 0, none⟩)), (7, .pointer (some ⟨b7, 0, none⟩)), (12, .bool z), (13, .bool d)]) (fun d w' => d = decide (n.to.length = 0) ∧ w1 = w') ?_ ?_
  · (repeat first | refine ldC ‹Sub _ _› (by assumption) ?_ | refine ld (Cl.cell (by first | assumption | exact Bk.cl (by assumption) rfl)) ?_ | refine ldK (by first | assumption | exact Bk.cl (by assumption) rfl | exact ‹Sub _ _› _ _ _ (by assumption)) ?_)
    exact ⟨_, rfl, ⟨rfl, rfl, rfl, rfl, rfl, rfl, rfl, trivial⟩, by simp, rfl⟩
  rintro D _ ⟨hD, rfl⟩
  refine ev_seq τok ?_
  refine ev_mid τok (fun y : Bool => [(1, .int .i64 (i : Int)), (3, .int .i64 h), (4, .int .i64 fl), (5, .pointer (some ⟨b5, 0, none⟩)), (7, .pointer (some ⟨b7, 0, none⟩)), (12, .bool z), (13, .bool D), (14, .int .i64 0), (15, .bool y)]) (fun y w' => y = (D && z) ∧ w1 = w') ?_ ?_
  · refine br (fun e => ?_) (fun e => ?_)
    · have e : z = true := e
      exact ⟨_, rfl, ⟨rfl, rfl, rfl, rfl, rfl, rfl, rfl, rfl, rfl, trivial⟩, by rw [e]; simp, rfl⟩
    · have e : z = false := e
      exact ⟨_, rfl, ⟨rfl, rfl, rfl, rfl, rfl, rfl, rfl, rfl, rfl, trivial⟩, by rw [e]; simp, rfl⟩
  rintro y _ ⟨hy, rfl⟩
  refine ev_mid τok (fun x : Int × Bool => [(1, .int .i64 (i : Int)), (3, .int .i64 h), (4, .int .i64 fl), (14, .int .i64 x.1), (15, .bool x.2)])
    (fun x w' => Kp [] w1 w' ∧ (x.2 = true → -4611686018427387904 ≤ x.1 ∧ x.1 ≤ 4611686018427387904) ∧ nextM c i n h fl = if x.2 then (if x.1 ≤ h - fl then some [((i : Int) + 1, h - x.1 + 1)] else none) else none) ?_ ?_
  · refine ld (hB7.cl rfl).cell ?_
    refine br_dec (fun o1 => ?_) (fun o1 => ?_)
    · refine ⟨(0, y), rfl, ⟨rfl, rfl, rfl, rfl, rfl, trivial⟩, Kp.refl _ _, by simp, ?_⟩
      rw [nxt (by omega) (by omega) (by omega) (by omega) (pl1 o1), ← hD, ← hz, ← hy]
    have no : ∀ {w2 : World} (p : Int), Kp [] w1 w2 → nextM c i n h fl = none → Kp [] w1 w2 ∧ (false = true → -4611686018427387904 ≤ p ∧ p ≤ 4611686018427387904) ∧ nextM c i n h fl = if false = true then (if p ≤ h - fl then some [((i : Int) + 1, h - p + 1)] else none) else none := fun p k e => ⟨k, (by simp), by rw [e]; rfl⟩
    refine br_dec (fun o2 => ?_) (fun o2 => ?_)
    · have he := nxt (c := c) (i := i) (fl := fl) (by omega) (by omega) (by omega) (by omega) (pl2 (c := c) (h := h) o2)
      rw [← hD] at he
      refine br (fun d => ?_) (fun d => ?_)
      · have d : D = true := d
        (repeat first | refine ldC ‹Sub _ _› (by assumption) ?_ | refine ld (Cl.cell (by first | assumption | exact Bk.cl (by assumption) rfl)) ?_ | refine ldK (by first | assumption | exact Bk.cl (by assumption) rfl | exact ‹Sub _ _› _ _ _ (by assumption)) ?_)
        refine ev_call (within20_ct _ _ _ w1) ?_
        rintro e w2 ⟨rfl, hk2⟩
        refine br (fun ht => ?_) (fun ht => ?_)
        · refine ld ((hB7.kp hk2 (by simp)).cl rfl).cell ?_
          exact ⟨(0, decide (n.b = 0)), rfl, ⟨rfl, rfl, rfl, rfl, rfl, trivial⟩, hk2, by simp, by rw [he, d, ht]; simp⟩
        · exact ⟨(0, false), rfl, ⟨rfl, rfl, rfl, rfl, rfl, trivial⟩, no 0 hk2 (by rw [he, ht]; simp)⟩
      · have d : D = false := d
        exact ⟨(0, false), rfl, ⟨rfl, rfl, rfl, rfl, rfl, trivial⟩, no 0 (Kp.refl _ _) (by rw [he, d]; simp)⟩
    refine br_dec (fun o3 => ?_) (fun o3 => ?_)
    · have he := nxt (c := c) (i := i) (fl := fl) (by omega) (by omega) (by omega) (by omega) (pl3 (c := c) (h := h) o3)
      rw [← hD] at he
      refine br (fun d => ?_) (fun d => ?_)
      · have d : D = true := d
        (repeat first | refine ldC ‹Sub _ _› (by assumption) ?_ | refine ld (Cl.cell (by first | assumption | exact Bk.cl (by assumption) rfl)) ?_ | refine ldK (by first | assumption | exact Bk.cl (by assumption) rfl | exact ‹Sub _ _› _ _ _ (by assumption)) ?_)
        refine int64 (by omega) (by omega) ?_
        refine ev_call (within20_ct _ _ _ w1) ?_
        rintro e w2 ⟨rfl, hk2⟩
        refine br (fun ht => ?_) (fun ht => ?_)
        · refine ld ((hB7.kp hk2 (by simp)).cl rfl).cell ?_
          exact ⟨(0, decide (n.b = 0)), rfl, ⟨rfl, rfl, rfl, rfl, rfl, trivial⟩, hk2, by simp, by rw [he, d, ht]; simp⟩
        · exact ⟨(0, false), rfl, ⟨rfl, rfl, rfl, rfl, rfl, trivial⟩, no 0 hk2 (by rw [he, ht]; simp)⟩
      · have d : D = false := d
        exact ⟨(0, false), rfl, ⟨rfl, rfl, rfl, rfl, rfl, trivial⟩, no 0 (Kp.refl _ _) (by rw [he, d]; simp)⟩
    refine br_dec (fun o4 => ?_) (fun o4 => ?_)
    · have he := nxt (c := c) (i := i) (fl := fl) (by omega) (by omega) (by omega) (by omega) (pl4 (c := c) (h := h) o4)
      rw [← hD] at he
      refine br (fun d => ?_) (fun d => ?_)
      · have d : D = true := d
        (repeat first | refine ldC ‹Sub _ _› (by assumption) ?_ | refine ld (Cl.cell (by first | assumption | exact Bk.cl (by assumption) rfl)) ?_ | refine ldK (by first | assumption | exact Bk.cl (by assumption) rfl | exact ‹Sub _ _› _ _ _ (by assumption)) ?_)
        refine int64 (by omega) (by omega) ?_
        refine ev_call (within20_ct _ _ _ w1) ?_
        rintro e w2 ⟨rfl, hk2⟩
        have hB72 := hB7.kp hk2 (by simp)
        have hB52 := hB5.kp hk2 (by simp)
        obtain ⟨T, hT⟩ : ∃ t, inM n.a 0 ((c.funs.length : Int) - 1) = t := ⟨_, rfl⟩
        rw [hT]
        cases T with
        | true =>
          have hin : 0 ≤ n.a ∧ n.a ≤ c.funs.length - 1 := by simpa [inM] using hT
          obtain ⟨f, hx⟩ : ∃ x, c.funs[n.a.toNat]? = some x := ⟨c.funs[n.a.toNat]'(by omega), by simp⟩
          obtain ⟨b, o, rfl, a', cap, _, _, hcell, _⟩ := sl_fn h2 hx
          have hcaps := hco.caps f (List.mem_of_getElem? hx)
          refine drawR τok (by kernel_rfl) ?_
          refine ldR (hB72.cl rfl) ?_
          refine ldR (hB52.cl rfl) ?_
          refine ldR (hB72.cl rfl) ?_
          refine ix n.a.toNat (by omega) (by omega) ?_
          refine ldR ((hS1.tr hk2) _ _ _ hcell) ?_
          intro m'
          refine ld (hB72.cl rfl).cell ?_
          refine ⟨(n.b, decide (n.b = f.caps)), rfl, ⟨rfl, rfl, rfl, rfl, rfl, trivial⟩, hk2.dr _, by simp; omega, ?_⟩
          rw [he, d, hT, hx]
          simp
        | false =>
          refine drawR τok (by kernel_rfl) ?_
          intro m'
          refine ld (hB72.cl rfl).cell ?_
          exact ⟨(n.b, false), rfl, ⟨rfl, rfl, rfl, rfl, rfl, trivial⟩, no _ (hk2.dr _) (by rw [he, hT]; simp)⟩
      · have d : D = false := d
        refine drawR τok (by kernel_rfl) ?_
        intro m'
        refine ld (hB7.cl rfl).cell ?_
        exact ⟨(n.b, false), rfl, ⟨rfl, rfl, rfl, rfl, rfl, trivial⟩, no _ ((Kp.refl _ _).dr _) (by rw [he, d]; simp)⟩
    refine br_dec (fun o5 => ?_) (fun o5 => ?_)
    · refine ⟨(2, y), rfl, ⟨rfl, rfl, rfl, rfl, rfl, trivial⟩, Kp.refl _ _, by simp, ?_⟩
      rw [nxt (by omega) (by omega) (by omega) (by omega) (pl5 o5), ← hD, ← hz, ← hy]
    refine br_dec (fun o6 => ?_) (fun o6 => ?_)
    · have he : nextM c i n h fl = if (y && decide (h - fl = 1)) then some [] else none := by
        unfold nextM
        rw [if_pos o6, hy, hD, hz]
        by_cases q1 : n.zero = true <;> by_cases q2 : n.to.length = 0 <;> simp [q1, q2]
      refine br (fun e => ?_) (fun e => ?_)
      · have e : y = true := e
        refine int64 (by omega) (by omega) ?_
        refine ⟨_, _, rfl, hk1, ?_⟩
        rw [he, e]
        by_cases g : h = fl + 1
        · rw [decide_eq_true (show h - fl = 1 by omega)]
          exact ⟨by simpa using g, none, 0, rfl, Sl.nil _ _ _⟩
        · simp [show ¬ h - fl = 1 by omega]
          omega
      · have e : y = false := e
        exact next_no _ hk1 (by rw [he, e]; simp)
    refine br_dec (fun o7 => ?_) (fun o7 => ?_)
    · have he := nxt (c := c) (i := i) (fl := fl) (by omega) (by omega) (by omega) (by omega) (pl7 (c := c) (h := h) o7)
      rw [← hD] at he
      refine br (fun d => ?_) (fun d => ?_)
      · have d : D = true := d
        (repeat first | refine ldC ‹Sub _ _› (by assumption) ?_ | refine ld (Cl.cell (by first | assumption | exact Bk.cl (by assumption) rfl)) ?_ | refine ldK (by first | assumption | exact Bk.cl (by assumption) rfl | exact ‹Sub _ _› _ _ _ (by assumption)) ?_)
        refine int64 (by omega) (by omega) ?_
        refine ev_call (within20_ct _ _ _ w1) ?_
        rintro e w2 ⟨rfl, hk2⟩
        have hB72 := hB7.kp hk2 (by simp)
        have hB52 := hB5.kp hk2 (by simp)
        refine br (fun ht => ?_) (fun ht => ?_)
        · have hin : 0 ≤ n.a ∧ n.a ≤ c.bodies.length - 1 := by simpa [inM] using ht
          obtain ⟨x, hx⟩ : ∃ x, c.bodies[n.a.toNat]? = some x := ⟨c.bodies[n.a.toNat]'(by omega), by simp⟩
          obtain ⟨b, o, rfl, a', cap, hcell, hsl'⟩ := h3.sl hx
          refine ld (hB72.cl rfl).cell ?_
          refine br_dec (fun q => ?_) (fun q => ?_)
          · have q : n.b = 0 := q
            refine ld (hB52.cl rfl).cell ?_
            refine ld (hB72.cl rfl).cell ?_
            refine ix n.a.toNat (by omega) (by omega) ?_
            refine ld ((hS1.tr hk2) _ _ _ hcell).cell ?_
            refine ⟨(0, decide ((0 : Int) < x.length)), rfl, ⟨rfl, rfl, rfl, rfl, rfl, trivial⟩, hk2, by simp, ?_⟩
            rw [he, d, ht, hx, decide_eq_true q]
            simp
          · have q : ¬ n.b = 0 := q
            exact ⟨(0, false), rfl, ⟨rfl, rfl, rfl, rfl, rfl, trivial⟩, no 0 hk2 (by rw [he, decide_eq_false q]; simp)⟩
        · exact ⟨(0, false), rfl, ⟨rfl, rfl, rfl, rfl, rfl, trivial⟩, no 0 hk2 (by rw [he, ht]; simp)⟩
      · have d : D = false := d
        exact ⟨(0, false), rfl, ⟨rfl, rfl, rfl, rfl, rfl, trivial⟩, no 0 (Kp.refl _ _) (by rw [he, d]; simp)⟩
    refine br_dec (fun o8 => ?_) (fun o8 => ?_)
    · have he := nxt (c := c) (i := i) (fl := fl) (by omega) (by omega) (by omega) (by omega) (pl8 (c := c) (h := h) o8)
      rw [← hD] at he
      unfold I64 at na
      refine br (fun d => ?_) (fun d => ?_)
      · have d : D = true := d
        (repeat first | refine ldC ‹Sub _ _› (by assumption) ?_ | refine ld (Cl.cell (by first | assumption | exact Bk.cl (by assumption) rfl)) ?_ | refine ldK (by first | assumption | exact Bk.cl (by assumption) rfl | exact ‹Sub _ _› _ _ _ (by assumption)) ?_)
        refine int64 (by omega) (by omega) ?_
        refine int64 (by omega) (by omega) ?_
        refine ev_call (within20_ct _ _ _ w1) ?_
        rintro e w2 ⟨rfl, hk2⟩
        have hB72 := hB7.kp hk2 (by simp)
        have hB52 := hB5.kp hk2 (by simp)
        have hS2 := hS1.tr hk2
        obtain ⟨T, hT⟩ : ∃ t, inM n.a 0 (16 * (c.shapes.length : Int) - 1) = t := ⟨_, rfl⟩
        rw [hT]
        cases T with
        | true =>
          have hin : 0 ≤ n.a ∧ n.a ≤ 16 * c.shapes.length - 1 := by simpa [inM] using hT
          have hbl := hco.len
          obtain ⟨x, hx⟩ : ∃ x, c.bodies[(n.a / 16).toNat]? = some x := ⟨c.bodies[(n.a / 16).toNat]'(by omega), by simp⟩
          obtain ⟨b, o, rfl, a', cap, hcell, hsl'⟩ := h3.sl hx
          obtain ⟨s, hsx⟩ : ∃ x, c.shapes[(n.a / 16).toNat]? = some x := ⟨c.shapes[(n.a / 16).toNat]'(by omega), by simp⟩
          obtain ⟨bs, os, rfl, ak, ck, hkept, _, _, hck⟩ := sl_shp h1 hsx
          have hkl := hkept.1
          have hkm : keptM c (n.a / 16) = s.kept := by simp [keptM, hsx]
          have hfm : famM c (n.a / 16) = decide (x.length = 0) := by
            simp [famM, inM, hx]
            omega
          refine drawR τok (by kernel_rfl) ?_
          refine ldR (hB52.cl rfl) ?_
          refine ldR (hB72.cl rfl) ?_
          refine quo64Q hin.1 na.2 (by omega) ?_
          refine ix (n.a / 16).toNat (by omega) (by omega) ?_
          refine ldR (hS2 _ _ _ hcell) ?_
          refine br_dec (fun g => ?_) (fun g => ?_)
          · have g : (x.length : Int) = 0 := g
            refine ldR (hB72.cl rfl) ?_
            refine rem64Q hin.1 (by omega) ?_
            refine ldR (hB52.cl rfl) ?_
            refine ldR (hB72.cl rfl) ?_
            refine quo64Q hin.1 na.2 (by omega) ?_
            refine ix (n.a / 16).toNat (by omega) (by omega) ?_
            refine ldR (hS2 _ _ _ hck) ?_
            intro m'
            refine drawR τok (by kernel_rfl) ?_
            refine br_dec (fun g2 => ?_) (fun g2 => ?_)
            · have g2 : n.a % 16 < s.kept.length := g2
              obtain ⟨q, hq⟩ : ∃ y, s.kept[(n.a % 16).toNat]? = some y := ⟨s.kept[(n.a % 16).toNat]'(by omega), by simp⟩
              obtain ⟨bq, oq, rfl, aq, cq, hcq, hslq⟩ := hkept.sl hq
              have hql := hslq.1
              refine ldR (hB72.cl rfl) ?_
              refine ldR (hB52.cl rfl) ?_
              refine ldR (hB72.cl rfl) ?_
              refine quo64Q hin.1 na.2 (by omega) ?_
              refine ix (n.a / 16).toNat (by omega) (by omega) ?_
              refine ldR (hS2 _ _ _ hck) ?_
              refine ldR (hB72.cl rfl) ?_
              refine rem64Q hin.1 (by omega) ?_
              refine ix (n.a % 16).toNat (by omega) (by omega) ?_
              refine ldR (hS2 _ _ _ hcq) ?_
              intro m''
              refine ld (hB72.cl rfl).cell ?_
              refine ⟨(n.b, decide (n.b = (q.length : Int))), rfl, ⟨rfl, rfl, rfl, rfl, rfl, trivial⟩, (hk2.dr _).dr _, by simp; omega, ?_⟩
              have hct : ctorM c n.a n.b = decide (n.b = (q.length : Int)) := by
                simp [ctorM, hfm, hkm, hq, hin.1, show x.length = 0 by omega, eq_comm]
              rw [he, d, hct, Bool.true_and]
            · have g2 : ¬ n.a % 16 < s.kept.length := g2
              have hq : s.kept[(n.a % 16).toNat]? = none := by simp; omega
              intro m''
              refine ld (hB72.cl rfl).cell ?_
              exact ⟨(n.b, false), rfl, ⟨rfl, rfl, rfl, rfl, rfl, trivial⟩, no _ ((hk2.dr _).dr _) (by rw [he]; simp [ctorM, hkm, hq])⟩
          · have g : ¬ (x.length : Int) = 0 := g
            intro m'
            refine drawR τok (by kernel_rfl) ?_
            intro m''
            refine ld (hB72.cl rfl).cell ?_
            exact ⟨(n.b, false), rfl, ⟨rfl, rfl, rfl, rfl, rfl, trivial⟩, no _ ((hk2.dr _).dr _) (by rw [he]; simp [ctorM, hfm, show ¬ x.length = 0 by omega])⟩
        | false =>
          have hct : ctorM c n.a n.b = false := by
            by_cases h0 : 0 ≤ n.a
            · have hn : ¬ n.a ≤ 16 * (c.shapes.length : Int) - 1 := by
                intro hle
                have : inM n.a 0 (16 * (c.shapes.length : Int) - 1) = true := by simp [inM, h0, hle]
                rw [this] at hT
                cases hT
              have : famM c (n.a / 16) = false := by
                have h9 : ¬ n.a / 16 ≤ (c.shapes.length : Int) - 1 := by omega
                simp [famM, inM, h9]
              simp [ctorM, this]
            · simp [ctorM, h0]
          refine drawR τok (by kernel_rfl) ?_
          intro m'
          refine drawR τok (by kernel_rfl) ?_
          intro m''
          refine ld (hB72.cl rfl).cell ?_
          exact ⟨(n.b, false), rfl, ⟨rfl, rfl, rfl, rfl, rfl, trivial⟩, no _ ((hk2.dr _).dr _) (by rw [he, hct]; simp)⟩
      · have d : D = false := d
        refine drawR τok (by kernel_rfl) ?_
        intro m'
        refine drawR τok (by kernel_rfl) ?_
        intro m''
        refine ld (hB7.cl rfl).cell ?_
        exact ⟨(n.b, false), rfl, ⟨rfl, rfl, rfl, rfl, rfl, trivial⟩, no _ (((Kp.refl _ _).dr _).dr _) (by rw [he, d]; simp)⟩
    refine br_dec (fun o9 => ?_) (fun o9 => ?_)
    · have he : nextM c i n h fl = if 1 ≤ h - fl then armsM c n h else none := by
        unfold nextM
        rw [if_neg (by omega), if_neg (by omega), if_neg (by omega), if_pos o9]
      have hno : armsM c n h = none → nextM c i n h fl = none := fun e => by rw [he, e]; simp
      (repeat first | refine ldC ‹Sub _ _› (by assumption) ?_ | refine ld (Cl.cell (by first | assumption | exact Bk.cl (by assumption) rfl)) ?_ | refine ldK (by first | assumption | exact Bk.cl (by assumption) rfl | exact ‹Sub _ _› _ _ _ (by assumption)) ?_)
      refine int64 (by omega) (by omega) ?_
      refine ev_call (within20_ct _ _ _ w1) ?_
      rintro e w2 ⟨rfl, hk2⟩
      have hB72 := hB7.kp hk2 (by simp)
      have hB52 := hB5.kp hk2 (by simp)
      have hS2 := hS1.tr hk2
      have hk02 := hk1.tr hk2
      have dead : ∀ m', armsM c n h = none → NextPost c i n h fl w (.returned (.tuple #[.slice none 0 0, .bool false])) { w2 with drawn := m' } := fun m' e => next_no _ (hk02.dr _) (hno e)
      refine br (fun ht => ?_) (fun ht => ?_)
      rotate_left
      · refine drawR τok (by kernel_rfl) ?_
        intro m'
        exact dead m' (by simp [armsM, famM, ht])
      have hin : 0 ≤ n.a ∧ n.a ≤ c.shapes.length - 1 := by simpa [inM] using ht
      have hbl := hco.len
      obtain ⟨x, hx⟩ : ∃ x, c.bodies[n.a.toNat]? = some x := ⟨c.bodies[n.a.toNat]'(by omega), by simp⟩
      obtain ⟨b, o, rfl, a', cap, hcell, hsl'⟩ := h3.sl hx
      obtain ⟨s, hsx⟩ : ∃ x, c.shapes[n.a.toNat]? = some x := ⟨c.shapes[n.a.toNat]'(by omega), by simp⟩
      obtain ⟨bs, os, rfl, ak, ck, hkept, _, _, hck⟩ := sl_shp h1 hsx
      have hkl := hkept.1
      have hkm : keptM c n.a = s.kept := by simp [keptM, hsx]
      have hfm : famM c n.a = decide (x.length = 0) := by simp [famM, ht, hx]
      refine ld (hB72.cl rfl).cell ?_
      refine ld (hB52.cl rfl).cell ?_
      refine drawR τok (by kernel_rfl) ?_
      refine br_dec (fun g1 => ?_) (fun g1 => ?_)
      rotate_left
      · have g1 : n.a = c.nat := by simpa using g1
        intro m'
        exact dead m' (by simp [armsM, g1])
      have g1 : ¬ n.a = c.nat := g1
      refine ldR (hB52.cl rfl) ?_
      refine ldR (hB72.cl rfl) ?_
      refine ix n.a.toNat (by omega) (by omega) ?_
      refine ldR (hS2 _ _ _ hcell) ?_
      refine br_dec (fun g2 => ?_) (fun g2 => ?_)
      rotate_left
      · have g2 : ¬ (x.length : Int) = 0 := g2
        intro m'
        exact dead m' (by simp [armsM, hfm, show ¬ x.length = 0 by omega])
      have g2 : (x.length : Int) = 0 := g2
      refine ldR (hB72.cl rfl) ?_
      refine br_dec (fun g3 => ?_) (fun g3 => ?_)
      rotate_left
      · have g3 : ¬ 1 ≤ n.b := g3
        intro m'
        exact dead m' (by simp [armsM, g3])
      have g3 : 1 ≤ n.b := g3
      refine ldR (hB72.cl rfl) ?_
      refine ldR (hB52.cl rfl) ?_
      refine ldR (hB72.cl rfl) ?_
      refine ix n.a.toNat (by omega) (by omega) ?_
      refine ldR (hS2 _ _ _ hck) ?_
      refine br_dec (fun g4 => ?_) (fun g4 => ?_)
      rotate_left
      · have g4 : ¬ n.b = s.kept.length := g4
        intro m'
        exact dead m' (by simp [armsM, hkm, g4])
      have g4 : n.b = s.kept.length := g4
      refine ldR (hB72.cl rfl) ?_
      refine ldR (hB72.cl rfl) ?_
      refine int64 (by omega) (by omega) ?_
      intro m'
      refine br_ndec (fun g5 => ?_) (fun g5 => ?_)
      rotate_left
      · have g5 : ¬ (n.to.length : Int) = 2 * n.b := g5
        exact dead m' (by simp [armsM, g5])
      have g5 : (n.to.length : Int) = 2 * n.b := g5
      refine br_dec (fun g6 => ?_) (fun g6 => ?_)
      · have g6 : h ≤ fl := g6
        exact next_no _ (hk02.dr _) (by rw [he, if_neg (by omega)])
      have g6 : ¬ h ≤ fl := g6
      have hea : nextM c i n h fl = armsL s.kept n.to h := by
        rw [he, if_pos (by omega), armsM, hkm, hfm, if_pos ?_]
        simp [show x.length = 0 by omega, g1, g3, g4]
        omega
      have kd : Kp [] w2 { w2 with drawn := m' } := (Kp.refl [] w2).dr _
      refine lp τok (σ := Nat × Value × List (Int × Int)) (fun q => [(3, .int .i64 h), (5, .pointer (some ⟨b5, 0, none⟩)), (7, .pointer (some ⟨b7, 0, none⟩)), (16, q.2.1), (17, .int .i64 (q.1 : Int))])
        (fun q w' => q.1 ≤ s.kept.length ∧ Kp [] w2 w' ∧ Own rPair 108 w2.heap.size w' q.2.1 q.2.2 ∧ q.2.2.length = q.1 ∧ armsL s.kept n.to h = (armsL (s.kept.drop q.1) (n.to.drop (2 * q.1)) h).map (q.2.2 ++ ·)) (fun q => s.kept.length - q.1) (0, .slice none 0 0, []) rfl
        ⟨rfl, rfl, rfl, rfl, rfl, trivial⟩ ⟨Nat.zero_le _, kd, Own.nil rPair 108 kd.size, rfl, by simp⟩ ?_
      rintro ⟨j, v, pre⟩ w3 ⟨hj, hk3, hO, hpl, hea'⟩
      simp only at hj hO hpl hea'
      have hB73 := hB72.kp hk3 (by simp)
      have hB53 := hB52.kp hk3 (by simp)
      have hS3 := hS2.tr hk3
      refine ld (hB73.cl rfl).cell ?_
      refine br_dec (fun g7 => ?_) (fun g7 => ?_)
      · have g7 : (j : Int) < n.b := g7
        have hlt : j < s.kept.length := by omega
        obtain ⟨q, hq, hqd⟩ := drop_get hlt
        obtain ⟨bq, oq, rfl, aq, cq, hcq, hslq⟩ := hkept.sl hq
        have hql := hslq.1
        obtain ⟨t, htj, htd⟩ := drop_get (l := n.to) (k := 2 * j) (by omega)
        obtain ⟨m, hmj, hmd⟩ := drop_get (l := n.to) (k := 2 * j + 1) (by omega)
        obtain ⟨bt, ot, rfl, hct, ht64⟩ := hto.int htj
        obtain ⟨bt', ot', hbe, hcm, hm64⟩ := hto.int hmj
        cases hbe
        rw [hqd, htd, hmd] at hea'
        simp only [armsL] at hea'
        refine ld (hB53.cl rfl).cell ?_
        refine ld (hB73.cl rfl).cell ?_
        refine ix n.a.toNat (by omega) (by omega) ?_
        refine ld (hS3 _ _ _ hck).cell ?_
        refine ix j rfl hlt ?_
        refine ld (hS3 _ _ _ hcq).cell ?_
        refine ld (hB73.cl rfl).cell ?_
        refine int64 (by omega) (by omega) ?_
        refine int64 (by omega) (by omega) ?_
        refine ix (2 * j + 1) (by omega) (by omega) ?_
        refine ld (hS3 _ _ _ hcm).cell ?_
        refine br_dec (fun g8 => ?_) (fun g8 => ?_)
        · have g8 : ¬ m = (q.length : Int) := g8
          rw [if_neg g8] at hea'
          exact next_no _ (hk02.tr hk3) (by rw [hea, hea']; rfl)
        have g8 : m = (q.length : Int) := by simpa using g8
        rw [if_pos g8] at hea'
        refine ld (hB73.cl rfl).cell ?_
        refine int64 (by omega) (by omega) ?_
        refine ix (2 * j) (by omega) (by omega) ?_
        refine ld (hS3 _ _ _ hct).cell ?_
        refine int64 (by omega) (by omega) ?_
        refine int64 (by omega) (by omega) ?_
        refine pair_build _ _ ?_
        refine pair_lit [(t, h - 1 + (q.length : Int))] (.inl rfl) fun b4 w4 hb4 hB4 hs4 hk4 => ?_
        refine pair_ap (hO.kp hk4) (t, h - 1 + (q.length : Int)) ⟨ht64, by unfold I64; simp only; omega⟩ hB4 (by omega) fun v' w5 hO5 hk5 => ?_
        have k25 : Kp [] w2 w5 := (hk3.tr hk4).own hk5 (hO.kp hk4)
        refine int64 (by (try simp only); omega) (by (try simp only); omega) ?_
        refine ⟨(j + 1, v', pre ++ [(t, h - 1 + (q.length : Int))]), by simp only; omega, rfl, ⟨rfl, rfl, rfl, rfl, rfl, trivial⟩, hlt, k25, hO5, by simp; omega, ?_⟩
        simp only
        rw [hea', show 2 * (j + 1) = 2 * j + 1 + 1 by omega, Option.map_map]
        congr 1
        funext l
        simp
      · have g7 : ¬ (j : Int) < n.b := g7
        rw [List.drop_eq_nil_of_le (by omega)] at hea'
        simp only [armsL, Option.map_some, List.append_nil] at hea'
        obtain ⟨av, cv, rfl, hSv⟩ := hO.den (by omega)
        exact next_yes (hk02.tr hk3) (hea.trans hea') (hSv.mono fun b o u hu => ⟨by have := hu.1; have := hk02.size; omega, hu.2⟩)
    refine br_dec (fun o10 => ?_) (fun o10 => ?_)
    · refine ⟨(1, y), rfl, ⟨rfl, rfl, rfl, rfl, rfl, trivial⟩, Kp.refl _ _, by simp, ?_⟩
      rw [nxt (by omega) (by omega) (by omega) (by omega) (pl10 o10), ← hD, ← hz, ← hy]
    refine br_dec (fun o11 => ?_) (fun o11 => ?_)
    · have he : nextM c i n h fl = if (z && decide (n.to.length = 1) && decide (1 ≤ h - fl)) then some [(n.to.getD 0 0, h - 1), ((i : Int) + 1, h)] else none := by
        unfold nextM
        rw [if_neg (by omega), if_neg (by omega), if_pos o11, hz]
      cases z with
      | false => exact next_no _ hk1 (by rw [he]; simp)
      | true =>
        refine ld (hB7.cl rfl).cell ?_
        refine br_dec (fun q => ?_) (fun q => ?_)
        · have q : ¬ (n.to.length : Int) = 1 := q
          exact next_no _ hk1 (by rw [he]; simp; omega)
        have q : (n.to.length : Int) = 1 := by simpa using q
        refine br_dec (fun g => ?_) (fun g => ?_)
        · have g : h ≤ fl := g
          exact next_no _ hk1 (by rw [he]; simp; omega)
        have g : ¬ h ≤ fl := g
        obtain ⟨x, hx, _⟩ := drop_get (l := n.to) (k := 0) (by omega)
        obtain ⟨bt, ot, rfl, hcell, hx64⟩ := hto.int hx
        have hx0 : n.to.getD 0 0 = x := by simp [List.getD, hx]
        refine ld (hB7.cl rfl).cell ?_
        refine ix 0 rfl (by omega) ?_
        refine ld (hS1 _ _ _ hcell).cell ?_
        refine int64 (by omega) (by omega) ?_
        refine pair_build _ _ ?_
        refine int64 (by omega) (by omega) ?_
        refine pair_build _ _ ?_
        refine pair_lit [(x, h - 1), ((i : Int) + 1, h)] (.inr rfl) fun b3 w3 hb3 hB3 hs3' hk3 => ?_
        have z2 := hk1.size
        refine ⟨_, _, rfl, hk1.tr hk3, ?_⟩
        rw [he, hx0, decide_eq_true (show n.to.length = 1 by omega), decide_eq_true (show 1 ≤ h - fl by omega)]
        refine ⟨rfl, _, _, rfl, pairs_row (by omega) hB3 (fun v hv => ?_) (by simp)⟩
        unfold I64 at *
        simp at hv
        rcases hv with rfl | rfl <;> simp only <;> omega
    refine br_dec (fun o12 => ?_) (fun o12 => ?_)
    · have he := nxt (c := c) (i := i) (fl := fl) (by omega) (by omega) (by omega) (by omega) (pl12 (c := c) (h := h) o12)
      rw [← hD] at he
      refine br (fun d => ?_) (fun d => ?_)
      · have d : D = true := d
        (repeat first | refine ldC ‹Sub _ _› (by assumption) ?_ | refine ld (Cl.cell (by first | assumption | exact Bk.cl (by assumption) rfl)) ?_ | refine ldK (by first | assumption | exact Bk.cl (by assumption) rfl | exact ‹Sub _ _› _ _ _ (by assumption)) ?_)
        refine ev_call (within20_ct _ _ _ w1) ?_
        rintro e w2 ⟨rfl, hk2⟩
        refine br (fun ht => ?_) (fun ht => ?_)
        · refine ld ((hB7.kp hk2 (by simp)).cl rfl).cell ?_
          exact ⟨(2, decide (n.b = 0)), rfl, ⟨rfl, rfl, rfl, rfl, rfl, trivial⟩, hk2, by simp, by rw [he, d, ht]; simp⟩
        · exact ⟨(2, false), rfl, ⟨rfl, rfl, rfl, rfl, rfl, trivial⟩, no _ hk2 (by rw [he, ht]; simp)⟩
      · have d : D = false := d
        exact ⟨(2, false), rfl, ⟨rfl, rfl, rfl, rfl, rfl, trivial⟩, no _ (Kp.refl _ _) (by rw [he, d]; simp)⟩
    refine br_dec (fun o13 => ?_) (fun o13 => ?_)
    · have he : nextM c i n h fl = if (z && decide (n.to.length = 1)) then some [(n.to.getD 0 0, h)] else none := by
        unfold nextM
        rw [if_neg (by omega), if_pos o13, hz]
      cases z with
      | false => exact next_no _ hk1 (by rw [he]; simp)
      | true =>
        refine ld (hB7.cl rfl).cell ?_
        refine br_dec (fun q => ?_) (fun q => ?_)
        · have q : ¬ (n.to.length : Int) = 1 := q
          exact next_no _ hk1 (by rw [he]; simp; omega)
        have q : (n.to.length : Int) = 1 := by simpa using q
        obtain ⟨x, hx, _⟩ := drop_get (l := n.to) (k := 0) (by omega)
        obtain ⟨bt, ot, rfl, hcell, hx64⟩ := hto.int hx
        have hx0 : n.to.getD 0 0 = x := by simp [List.getD, hx]
        refine ld (hB7.cl rfl).cell ?_
        refine ix 0 rfl (by omega) ?_
        refine ld (hS1 _ _ _ hcell).cell ?_
        refine pair_build _ _ ?_
        refine pair_lit [(x, h)] (.inl rfl) fun b3 w3 hb3 hB3 hs3' hk3 => ?_
        have z2 := hk1.size
        refine ⟨_, _, rfl, hk1.tr hk3, ?_⟩
        rw [he, hx0, decide_eq_true (show n.to.length = 1 by omega)]
        refine ⟨rfl, _, _, rfl, pairs_row (by omega) hB3 (fun v hv => ?_) (by simp)⟩
        unfold I64 at *
        simp at hv
        subst hv
        simp only
        omega
    refine br_dec (fun o14 => ?_) (fun o14 => ?_)
    · have he := nx14 (c := c) (n := n) (h := h) (i := i) (fl := fl) o14 hh.1 hf.1
      rw [← hD] at he
      unfold I64 at na
      refine br (fun d => ?_) (fun d => ?_)
      · have d : D = true := d
        (repeat first | refine ldC ‹Sub _ _› (by assumption) ?_ | refine ld (Cl.cell (by first | assumption | exact Bk.cl (by assumption) rfl)) ?_ | refine ldK (by first | assumption | exact Bk.cl (by assumption) rfl | exact ‹Sub _ _› _ _ _ (by assumption)) ?_)
        refine ev_call (within20_ct _ _ _ w1) ?_
        rintro e w2 ⟨rfl, hk2⟩
        have hB72 := hB7.kp hk2 (by simp)
        refine br (fun ht => ?_) (fun ht => ?_)
        · have hin : 1 ≤ n.a ∧ n.a ≤ h := by simpa [inM] using ht
          refine ld (hB72.cl rfl).cell ?_
          refine ld (hB72.cl rfl).cell ?_
          refine int64 (by omega) (by omega) ?_
          exact ⟨(n.a + 1, decide (n.b = 0)), rfl, ⟨rfl, rfl, rfl, rfl, rfl, trivial⟩, hk2, by simp; omega, by rw [he, d, ht]; simp⟩
        · refine ld (hB72.cl rfl).cell ?_
          refine intw ?_
          exact ⟨(_, false), rfl, ⟨rfl, rfl, rfl, rfl, rfl, trivial⟩, no _ hk2 (by rw [he, ht]; simp)⟩
      · have d : D = false := d
        refine ld (hB7.cl rfl).cell ?_
        refine intw ?_
        exact ⟨(_, false), rfl, ⟨rfl, rfl, rfl, rfl, rfl, trivial⟩, no _ (Kp.refl _ _) (by rw [he, d]; simp)⟩
    refine ⟨(0, false), rfl, ⟨rfl, rfl, rfl, rfl, rfl, trivial⟩, no _ (Kp.refl _ _) ?_⟩
    rw [nxt o6 o9 o11 o13 (pl0 o1 o2 o3 o4 o5 o7 o8 o10 o12 o14)]
    simp
  rintro ⟨p, ok⟩ w2 ⟨hk2, hb, he⟩
  simp only at hb he
  refine ev_of τok ?_
  have hk02 := hk1.tr hk2
  cases ok with
  | true =>
    obtain ⟨hb1, hb2⟩ := hb rfl
    simp only [if_true] at he
    refine int64 (by omega) (by omega) ?_
    refine int64 (by omega) (by omega) ?_
    refine int64 (by omega) (by omega) ?_
    refine pair_build _ _ ?_
    refine pair_lit [((i : Int) + 1, h - p + 1)] (.inl rfl) fun b3 w3 hb3 hB3 hs3' hk3 => ?_
    refine int64 (by omega) (by omega) ?_
    have z2 := hk02.size
    refine ⟨_, _, rfl, hk02.tr hk3, ?_⟩
    rw [he]
    by_cases g : p ≤ h - fl
    · rw [if_pos g]
      refine ⟨by simp; omega, _, _, rfl, pairs_row (by omega) hB3 (fun x hx => ?_) (by simp)⟩
      simp only [List.mem_singleton] at hx
      subst hx
      unfold I64
      simp only
      omega
    · rw [if_neg g]
      simp
      omega
  | false =>
    simp only [Bool.false_eq_true, if_false] at he
    refine int64 (by omega) (by omega) ?_
    refine intw ?_
    refine intw ?_
    refine pair_build _ _ ?_
    refine pair_lit [(_, _)] (.inl rfl) fun b3 w3 hb3 hB3 hs3' hk3 => ?_
    exact next_no _ (hk02.tr hk3) he
end Go.Proofs.Ytjogpbiilokldaa
