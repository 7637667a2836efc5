/-
  Levels: LevelOrders and LevelLeast.
-/
import Derived.Test.YtbgiljognlbkhaaLvN
set_option linter.unusedSimpArgs false
set_option linter.unusedVariables false
namespace Go.Proofs.Ytbgiljognlbkhaa
open Go.Wx Lv

theorem levelOrders_ct (x : Ord5) (ao av : Option Addr) (co cv : Nat) (w : World) (ho : Orders w.heap.size w.heap ao x.list) (hv : Ints w.heap.size w.heap av x.vals) (hvl : (x.vals.length : Int) ≤ 9223372036854775807) (hol : (x.list.length : Int) ≤ 9223372036854775807) :
    Calls Try.prog 6 #[.agg #[.int .i64 x.vars, .slice ao x.list.length co, .slice av x.vals.length cv, .int .i64 x.low, .int .i64 x.high]] w (fun e w' => e = .returned (.bool true) ∧ Kp [] w w') := by
  refine calls_of (args := [_]) 103 [.tmp 2] τok Try.func6 rfl rfl rfl (Nat.le_of_ble_eq_true rfl) ?_
  refine new fun b1 w1 hb1 hB1 hs1 hk1 => ?_
  refine ev_call (awake_ct w1) ?_
  rintro e w2 ⟨rfl, hk2⟩
  have hk12 := hk1.tr hk2
  have hB2 : Bk w2.heap b1 [.int .i64 x.vars, .slice ao x.list.length co, .slice av x.vals.length cv, .int .i64 x.low, .int .i64 x.high] 25 := hB1.kp hk2 (by simp)
  have hc0 : Cl w2.heap b1 0 (.int .i64 x.vars) := hB2.cl rfl
  have hc1 : Cl w2.heap b1 1 (.slice ao x.list.length co) := hB2.cl rfl
  have hc2 : Cl w2.heap b1 2 (.slice av x.vals.length cv) := hB2.cl rfl
  have hc3 : Cl w2.heap b1 3 (.int .i64 x.low) := hB2.cl rfl
  have hc4 : Cl w2.heap b1 4 (.int .i64 x.high) := hB2.cl rfl
  refine ld hc1.cell ?_
  refine br_dec (fun h1 => ?_) (fun h1 => ?_)
  · exact ⟨rfl, hk12⟩
  refine ld hc2.cell ?_
  refine br_dec (fun h2 => ?_) (fun h2 => ?_)
  · exact ⟨rfl, hk12⟩
  refine ld hc0.cell ?_
  refine ld hc1.cell ?_
  -- both Least, with what they answer
  obtain ⟨L, E, hE⟩ : ∃ (L : List Int) (E : Int), checkF x.vars x.list = E ∧ (L.length : Int) ≤ 9223372036854775807 ∧
      (∀ w e w', LeastPost x.vars x.list w e w' → ∃ a c, e = .returned (.tuple #[.slice a L.length c, .int .i64 E]) ∧ Ints w'.heap.size w'.heap a L ∧ Kp [] w w') ∧
      (∀ w e w', LeastPostR x.vars x.list w e w' → ∃ a c, e = .returned (.tuple #[.slice a L.length c, .int .i64 E]) ∧ Ints w'.heap.size w'.heap a L ∧ Kp [] w w') := by
    unfold LeastPost LeastPostR checkF
    cases hc : closedF x.vars x.list with
    | error n => exact ⟨[], n, rfl, by simp, fun w e w' ⟨h1, h2⟩ => ⟨none, 0, h2, ⟨.inl rfl, by simp⟩, h1⟩, fun w e w' ⟨h1, h2⟩ => ⟨none, 0, h2, ⟨.inl rfl, by simp⟩, h1⟩⟩
    | ok g =>
      have hl : (leastL x.vars g).length ≤ 16 := by have := (closedF_ok hc).2.2.1; simp [leastL]; omega
      exact ⟨leastL x.vars g, 0, rfl, by omega, fun w e w' ⟨h1, b, h2, h3, h4⟩ => ⟨some ⟨b, 0, none⟩, _, h2, ⟨.inr ⟨b, 0, rfl, h4.lt, fun i j hi hj => by rw [show j = 0 by omega]; exact RowI.cl h4 hi⟩, gap_i64 hc⟩, h1⟩,
        fun w e w' ⟨h1, a, c, h2, h3⟩ => ⟨a, c, h2, h3, h1⟩⟩
  obtain ⟨hE, hLl, hP, hPR⟩ := hE
  refine ev_call (least_ct x.vars x.list ao co w2 (ho.kp hk12 hk12.size)) ?_
  rintro e w3 hpost
  obtain ⟨a3, c3, rfl, hI3, hk3⟩ := hP _ _ _ hpost
  clear hpost
  have hk23 := hk3
  have hk13 := hk12.tr hk3
  refine ld (hc0.kp hk23 (by simp)).cell ?_
  refine ld (hc1.kp hk23 (by simp)).cell ?_
  refine ev_call (leastR_ct x.vars x.list ao co w3 (ho.kp hk13 hk13.size)) ?_
  rintro e w4 hpost
  obtain ⟨a4, c4, rfl, hI4, hk4⟩ := hPR _ _ _ hpost
  clear hpost
  have hk24 := hk23.tr hk4
  have hk14 := hk13.tr hk4
  refine ld (hc0.kp hk24 (by simp)).cell ?_
  refine ld (hc1.kp hk24 (by simp)).cell ?_
  refine ld (hc3.kp hk24 (by simp)).cell ?_
  refine ld (hc4.kp hk24 (by simp)).cell ?_
  obtain ⟨gp, hgp⟩ : ∃ gp, gapF x.vars x.list x.low x.high = gp := ⟨_, rfl⟩
  have hg5 := gap_ct x.vars x.list x.low x.high ao co w4 (ho.kp hk14 hk14.size)
  rw [hgp] at hg5
  refine ev_call hg5 ?_
  rintro e w5 ⟨rfl, hk5⟩
  have hk25 := hk24.tr hk5
  have hk15 := hk14.tr hk5
  refine ld (hc0.kp hk25 (by simp)).cell ?_
  refine ld (hc1.kp hk25 (by simp)).cell ?_
  refine ld (hc3.kp hk25 (by simp)).cell ?_
  refine ld (hc4.kp hk25 (by simp)).cell ?_
  have hg6 := gapR_ct x.vars x.list x.low x.high ao co w5 (ho.kp hk15 hk15.size)
  rw [← gap_eq, hgp] at hg6
  refine ev_call hg6 ?_
  rintro e w6 ⟨rfl, hk6⟩
  have hk26 := hk25.tr hk6
  have hk16 := hk15.tr hk6
  refine drawQ τok (fun w' => Kp [] w6 w') (by kernel_rfl) ((Kp.refl [] w6).dr _) ?_
  refine ldK (hc0.kp hk26 (by simp)) ?_
  refine ldK (hc1.kp hk26 (by simp)) ?_
  refine callK (v := .int .i64 E) (fun w' hk' => by rw [← hE]; exact check_ct x.vars x.list ao co w' (ho.kp (hk16.tr hk') (hk16.tr hk').size)) ?_
  refine br_yes rfl ?_
  refine br_yes rfl ?_
  have k36 := (hk4.tr hk5).tr hk6
  have k46 := hk5.tr hk6
  refine callK (v := .bool true) (fun w' hk' => by
    have := same_ct L L a3 a4 c3 c4 w' (hI3.kp (k36.tr hk') (k36.tr hk').size) (hI4.kp (k46.tr hk') (k46.tr hk').size) hLl
    rw [decide_eq_true rfl] at this
    exact this) ?_
  refine br_yes rfl ?_
  refine br_t (by simp) ?_
  refine ldK (hc2.kp hk26 (by simp)) ?_
  refine ldK (hc1.kp hk26 (by simp)) ?_
  refine callK (fun w' hk' => meets_ct x.vals x.list av ao cv co w' (hv.kp (hk16.tr hk') (hk16.tr hk').size) (ho.kp (hk16.tr hk') (hk16.tr hk').size) hvl hol) ?_
  refine ldK (hc2.kp hk26 (by simp)) ?_
  refine ldK (hc1.kp hk26 (by simp)) ?_
  refine callK (fun w' hk' => meetsR_ct x.vals x.list av ao cv co w' (hv.kp (hk16.tr hk') (hk16.tr hk').size) (ho.kp (hk16.tr hk') (hk16.tr hk').size) hvl hol) ?_
  intro w7 hk7
  refine ⟨?_, hk16.tr hk7⟩
  simp [one]

/-! ### LevelLeast -/
theorem least_meets {vars : Int} {os : List Order} {g : G} (hg : closedF vars os = .ok g) : (∀ x ∈ leastL vars g, 0 ≤ x) ∧ ∀ v, Rg (vars.toNat + 1) v → g 0 v = some (ofF (leastL vars g) v) := by
  obtain ⟨hclosed, hv0, hv16, hol, hbad⟩ := closedF_ok hg
  have hz : ∀ v, Rg (vars.toNat + 1) v → ∃ p, g 0 v = some p ∧ 0 ≤ p := fun v hv => hclosed.most 0 v 0 (Walk.one (Edge.zero _ hv) (by unfold Rg; omega))
  constructor
  · intro x hx
    simp only [leastL, List.mem_map, List.mem_range] at hx
    obtain ⟨i, hi, rfl⟩ := hx
    obtain ⟨p, h1, h2⟩ := hz ((i : Int) + 1) (by unfold Rg; omega)
    rw [h1]
    exact h2
  · intro v hv
    have hl : (leastL vars g).length = vars.toNat := by simp [leastL]
    unfold Rg at hv
    unfold ofF
    by_cases h0 : v = 0
    · subst h0
      rw [if_pos (by omega)]
      exact hclosed.zero 0 (by unfold Rg; omega)
    · rw [if_neg (by omega)]
      have hi : (v - 1).toNat < vars.toNat := by omega
      have e1 : (leastL vars g).getD (v - 1).toNat 0 = (g 0 v).getD 0 := by
        simp only [leastL, List.getD_eq_getElem?_getD, List.getElem?_map, List.getElem?_range hi, Option.map_some, Option.getD_some]
        congr 2
        omega
      obtain ⟨p, h1, h2⟩ := hz v (by unfold Rg; omega)
      rw [e1, h1]
      rfl

theorem least_ok {vars : Int} {os : List Order} {g : G} (hg : closedF vars os = .ok g) : meetsF (leastL vars g) os = true := by
  obtain ⟨hnn, hval⟩ := least_meets hg
  obtain ⟨hclosed, hv0, hv16, hol, hbad⟩ := closedF_ok hg
  have hgood := good_of hv0 hbad
  simp only [meetsF, Bool.and_eq_true, List.all_eq_true, decide_eq_true_eq]
  refine ⟨hnn, fun o ho => ?_⟩
  obtain ⟨h1, h2, h3, h4⟩ := hgood o ho
  have e1 := hval _ h1
  have e2 := hval _ h2
  have hb1 := gap_bd hg e1
  obtain ⟨v, hv, hle⟩ := hclosed.most 0 o.high _ (Walk.snoc (hclosed.walk _ _ _ e1).2.2 (Edge.ord o ho h1 h2))
  rw [e2] at hv
  have hv : ofF (leastL vars g) o.high = v := by simpa using hv
  show decide _ = true
  rw [wr_in (by omega)]
  exact decide_eq_true (by omega)

theorem levelLeast_ct (x : Ord5) (ao av : Option Addr) (co cv : Nat) (w : World) (ho : Orders w.heap.size w.heap ao x.list) (hv : Ints w.heap.size w.heap av x.vals) (hvl : (x.vals.length : Int) ≤ 9223372036854775807) (hol : (x.list.length : Int) ≤ 9223372036854775807) :
    Calls Try.prog 7 #[.agg #[.int .i64 x.vars, .slice ao x.list.length co, .slice av x.vals.length cv, .int .i64 x.low, .int .i64 x.high]] w (fun e w' => e = .returned (.bool true) ∧ Kp [] w w') := by
  refine calls_of (args := [_]) 61 [.tmp 2] τok Try.func7 rfl rfl rfl (Nat.le_of_ble_eq_true rfl) ?_
  refine new fun b1 w1 hb1 hB1 hs1 hk1 => ?_
  refine ev_call (awake_ct w1) ?_
  rintro e w2 ⟨rfl, hk2⟩
  have hk12 := hk1.tr hk2
  have hB2 : Bk w2.heap b1 [.int .i64 x.vars, .slice ao x.list.length co, .slice av x.vals.length cv, .int .i64 x.low, .int .i64 x.high] 25 := hB1.kp hk2 (by simp)
  have hc0 : Cl w2.heap b1 0 (.int .i64 x.vars) := hB2.cl rfl
  have hc1 : Cl w2.heap b1 1 (.slice ao x.list.length co) := hB2.cl rfl
  have hc2 : Cl w2.heap b1 2 (.slice av x.vals.length cv) := hB2.cl rfl
  refine ld hc0.cell ?_
  refine ld hc1.cell ?_
  refine ev_call (least_ct x.vars x.list ao co w2 (ho.kp hk12 hk12.size)) ?_
  rintro e w3 ⟨hk3, hpost⟩
  have hk13 := hk12.tr hk3
  cases hc : closedF x.vars x.list with
  | error n =>
    rw [hc] at hpost; simp only at hpost; subst hpost
    have hn : n ≠ 0 := by
      rcases closedF_err hc with ⟨_, h⟩ | ⟨_, _, h⟩ | ⟨_, _, _, h⟩ | ⟨_, _, _, h, _⟩ <;> omega
    refine br_yes hn ?_
    refine ld (hc0.kp hk3 (by simp)).cell ?_
    refine ld (hc1.kp hk3 (by simp)).cell ?_
    have hck := check_ct x.vars x.list ao co w3 (ho.kp hk13 hk13.size)
    have hcf : checkF x.vars x.list = n := by unfold checkF; rw [hc]
    rw [hcf] at hck
    refine ev_call hck ?_
    rintro e w4 ⟨rfl, hk4⟩
    refine ⟨?_, hk13.tr hk4⟩
    simp [one]
  | ok g =>
    rw [hc] at hpost; obtain ⟨b, rfl, hb, hR⟩ := hpost
    obtain ⟨hclosed, hv0, hv16, hol64, hbad⟩ := closedF_ok hc
    have hlen : (leastL x.vars g).length = x.vars.toNat := by simp [leastL]
    have hlm := least_meets hc
    have hlo := least_ok hc
    have hli := gap_i64 hc
    obtain ⟨L, hL⟩ : ∃ L, leastL x.vars g = L := ⟨_, rfl⟩
    rw [hL] at hR hlen hlm hlo hli
    rw [hL]
    have hI : Ints w3.heap.size w3.heap (some ⟨b, 0, none⟩) L := ⟨.inr ⟨b, 0, rfl, hR.lt, fun i j hi hj => by rw [show j = 0 by omega]; exact RowI.cl hR hi⟩, hli⟩
    refine ld (hc0.kp hk3 (by simp)).cell ?_
    refine br_no (by simp; omega) ?_
    refine ld (hc1.kp hk3 (by simp)).cell ?_
    have hms := meets_ct L x.list (some ⟨b, 0, none⟩) ao L.length co w3 hI (ho.kp hk13 hk13.size) (by omega) hol
    rw [hlo] at hms
    refine ev_call hms ?_
    rintro e w4 ⟨rfl, hk4⟩
    have hk34 := hk3.tr hk4
    have hk14 := hk13.tr hk4
    have hB4 := hB2.kp hk34 (by simp)
    refine ldN [.int .i64 x.vars, .slice ao x.list.length co, .slice av x.vals.length cv, .int .i64 x.low, .int .i64 x.high] rfl (fun j v hv => by rw [Nat.zero_add]; exact hB4.cl hv) ?_
    refine ev_call (sound_ct x ao av co cv w4 (ho.kp hk14 hk14.size) (hv.kp hk14 hk14.size) hvl) ?_
    rintro e w5 ⟨rfl, hk5⟩
    have hk15 := hk14.tr hk5
    refine br (fun c1 => ?_) (fun c1 => ?_)
    · exact ⟨rfl, hk15⟩
    have hs : soundF x = true := by simpa using c1
    obtain ⟨_, _, hm⟩ := meet_of hs
    have k35 := hk4.tr hk5
    refine loop τok (σ := Nat) (fun k => [(1, .pointer (some ⟨b1, 0, none⟩)), (3, .slice (some ⟨b, 0, none⟩) L.length L.length), (5, .int .i64 k)])
      (fun k w' => k ≤ L.length ∧ Kp [] w5 w') (fun k => L.length - k) 0 ⟨rfl, rfl, rfl, trivial⟩ ⟨Nat.zero_le _, Kp.refl _ _⟩ ?_
    rintro k w6 ⟨hk, hk6⟩
    refine br_dec (fun h5 => ?_) (fun h5 => ?_)
    · have hlt : k < L.length := by omega
      obtain ⟨y, hy⟩ : ∃ y, L.getD k 0 = y := ⟨_, rfl⟩
      have hd : Cl w6.heap b (0 + k * 1) (.int .i64 y) := hy ▸ (RowI.cl hR hlt).kp (k35.tr hk6) (by simp)
      refine drawQ τok (fun w' => Kp [] w6 w') (by kernel_rfl) ((Kp.refl [] w6).dr _) ?_
      refine ix k rfl hlt ?_
      refine ldK hd ?_
      refine ldK (hc2.kp (hk34.tr (hk5.tr hk6)) (by simp)) ?_
      refine int64 (by omega) (by omega) ?_
      refine callK (fun w' hk' => ofR_ct x.vals av cv ((k : Int) + 1) w' _ (hv.kp (hk15.tr (hk6.tr hk')) (hk15.tr (hk6.tr hk')).size) (by unfold I64; omega)) ?_
      intro w7 hk7
      refine br_no ?_ ?_
      · have e1 := hlm.2 ((k : Int) + 1) (by unfold Rg; omega)
        have e2 : ofF L ((k : Int) + 1) = y := by
          rw [← hy]
          unfold ofF
          rw [if_neg (by omega)]
          congr 1
          omega
        rw [e2] at e1
        have h2 := walk_meet hm (hclosed.walk _ _ _ e1).2.2
        have h3 : ofF x.vals 0 = 0 := by simp [ofF]
        omega
      refine int64 (by omega) (by omega) ?_
      exact ⟨k + 1, by omega, rfl, ⟨rfl, rfl, rfl, trivial⟩, hlt, hk6.tr hk7⟩
    · exact ⟨rfl, hk15.tr hk6⟩
end Go.Proofs.Ytbgiljognlbkhaa
