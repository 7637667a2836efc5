/-
  Levels: the reference's Least and Gap, level.Meets.
-/
import Derived.Test.YtbgiljognlbkhaaLvL
set_option linter.unusedSimpArgs false
set_option linter.unusedVariables false
namespace Go.Proofs.Ytbgiljognlbkhaa
open Go.Wx Lv

theorem check_of {vars : Int} {os : List Order} : (∃ g, closedF vars os = .ok g ∧ checkR vars os = 0) ∨ ∃ n, closedF vars os = .error n ∧ checkR vars os = n ∧ n ≠ 0 := by
  have hcl := check_eq vars os
  cases hc : closedF vars os with
  | ok g => rw [hc] at hcl; exact .inl ⟨g, rfl, hcl⟩
  | error n =>
    rw [hc] at hcl
    exact .inr ⟨n, rfl, hcl, by rcases closedF_err hc with ⟨_, h⟩ | ⟨_, _, h⟩ | ⟨_, _, _, h⟩ | ⟨_, _, _, h, _⟩ <;> omega⟩

def LeastPostR (vars : Int) (os : List Order) (w : World) (e : Ending) (w' : World) : Prop :=
  Kp [] w w' ∧ match closedF vars os with
    | .error n => e = .returned (.tuple #[.slice none 0 0, .int .i64 n])
    | .ok g => ∃ a cap, e = .returned (.tuple #[.slice a (leastL vars g).length cap, .int .i64 0]) ∧ Ints w'.heap.size w'.heap a (leastL vars g)

theorem least_from {vars : Int} {os : List Order} {g : G} {d : List Int} (hg : closedF vars os = .ok g) (hd : fromF (vars.toNat + 1) os 0 = some d) : d.drop 1 = leastL vars g := by
  obtain ⟨hclosed, hv0, hv16, hol, hbad⟩ := closedF_ok hg
  have hgood := good_of hv0 hbad
  obtain ⟨hl, hval⟩ := fromF_val (by omega) hgood hol hclosed (by omega) hd
  apply List.ext_getElem
  · simp [leastL, hl]
  · intro i h1 h2
    have hi : i < vars.toNat := by simpa [leastL] using h2
    have h3 := hval (i + 1) (by omega)
    simp only [List.getElem_drop, leastL, List.getElem_map, List.getElem_range]
    have e1 : gt d (i + 1) = d[1 + i] := by
      unfold gt
      rw [List.getD_eq_getElem?_getD, List.getElem?_eq_getElem (by omega), Option.getD_some]
      congr 1
      omega
    rw [← e1]
    rcases h3 with ⟨h3, _⟩ | ⟨p, h3, h4, _⟩
    · obtain ⟨v, hv, _⟩ := hclosed.most 0 ((i + 1 : Nat) : Int) 0 (Walk.one (Edge.zero _ (by unfold Rg; omega)) (by unfold Rg; omega))
      have h3' : g 0 ((i + 1 : Nat) : Int) = none := h3
      rw [h3'] at hv; cases hv
    · have h3' : g 0 ((i : Int) + 1) = some p := h3
      rw [h3', h4]
      rfl

theorem gap_i64 {vars : Int} {os : List Order} {g : G} (hg : closedF vars os = .ok g) : ∀ x ∈ leastL vars g, I64 x := by
  intro x hx
  simp only [leastL, List.mem_map, List.mem_range] at hx
  obtain ⟨i, hi, rfl⟩ := hx
  unfold I64
  cases h : g 0 ((i : Int) + 1) with
  | none => simp
  | some v =>
    have := gap_bd hg h
    simp only [Option.getD_some]
    omega

theorem leastR_ct (vars : Int) (os : List Order) (ao : Option Addr) (co : Nat) (w : World) (ho : Orders w.heap.size w.heap ao os) :
    CallOk Try.prog 20 ∧ Calls Try.prog 20 #[.int .i64 vars, .slice ao os.length co] w (LeastPostR vars os w) := by
  refine ⟨⟨_, Try.func20, rfl, by decide⟩, ?_⟩
  refine calls_of (args := [_, _]) 23 [.tmp 4, .tmp 5] τok Try.func20 rfl rfl rfl (Nat.le_of_ble_eq_true rfl) ?_
  unfold LeastPostR
  rcases @check_of vars os with ⟨g, hg, hck⟩ | ⟨n, hg, hck, hn⟩
  · have hchk := checkR_ct vars os ao co w ho
    rw [hck] at hchk
    refine ev_call hchk ?_
    rintro e w1 ⟨rfl, hk1⟩
    obtain ⟨hclosed, hv0, hv16, hol, hbad⟩ := closedF_ok hg
    have hgood := good_of hv0 hbad
    have hfrom := from_ct vars (vars.toNat + 1) (by omega) (by omega) os hgood hol 0 (by omega) ao co w1 (ho.kp hk1 hk1.size)
    obtain ⟨d, hd⟩ := fromF_ends (low := 0) (by omega) hgood hol hclosed (by omega)
    refine ev_call hfrom ?_
    rintro e w2 ⟨hk2, hpost⟩
    rw [hd] at hpost
    obtain ⟨b, rfl, hB, hl, hb⟩ := hpost
    refine slcL τok rfl 1 rfl (by omega) ?_
    have hle := least_from hg hd
    have hlen : (leastL vars g).length = vars.toNat := by simp [leastL]
    rw [hg]
    refine ⟨hk1.tr hk2, (if vars.toNat + 1 = 1 then some ⟨b, 0, none⟩ else (some (⟨b, 0, none⟩ : Addr)).map (·.add (1 * 1))), vars.toNat + 1 - 1, ?_, ?_, gap_i64 hg⟩
    · rw [hlen]; rfl
    · rw [hlen]
      by_cases h0 : vars.toNat = 0
      · exact .inl h0
      · refine .inr ⟨b, 1, ?_, hB.lt, fun i j hi hj => ?_⟩
        · rw [if_neg (by omega)]
          rfl
        · have := RowI.cl hB (k := i + 1) (by omega)
          rw [← hle, show j = 0 by omega]
          rw [show 1 + i * 1 + 0 = 0 + (i + 1) * 1 by omega]
          have e1 : (d.drop 1).getD i 0 = d.getD (i + 1) 0 := by
            simp [List.getD, List.getElem?_drop, Nat.add_comm]
          show Cl w2.heap b (0 + (i + 1) * 1) (.int .i64 ((d.drop 1).getD i 0))
          rw [e1]
          exact this
  · have hchk := checkR_ct vars os ao co w ho
    rw [hck] at hchk
    refine ev_call hchk ?_
    rintro e w1 ⟨rfl, hk1⟩
    refine br_yes hn ?_
    rw [hg]
    exact ⟨hk1, rfl⟩

theorem gapR_ct (vars : Int) (os : List Order) (low high : Int) (ao : Option Addr) (co : Nat) (w : World) (ho : Orders w.heap.size w.heap ao os) :
    CallOk Try.prog 21 ∧ Calls Try.prog 21 #[.int .i64 vars, .slice ao os.length co, .int .i64 low, .int .i64 high] w (fun e w' => e = .returned (.tuple #[.int .i64 (gapR vars os low high).1, .bool (gapR vars os low high).2]) ∧ Kp [] w w') := by
  refine ⟨⟨_, Try.func21, rfl, by decide⟩, ?_⟩
  refine calls_of (args := [_, _, _, _]) 50 [.tmp 8, .tmp 9] τok Try.func21 rfl rfl rfl (Nat.le_of_ble_eq_true rfl) ?_
  refine ev_call (checkR_ct vars os ao co w ho) ?_
  rintro e w1 ⟨rfl, hk1⟩
  have bad : checkR vars os ≠ 0 ∨ low < 0 ∨ vars < low ∨ high < 0 ∨ vars < high → gapR vars os low high = (0, false) := fun h => by unfold gapR; rw [if_pos h]
  refine br_dec (fun c1 => ?_) (fun c1 => ?_)
  · exact ⟨by rw [bad (.inl c1)]; rfl, hk1⟩
  refine br_dec (fun c2 => ?_) (fun c2 => ?_)
  · exact ⟨by rw [bad (.inr (.inl c2))]; rfl, hk1⟩
  refine br_dec (fun c3 => ?_) (fun c3 => ?_)
  · exact ⟨by rw [bad (.inr (.inr (.inl c3)))]; rfl, hk1⟩
  refine br_dec (fun c4 => ?_) (fun c4 => ?_)
  · exact ⟨by rw [bad (.inr (.inr (.inr (.inl c4))))]; rfl, hk1⟩
  refine br_dec (fun c5 => ?_) (fun c5 => ?_)
  · exact ⟨by rw [bad (.inr (.inr (.inr (.inr c5))))]; rfl, hk1⟩
  have hck : checkR vars os = 0 := by simpa using c1
  rcases @check_of vars os with ⟨g, hg, _⟩ | ⟨n, hg, hck', hn⟩
  rotate_left
  · exact absurd (hck'.symm.trans hck) hn
  obtain ⟨hclosed, hv0, hv16, hol, hbad⟩ := closedF_ok hg
  have hgood := good_of hv0 hbad
  have hln : low.toNat < vars.toNat + 1 := by omega
  have hhn : high.toNat < vars.toNat + 1 := by omega
  have hfrom := from_ct vars (vars.toNat + 1) (by omega) (by omega) os hgood hol low.toNat hln ao co w1 (ho.kp hk1 hk1.size)
  rw [show ((low.toNat : Nat) : Int) = low by omega] at hfrom
  obtain ⟨d, hd⟩ := fromF_ends (by omega) hgood hol hclosed hln
  refine ev_call hfrom ?_
  rintro e w2 ⟨hk2, hpost⟩
  rw [hd] at hpost
  obtain ⟨b, rfl, hB, hl, hb⟩ := hpost
  have hgr : gapR vars os low high = if gt d high.toNat = non then (0, false) else (gt d high.toNat, true) := by
    unfold gapR
    rw [if_neg (by omega), hd]
  have hcell : Cl w2.heap b (0 + high.toNat * 1) (.int .i64 (gt d high.toNat)) := RowI.cl hB (by omega)
  refine ix high.toNat (by omega) (by omega) ?_
  refine ld hcell.cell ?_
  refine br_dec (fun c6 => ?_) (fun c6 => ?_)
  · have c6 : gt d high.toNat = non := c6
    exact ⟨by rw [hgr, if_pos c6]; rfl, hk1.tr hk2⟩
  refine ix high.toNat (by omega) (by omega) ?_
  refine ld hcell.cell ?_
  have c6 : ¬ gt d high.toNat = non := c6
  exact ⟨by rw [hgr, if_neg c6]; rfl, hk1.tr hk2⟩

theorem meets_ct (vals : List Int) (os : List Order) (av ao : Option Addr) (cv co : Nat) (w : World) (hv : Ints w.heap.size w.heap av vals) (ho : Orders w.heap.size w.heap ao os) (hvl : (vals.length : Int) ≤ 9223372036854775807) (hol : (os.length : Int) ≤ 9223372036854775807) :
    CallOk Try.prog 23 ∧ Calls Try.prog 23 #[.slice av vals.length cv, .slice ao os.length co] w (fun e w' => e = .returned (.bool (meetsF vals os)) ∧ Kp [] w w') := by
  refine ⟨⟨_, Try.func23, rfl, by decide⟩, ?_⟩
  refine calls_of (args := [_, _]) 37 [.tmp 4] τok Try.func23 rfl rfl rfl (Nat.le_of_ble_eq_true rfl) ?_
  refine loop τok (σ := Nat) (fun k => [(0, .slice av vals.length cv), (1, .slice ao os.length co), (9, .slice av vals.length cv), (10, .int .i64 vals.length), (11, .int .i64 k)])
    (fun k w' => k ≤ vals.length ∧ meetsF vals os = (((vals.drop k).all fun x => decide (0 ≤ x)) && os.all (ordOk vals)) ∧ Kp [] w w') (fun k => vals.length - k) 0 ⟨rfl, rfl, rfl, rfl, rfl, trivial⟩ ⟨Nat.zero_le _, rfl, Kp.refl _ _⟩ ?_
  rintro k w1 ⟨hk, hr, hkp⟩
  refine br_dec (fun h5 => ?_) (fun h5 => ?_)
  · have hlt : k < vals.length := by omega
    rcases hv.1 with h0 | ⟨b, o, rfl, hb, hc⟩
    · omega
    obtain ⟨x, hx⟩ : ∃ x, vals.getD k 0 = x := ⟨_, rfl⟩
    have hx' : vals.getD k default = x := hx
    have hc0 : Cl w1.heap b (o + k * 1 + 0) (.int .i64 x) := hx ▸ (hc k 0 hlt (by omega)).kp hkp (by simp)
    rw [drop_cons vals k hlt, hx'] at hr
    refine ix k rfl hlt ?_
    refine ld hc0.cell ?_
    refine br_dec (fun c1 => ?_) (fun c1 => ?_)
    · refine ⟨?_, hkp⟩
      rw [hr, List.all_cons, decide_eq_false (by omega)]
      rfl
    · refine int64 (by omega) (by omega) ?_
      refine ⟨k + 1, by omega, rfl, ⟨rfl, rfl, rfl, rfl, rfl, trivial⟩, hlt, ?_, hkp⟩
      rw [hr, List.all_cons, decide_eq_true (by omega), Bool.true_and]
  rw [List.drop_eq_nil_of_le (by omega), List.all_nil, Bool.true_and] at hr
  refine loop τok (σ := Nat) (fun k => [(0, .slice av vals.length cv), (18, .slice ao os.length co), (19, .int .i64 os.length), (20, .int .i64 k)])
    (fun k w' => k ≤ os.length ∧ meetsF vals os = (os.drop k).all (ordOk vals) ∧ Kp [] w w') (fun k => os.length - k) 0 ⟨rfl, rfl, rfl, rfl, trivial⟩ ⟨Nat.zero_le _, hr, hkp⟩ ?_
  clear hr hkp
  rintro k w1 ⟨hk, hr, hkp⟩
  refine br_dec (fun h5 => ?_) (fun h5 => ?_)
  · have hlt : k < os.length := by omega
    obtain ⟨x, hx⟩ : ∃ x, x = os.getD k default := ⟨_, rfl⟩
    have hxm : x ∈ os := hx ▸ getD_mem os k hlt
    obtain ⟨xl, xa, xh⟩ := ho.2 x hxm
    rw [drop_cons os k hlt, ← hx, List.all_cons] at hr
    rcases ho.1 with h0 | ⟨b, o, rfl, hb, hc⟩
    · omega
    have hc0 := (hc k 0 hlt (by omega)).kp hkp (by simp)
    have hc1 := (hc k 1 hlt (by omega)).kp hkp (by simp)
    have hc2 := (hc k 2 hlt (by omega)).kp hkp (by simp)
    simp only [if_true, if_false, Nat.one_ne_zero, Nat.reduceEqDiff, ← hx] at hc0 hc1 hc2
    refine ix k rfl hlt ?_
    refine ldN [.int .i64 x.low, .int .i64 x.add, .int .i64 x.high] rfl (at3 hc0 hc1 hc2) ?_
    refine new fun b2 w2 hb2 hB2 hs2 hk2 => ?_
    refine stN hB2 rfl (by simp [Value.oneCell']) fun w3 hB3 hs3 hk3 => ?_
    have hkp3 := hkp.tr (hk2.newSt hb2 hk3)
    refine drawQ τok (fun w' => Kp [] w3 w') (by kernel_rfl) ((Kp.refl [] w3).dr _) ?_
    refine ldK (hB3.cl rfl) ?_
    refine callK (fun w' hk' => of_ct vals av cv x.low w' _ (hv.kp (hkp3.tr hk') (hkp3.tr hk').size) xl) ?_
    refine ldK (hB3.cl rfl) ?_
    obtain ⟨n, hn⟩ : ∃ n, wr (ofF vals x.low + x.add) = n := ⟨_, rfl⟩
    refine intv n hn ?_
    refine ldK (hB3.cl rfl) ?_
    refine callK (fun w' hk' => of_ct vals av cv x.high w' _ (hv.kp (hkp3.tr hk') (hkp3.tr hk').size) xh) ?_
    intro w4 hk4
    have hkp4 := hkp3.tr hk4
    refine br_dec (fun c1 => ?_) (fun c1 => ?_)
    · refine ⟨?_, hkp4⟩
      rw [hr, show ordOk vals x = false from decide_eq_false (by rw [hn]; exact Int.not_le.2 c1)]
      rfl
    · refine int64 (by omega) (by omega) ?_
      refine ⟨k + 1, by omega, rfl, ⟨rfl, rfl, rfl, rfl, trivial⟩, hlt, ?_, hkp4⟩
      rw [hr, show ordOk vals x = true from decide_eq_true (by rw [hn]; exact Int.not_lt.1 c1), Bool.true_and]
  · refine ⟨?_, hkp⟩
    rw [hr, List.drop_eq_nil_of_le (by omega)]
    rfl
end Go.Proofs.Ytbgiljognlbkhaa
