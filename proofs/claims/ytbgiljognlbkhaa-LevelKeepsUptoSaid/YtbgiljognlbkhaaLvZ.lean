/-
  Levels: Under of the reference, and that both are one.
-/
import Derived.Test.YtbgiljognlbkhaaLvY
set_option linter.unusedSimpArgs false
set_option linter.unusedVariables false
namespace Go.Proofs.Ytbgiljognlbkhaa
open Go.Wx Lv

theorem underR_ct (vars : Int) (os : List Order) (la lb : List Atom) (ao aa ab : Option Addr) (co ca cb : Nat) (w : World) (ho : Orders w.heap.size w.heap ao os) (ha : Atoms w.heap.size w.heap aa la) (hb : Atoms w.heap.size w.heap ab lb) :
    CallOk Try.prog 13 ∧ Calls Try.prog 13 #[.int .i64 vars, .slice ao os.length co, .slice aa la.length ca, .slice ab lb.length cb] w (fun e w' => e = .returned (.bool (underR vars os la lb)) ∧ Kp [] w w') := by
  refine ⟨⟨_, Try.func13, rfl, by decide⟩, ?_⟩
  refine calls_of (args := [_, _, _, _]) 86 [.tmp 8] τok Try.func13 rfl rfl rfl (Nat.le_of_ble_eq_true rfl) ?_
  refine ev_call (checkR_ct vars os ao co w ho) ?_
  rintro e w1 ⟨rfl, hk1⟩
  refine br_dec (fun h1 => ?_) (fun h1 => ?_)
  · exact ⟨by unfold underR; rw [decide_eq_false h1]; rfl, hk1⟩
  have hck : checkR vars os = 0 := by simpa using h1
  refine ev_call (rightR_ct la aa ca vars w1 (ha.kp hk1 (Nat.le_refl _))) ?_
  rintro e w2 ⟨rfl, hk2⟩
  have hk12 := hk1.tr hk2
  refine br (fun c1 => ?_) (fun c1 => ?_)
  · have c1' : rightF la vars = false := by simpa using c1
    exact ⟨by unfold underR; rw [decide_eq_true hck, c1']; rfl, hk12⟩
  have c1' : rightF la vars = true := by simpa using c1
  refine ev_call (rightR_ct lb ab cb vars w2 (hb.kp hk12 (Nat.le_refl _))) ?_
  rintro e w3 ⟨rfl, hk3⟩
  have hk13 := hk12.tr hk3
  refine br (fun c2 => ?_) (fun c2 => ?_)
  · have c2' : rightF lb vars = false := by simpa using c2
    exact ⟨by unfold underR; rw [decide_eq_true hck, c1', c2']; rfl, hk13⟩
  have c2' : rightF lb vars = true := by simpa using c2
  obtain ⟨la4, hadda⟩ := right_adds c1'
  obtain ⟨lb4, haddb⟩ := right_adds c2'
  have hu : underR vars os la lb = la.all fun x => match fromF (vars.toNat + 1) os x.var.toNat with
    | none => false
    | some d => lb.any (okR d x) := by unfold underR; rw [decide_eq_true hck, c1', c2']; rfl
  have hcl := check_eq vars os
  rw [hck] at hcl
  obtain ⟨g, hg⟩ : ∃ g, closedF vars os = .ok g := by
    cases hc : closedF vars os with
    | ok g => exact ⟨g, rfl⟩
    | error n =>
      rw [hc] at hcl
      rcases closedF_err hc with ⟨_, h⟩ | ⟨_, _, h⟩ | ⟨_, _, _, h⟩ | ⟨_, _, _, h, _⟩ <;> simp only at hcl <;> omega
  obtain ⟨hclosed, hv0, hv16, hol, hbad⟩ := closedF_ok hg
  have hgood := good_of hv0 hbad
  obtain ⟨n, hn⟩ : ∃ n, n = vars.toNat + 1 := ⟨_, rfl⟩
  rw [← hn] at hu hclosed hgood
  refine loop τok (σ := Nat) (fun k => [(0, .int .i64 vars), (1, .slice ao os.length co), (2, .slice aa la.length ca), (3, .slice ab lb.length cb), (9, .int .i64 k)])
    (fun k w' => k ≤ la.length ∧ underR vars os la lb = ((la.drop k).all fun x => match fromF n os x.var.toNat with
    | none => false
    | some d => lb.any (okR d x)) ∧ Kp [] w w') (fun k => la.length - k) 0 ⟨rfl, rfl, rfl, rfl, rfl, trivial⟩ ⟨Nat.zero_le _, hu, hk13⟩ ?_
  rintro k w4 ⟨hk, hr, hk4⟩
  refine br_dec (fun h5 => ?_) (fun h5 => ?_)
  · have hlt : k < la.length := by omega
    obtain ⟨x, hx⟩ : ∃ x, x = la.getD k default := ⟨_, rfl⟩
    have hxm : x ∈ la := hx ▸ getD_mem la k hlt
    obtain ⟨xa0, xa1, xv0, xv1⟩ := hadda x hxm
    rw [drop_cons la k hlt, ← hx] at hr
    rcases ha.1 with h0 | ⟨b, o, rfl, hb', hcc⟩
    · omega
    have hc0 := (hcc k 0 hlt (by omega)).kp hk4 (by simp)
    simp only [if_true, ← hx] at hc0
    refine ix k rfl hlt ?_
    refine ld hc0.cell ?_
    have hxn : x.var.toNat < n := by omega
    obtain ⟨d, hd⟩ := fromF_ends (by omega) hgood hol hclosed hxn
    have hfc := from_ct vars n (by omega) (by omega) os hgood hol x.var.toNat hxn ao co w4 (ho.kp hk4 hk4.size)
    rw [show ((x.var.toNat : Nat) : Int) = x.var by omega] at hfc
    refine ev_call hfc ?_
    rintro e w5 ⟨hk5, hpost⟩
    rw [hd] at hpost
    obtain ⟨bd, rfl, hB5, hdl, hbd⟩ := hpost
    have hk45 := hk4.tr hk5
    -- the other level's atoms
    refine loop τok (σ := Nat) (fun j => [(0, .int .i64 vars), (1, .slice ao os.length co), (2, .slice (some ⟨b, o, none⟩) la.length ca), (3, .slice ab lb.length cb), (9, .int .i64 k), (10, .slice (some ⟨bd, 0, none⟩) n n), (12, .bool ((lb.take j).any (okR d x))), (13, .int .i64 j)])
      (fun j w' => j ≤ lb.length ∧ Kp [] w5 w') (fun j => lb.length - j) 0 ⟨rfl, rfl, rfl, rfl, rfl, rfl, by simp; rfl, rfl, trivial⟩ ⟨Nat.zero_le _, Kp.refl _ _⟩ ?_
    rintro j w6 ⟨hj, hk6⟩
    refine br_dec (fun h6 => ?_) (fun h6 => ?_)
    · have hjl : j < lb.length := by omega
      obtain ⟨y, hy⟩ : ∃ y, y = lb.getD j default := ⟨_, rfl⟩
      have hym : y ∈ lb := hy ▸ getD_mem lb j hjl
      obtain ⟨ya0, ya1, yv0, yv1⟩ := haddb y hym
      have hsn := any_snoc (okR d x) lb j hjl
      rw [← hy] at hsn
      rcases hb.1 with h0 | ⟨b2, o2, rfl, hb2', hcc2⟩
      · omega
      have hk46 := hk45.tr hk6
      have hd0 := (hcc2 j 0 hjl (by omega)).kp hk46 (by simp)
      have hd1 := (hcc2 j 1 hjl (by omega)).kp hk46 (by simp)
      have he1 := (hcc k 1 hlt (by omega)).kp hk46 (by simp)
      simp only [if_true, if_false, Nat.one_ne_zero, ← hy, ← hx] at hd0 hd1 he1
      have hB6 : RowI w6.heap bd d 3 := hB5.kp hk6 (by simp)
      have hyn : y.var.toNat < n := by omega
      refine drawR τok (by kernel_rfl) ?_
      refine ix j rfl hjl ?_
      refine ldR hd0 ?_
      refine ix y.var.toNat (by omega) hyn ?_
      refine ldR (hB6.cl (by omega)) ?_
      refine br_dec (fun c3 => ?_) (fun c3 => ?_)
      · refine ix k rfl hlt ?_
        refine ldR he1 ?_
        refine ix j rfl hjl ?_
        refine ldR hd0 ?_
        refine ix y.var.toNat (by omega) hyn ?_
        refine ldR (hB6.cl (by omega)) ?_
        refine ix j rfl hjl ?_
        refine ldR hd1 ?_
        have hbd : -900000000 ≤ d.getD y.var.toNat 0 ∧ d.getD y.var.toNat 0 ≤ 900000000 := by
          obtain ⟨hi0, h0⟩ := ini_inv os hxn
          obtain ⟨hi, _⟩ := fromGo_spec hgood hol (n + 1) 0 _ d hi0 (by omega) hd
          exact (hi.bd y.var.toNat hyn).resolve_left c3
        refine int64 (by omega) (by omega) ?_
        refine fun m => ?_
        refine br_dec (fun c4 => ?_) (fun c4 => ?_)
        · refine int64 (by omega) (by omega) ?_
          refine ⟨j + 1, by omega, rfl, ⟨rfl, rfl, rfl, rfl, rfl, rfl, ?_, rfl, trivial⟩, hjl, hk6.dr m⟩
          rw [hsn]
          have : okR d x y = true := by unfold okR; exact decide_eq_true ⟨c3, c4⟩
          rw [this, Bool.or_true]; rfl
        · refine int64 (by omega) (by omega) ?_
          refine ⟨j + 1, by omega, rfl, ⟨rfl, rfl, rfl, rfl, rfl, rfl, ?_, rfl, trivial⟩, hjl, hk6.dr m⟩
          rw [hsn]
          have : okR d x y = false := by unfold okR; exact decide_eq_false (fun h => c4 h.2)
          rw [this, Bool.or_false]; rfl
      · refine fun m => ?_
        refine int64 (by omega) (by omega) ?_
        refine ⟨j + 1, by omega, rfl, ⟨rfl, rfl, rfl, rfl, rfl, rfl, ?_, rfl, trivial⟩, hjl, hk6.dr m⟩
        rw [hsn]
        have : okR d x y = false := by unfold okR; exact decide_eq_false (fun h => c3 h.1)
        rw [this, Bool.or_false]; rfl
    · obtain rfl : j = lb.length := by omega
      rw [List.take_length]
      refine br (fun c => ?_) (fun c => ?_)
      · have c' : lb.any (okR d x) = false := by simpa using c
        refine ⟨?_, hk45.tr hk6⟩
        rw [hr]
        simp only [List.all_cons, hd, c']
        rfl
      · have c' : lb.any (okR d x) = true := by simpa using c
        refine int64 (by omega) (by omega) ?_
        refine ⟨k + 1, by omega, rfl, ⟨rfl, rfl, rfl, rfl, rfl, trivial⟩, hlt, ?_, hk45.tr hk6⟩
        rw [hr]
        simp only [List.all_cons, hd, c', Bool.true_and]
  · refine ⟨?_, hk4⟩
    rw [hr, List.drop_eq_nil_of_le (by omega)]
    rfl

/-- BOTH ARE ONE. -/
theorem under_eq (vars : Int) (os : List Order) (a b : List Atom) : underF vars os a b = underR vars os a b := by
  unfold underF underR
  rw [check_eq]
  cases hc : closedF vars os with
  | error n =>
    have hn : n ≠ 0 := by
      rcases closedF_err hc with ⟨_, h⟩ | ⟨_, _, h⟩ | ⟨_, _, _, h⟩ | ⟨_, _, _, h, _⟩ <;> omega
    simp [hn]
  | ok g =>
    obtain ⟨hclosed, hv0, hv16, hol, hbad⟩ := closedF_ok hc
    have hgood := good_of hv0 hbad
    simp only [decide_true, Bool.true_and]
    cases ha : rightF a vars with
    | false => rfl
    | true =>
      cases hb : rightF b vars with
      | false => rfl
      | true =>
        simp only [Bool.true_and]
        obtain ⟨_, hadda⟩ := right_adds ha
        obtain ⟨_, haddb⟩ := right_adds hb
        rw [Bool.eq_iff_iff, List.all_eq_true, List.all_eq_true]
        refine forall_congr' fun x => forall_congr' fun hx => ?_
        obtain ⟨xa0, xa1, xv0, xv1⟩ := hadda x hx
        have hxn : x.var.toNat < vars.toNat + 1 := by omega
        obtain ⟨d, hd⟩ := fromF_ends (by omega) hgood hol hclosed hxn
        obtain ⟨hdl, hdv⟩ := fromF_val (by omega) hgood hol hclosed hxn hd
        rw [hd]
        simp only
        rw [List.any_eq_true, List.any_eq_true]
        refine exists_congr fun y => and_congr_right fun hy => ?_
        obtain ⟨ya0, ya1, yv0, yv1⟩ := haddb y hy
        have e1 : ((x.var.toNat : Nat) : Int) = x.var := by omega
        have e2 : ((y.var.toNat : Nat) : Int) = y.var := by omega
        have e3 : y.var.toNat < vars.toNat + 1 := by omega
        have h := hdv y.var.toNat e3
        rw [e1, e2] at h
        unfold okAtom okR
        rcases h with ⟨h1, h2⟩ | ⟨p, h1, h2, h3⟩
        · rw [h1]; simp [h2]
        · rw [h1]; simp only [decide_eq_true_eq, h2, ne_eq, h3, not_false_eq_true, true_and]; omega

def gapR (vars : Int) (os : List Order) (low high : Int) : Int × Bool :=
  if checkR vars os ≠ 0 ∨ low < 0 ∨ vars < low ∨ high < 0 ∨ vars < high then (0, false)
  else match fromF (vars.toNat + 1) os low.toNat with
    | none => (0, false)
    | some d => if gt d high.toNat = non then (0, false) else (gt d high.toNat, true)

theorem gap_eq (vars : Int) (os : List Order) (low high : Int) : gapF vars os low high = gapR vars os low high := by
  unfold gapF gapR
  rw [check_eq]
  cases hc : closedF vars os with
  | error n =>
    have hn : n ≠ 0 := by
      rcases closedF_err hc with ⟨_, h⟩ | ⟨_, _, h⟩ | ⟨_, _, _, h⟩ | ⟨_, _, _, h, _⟩ <;> omega
    simp [hn]
  | ok g =>
    obtain ⟨hclosed, hv0, hv16, hol, hbad⟩ := closedF_ok hc
    have hgood := good_of hv0 hbad
    by_cases hr : low < 0 ∨ vars < low ∨ high < 0 ∨ vars < high
    · have : g low high = none := by
        cases hg : g low high with
        | none => rfl
        | some v =>
          obtain ⟨h1, h2, _⟩ := hclosed.walk _ _ _ hg
          unfold Rg at h1 h2
          omega
      rw [if_pos (.inr hr)]
      simp only [this]
      rfl
    · rw [if_neg (by simp only [ne_eq, not_true_eq_false, false_or]; exact hr)]
      have hxn : low.toNat < vars.toNat + 1 := by omega
      have e1 : ((low.toNat : Nat) : Int) = low := by omega
      have e2 : ((high.toNat : Nat) : Int) = high := by omega
      have e3 : high.toNat < vars.toNat + 1 := by omega
      obtain ⟨d, hd⟩ := fromF_ends (by omega) hgood hol hclosed hxn
      obtain ⟨hdl, hdv⟩ := fromF_val (by omega) hgood hol hclosed hxn hd
      rw [hd]
      have h := hdv high.toNat e3
      rw [e1, e2] at h
      simp only
      rcases h with ⟨h1, h2⟩ | ⟨p, h1, h2, h3⟩
      · rw [if_pos h2]; simp only [h1]; rfl
      · rw [if_neg (by rw [h2]; exact h3), h2]; simp only [h1]; rfl
end Go.Proofs.Ytbgiljognlbkhaa
