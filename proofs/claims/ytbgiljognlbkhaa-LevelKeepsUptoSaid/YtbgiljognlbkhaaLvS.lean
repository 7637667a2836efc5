/-
  Levels: the law's 'sound', and LevelSound.
-/
import Derived.Test.YtbgiljognlbkhaaLvV
set_option linter.unusedSimpArgs false
set_option linter.unusedVariables false
namespace Go.Proofs.Ytbgiljognlbkhaa
open Go.Wx Lv

def small (x : Int) : Bool := decide (0 ≤ x) && decide (x ≤ 1000000)
def soundF (x : Ord5) : Bool := x.vals.all small && (decide (x.list.length ≤ 64) && (decide (x.vals.length ≤ 16) && (decide (checkR x.vars x.list = 0) && meetsF x.vals x.list)))

theorem sound_ct (x : Ord5) (ao av : Option Addr) (co cv : Nat) (w : World) (ho : Orders w.heap.size w.heap ao x.list) (hv : Ints w.heap.size w.heap av x.vals) (hvl : (x.vals.length : Int) ≤ 9223372036854775807) :
    CallOk Try.prog 16 ∧ Calls Try.prog 16 #[.agg #[.int .i64 x.vars, .slice ao x.list.length co, .slice av x.vals.length cv, .int .i64 x.low, .int .i64 x.high]] w (fun e w' => e = .returned (.bool (soundF x)) ∧ Kp [] w w') := by
  refine ⟨⟨_, Try.func16, rfl, by decide⟩, ?_⟩
  refine calls_of (args := [_]) 50 [.tmp 2] τok Try.func16 rfl rfl rfl (Nat.le_of_ble_eq_true rfl) ?_
  refine new fun b1 w1 hb1 hB1 hs1 hk1 => ?_
  have hc0 : Cl w1.heap b1 0 (.int .i64 x.vars) := hB1.cl rfl
  have hc1 : Cl w1.heap b1 1 (.slice ao x.list.length co) := hB1.cl rfl
  have hc2 : Cl w1.heap b1 2 (.slice av x.vals.length cv) := hB1.cl rfl
  refine loop τok (σ := Nat) (fun k => [(1, .pointer (some ⟨b1, 0, none⟩)), (3, .int .i64 k)])
    (fun k w' => k ≤ x.vals.length ∧ soundF x = ((x.vals.drop k).all small && (decide (x.list.length ≤ 64) && (decide (x.vals.length ≤ 16) && (decide (checkR x.vars x.list = 0) && meetsF x.vals x.list)))) ∧ Kp [] w1 w') (fun k => x.vals.length - k) 0 ⟨rfl, rfl, trivial⟩ ⟨Nat.zero_le _, rfl, Kp.refl _ _⟩ ?_
  rintro k w2 ⟨hk, hr, hkp⟩
  have hkw := hk1.tr hkp
  refine ld (hc2.kp hkp (by simp)).cell ?_
  refine br_dec (fun h5 => ?_) (fun h5 => ?_)
  · have hlt : k < x.vals.length := by omega
    rcases hv.1 with h0 | ⟨b, o, rfl, hb, hc⟩
    · omega
    obtain ⟨y, hy⟩ : ∃ y, x.vals.getD k 0 = y := ⟨_, rfl⟩
    have hy' : x.vals.getD k default = y := hy
    have hd : Cl w2.heap b (o + k * 1 + 0) (.int .i64 y) := hy ▸ (hc k 0 hlt (by omega)).kp hkw (by simp)
    rw [drop_cons x.vals k hlt, hy', List.all_cons] at hr
    refine ld (hc2.kp hkp (by simp)).cell ?_
    refine ix k rfl hlt ?_
    refine ld hd.cell ?_
    refine br_dec (fun c1 => ?_) (fun c1 => ?_)
    · refine ⟨?_, hkw⟩
      rw [hr, show small y = false by simp [small]; omega]
      rfl
    refine ld (hc2.kp hkp (by simp)).cell ?_
    refine ix k rfl hlt ?_
    refine ld hd.cell ?_
    refine br_dec (fun c2 => ?_) (fun c2 => ?_)
    · refine ⟨?_, hkw⟩
      rw [hr, show small y = false by simp [small]; omega]
      rfl
    refine int64 (by omega) (by omega) ?_
    refine ⟨k + 1, by omega, rfl, ⟨rfl, rfl, trivial⟩, hlt, ?_, hkp⟩
    rw [hr, show small y = true by simp [small]; omega, Bool.true_and]
  rw [List.drop_eq_nil_of_le (by omega), List.all_nil, Bool.true_and] at hr
  refine ld (hc1.kp hkp (by simp)).cell ?_
  refine br_dec (fun c1 => ?_) (fun c1 => ?_)
  · rw [decide_eq_true (show x.list.length ≤ 64 by omega), Bool.true_and] at hr
    refine ld (hc2.kp hkp (by simp)).cell ?_
    refine br_dec (fun c2 => ?_) (fun c2 => ?_)
    · rw [decide_eq_true (show x.vals.length ≤ 16 by omega), Bool.true_and] at hr
      refine ld (hc0.kp hkp (by simp)).cell ?_
      refine ld (hc1.kp hkp (by simp)).cell ?_
      refine ev_call (checkR_ct x.vars x.list ao co w2 (ho.kp hkw hkw.size)) ?_
      rintro e w3 ⟨rfl, hk3⟩
      have hkp3 := hkp.tr hk3
      have hkw3 := hkw.tr hk3
      refine br_dec (fun c3 => ?_) (fun c3 => ?_)
      · rw [decide_eq_true c3, Bool.true_and] at hr
        refine ld (hc2.kp hkp3 (by simp)).cell ?_
        refine ld (hc1.kp hkp3 (by simp)).cell ?_
        refine ev_call (meetsR_ct x.vals x.list av ao cv co w3 (hv.kp hkw3 hkw3.size) (ho.kp hkw3 hkw3.size) (by omega) (by omega)) ?_
        rintro e w4 ⟨rfl, hk4⟩
        rw [hr]
        exact ⟨rfl, hkw3.tr hk4⟩
      · refine ⟨?_, hkw3⟩
        rw [hr, decide_eq_false c3]
        rfl
    · refine ⟨?_, hkw⟩
      rw [hr, decide_eq_false (show ¬ x.vals.length ≤ 16 by omega)]
      rfl
  · refine ⟨?_, hkw⟩
    rw [hr, decide_eq_false (show ¬ x.list.length ≤ 64 by omega)]
    rfl

/-! ### the plain law -/
structure Meet (vals : List Int) (os : List Order) : Prop where
  nn : ∀ v, 0 ≤ ofF vals v ∧ ofF vals v ≤ 1000000
  ok : ∀ o ∈ os, ofF vals o.low + o.add ≤ ofF vals o.high

theorem ofF_mem {vals : List Int} {v : Int} : ofF vals v = 0 ∨ ofF vals v ∈ vals := by
  unfold ofF
  split
  · exact .inl rfl
  · right
    have : (v - 1).toNat < vals.length := by omega
    rw [List.getD_eq_getElem?_getD, List.getElem?_eq_getElem this]
    exact List.getElem_mem _

theorem meet_of {x : Ord5} (h : soundF x = true) : ∃ g, closedF x.vars x.list = .ok g ∧ Meet x.vals x.list := by
  simp only [soundF, Bool.and_eq_true, decide_eq_true_eq, List.all_eq_true] at h
  obtain ⟨h1, h2, h3, h4, h5⟩ := h
  have hc := check_eq x.vars x.list
  rw [h4] at hc
  obtain ⟨g, hg⟩ : ∃ g, closedF x.vars x.list = .ok g := by
    cases hc' : closedF x.vars x.list with
    | ok g => exact ⟨g, rfl⟩
    | error n =>
      rw [hc'] at hc
      rcases closedF_err hc' with ⟨_, h⟩ | ⟨_, _, h⟩ | ⟨_, _, _, h⟩ | ⟨_, _, _, h, _⟩ <;> simp only at hc <;> omega
  refine ⟨g, hg, ?_⟩
  obtain ⟨hclosed, hv0, hv16, hol, hbad⟩ := closedF_ok hg
  have hgood := good_of hv0 hbad
  have hnn : ∀ v, 0 ≤ ofF x.vals v ∧ ofF x.vals v ≤ 1000000 := fun v => by
    rcases @ofF_mem x.vals v with h | h
    · omega
    · have := h1 _ h
      simpa [small] using this
  refine ⟨hnn, fun o ho => ?_⟩
  simp only [meetsF, Bool.and_eq_true, List.all_eq_true] at h5
  have h6 := of_decide_eq_true (h5.2 o ho)
  obtain ⟨_, _, ha, hb⟩ := hgood o ho
  have hl := hnn o.low
  rwa [wr_in (by omega)] at h6

theorem walk_meet {vals : List Int} {os : List Order} (h : Meet vals os) {n : Nat} {x y v : Int} (hw : Walk n os x y v) : ofF vals x + v ≤ ofF vals y := by
  induction hw with
  | nil => omega
  | snoc hw e ih =>
    cases e with
    | zero _ hy =>
      have := (h.nn y).1
      have h0 : ofF vals 0 = 0 := by simp [ofF]
      have := h.nn
      rename_i z _ _
      have := (h.nn z).1
      omega
    | self => omega
    | ord o ho =>
      have := h.ok o ho
      omega

theorem valGo_spec {vals : List Int} : ∀ (l : List Atom) (i : Nat) (m : Int), (∀ x ∈ l, wr (ofF vals x.var + x.add) = ofF vals x.var + x.add) →
    (∀ x ∈ l, ofF vals x.var + x.add ≤ valGo vals l i m) ∧ (0 < i → m ≤ valGo vals l i m) ∧ ((0 < i ∨ l = []) ∧ valGo vals l i m = m ∨ ∃ x ∈ l, valGo vals l i m = ofF vals x.var + x.add)
  | [], i, m, _ => ⟨by simp, fun _ => Int.le_refl _, .inl ⟨.inr rfl, rfl⟩⟩
  | x :: l, i, m, h => by
    have hx := h x (by simp)
    obtain ⟨k1, k2, k3⟩ := valGo_spec l (i + 1) (if i = 0 ∨ m < wr (ofF vals x.var + x.add) then wr (ofF vals x.var + x.add) else m) (fun y hy => h y (by simp [hy]))
    have k2 := k2 (by omega)
    simp only [valGo]
    rw [hx] at k1 k2 k3 ⊢
    refine ⟨fun y hy => ?_, fun hi => ?_, ?_⟩
    · rcases List.mem_cons.1 hy with rfl | hy
      · refine Int.le_trans ?_ k2
        split
        · exact Int.le_refl _
        · omega
      · exact k1 y hy
    · refine Int.le_trans ?_ k2
      split <;> omega
    · rcases k3 with ⟨_, k3⟩ | ⟨y, hy, k3⟩
      · rw [k3]
        split
        · exact .inr ⟨x, by simp, rfl⟩
        · exact .inl ⟨.inl (by omega), rfl⟩
      · exact .inr ⟨y, by simp [hy], k3⟩

theorem under_value {vars : Int} {os : List Order} {vals : List Int} {a b : List Atom} (hm : Meet vals os) (h : underF vars os a b = true) : valueF a vals ≤ valueF b vals := by
  unfold underF at h
  split at h
  · cases h
  rename_i g hg
  obtain ⟨hclosed, _⟩ := closedF_ok hg
  simp only [Bool.and_eq_true, List.all_eq_true, List.any_eq_true] at h
  obtain ⟨⟨ha, hb⟩, hab⟩ := h
  obtain ⟨_, hadda⟩ := right_adds ha
  obtain ⟨_, haddb⟩ := right_adds hb
  have ea : ∀ x ∈ a, wr (ofF vals x.var + x.add) = ofF vals x.var + x.add := fun x hx => wr_in (by have := hm.nn x.var; have := hadda x hx; omega)
  have eb : ∀ x ∈ b, wr (ofF vals x.var + x.add) = ofF vals x.var + x.add := fun x hx => wr_in (by have := hm.nn x.var; have := haddb x hx; omega)
  obtain ⟨_, _, h3⟩ := valGo_spec a 0 0 ea
  obtain ⟨h1, _, _⟩ := valGo_spec b 0 0 eb
  rcases h3 with ⟨h3, _⟩ | ⟨x, hx, h3⟩
  · rcases h3 with h3 | rfl
    · omega
    · simp [rightF] at ha
  · obtain ⟨y, hy, hxy⟩ := hab x hx
    unfold okAtom at hxy
    split at hxy
    · cases hxy
    rename_i d hd
    have hxy := of_decide_eq_true hxy
    have hw := walk_meet hm (hclosed.walk _ _ _ hd).2.2
    have := h1 y hy
    show valGo vals a 0 0 ≤ valGo vals b 0 0
    omega

theorem gap_bd {vars : Int} {os : List Order} {g : G} {x y v : Int} (hg : closedF vars os = .ok g) (h : g x y = some v) : -900000000 ≤ v ∧ v ≤ 900000000 := by
  obtain ⟨hclosed, hv0, hv16, hol, hbad⟩ := closedF_ok hg
  have hgood := good_of hv0 hbad
  obtain ⟨hx, hy, _⟩ := hclosed.walk _ _ _ h
  unfold Rg at hx hy
  have hxn : x.toNat < vars.toNat + 1 := by omega
  have hyn : y.toNat < vars.toNat + 1 := by omega
  obtain ⟨d, hd⟩ := fromF_ends (by omega) hgood hol hclosed hxn
  have ex : ((x.toNat : Nat) : Int) = x := by omega
  have ey : ((y.toNat : Nat) : Int) = y := by omega
  have hval := (fromF_val (by omega) hgood hol hclosed hxn hd).2 y.toNat hyn
  rw [ex, ey, h] at hval
  clear ex ey
  have hb : gt d y.toNat = non ∨ (-900000000 ≤ gt d y.toNat ∧ gt d y.toNat ≤ 900000000) := by
    clear hval
    obtain ⟨hi0, h0⟩ := ini_inv os hxn
    obtain ⟨hi, _⟩ := fromGo_spec hgood hol (vars.toNat + 1 + 1) 0 _ d hi0 (by omega) hd
    exact hi.bd y.toNat hyn
  rcases hval with ⟨hval, _⟩ | ⟨p, hp, hp2, hp3⟩
  · cases hval
  · have : v = p := by simpa using hp
    subst this
    rcases hb with hb | hb
    · exact absurd (hp2.symm.trans hb) hp3
    · omega

theorem levelSound_ct (x : Ord5) (la lb : List Atom) (ao av aa ab : Option Addr) (co cv ca cb : Nat) (w : World) (ho : Orders w.heap.size w.heap ao x.list) (hv : Ints w.heap.size w.heap av x.vals) (hl : I64 x.low) (hh : I64 x.high)
    (hvl : (x.vals.length : Int) ≤ 9223372036854775807) (ha : Atoms w.heap.size w.heap aa la) (hb : Atoms w.heap.size w.heap ab lb) :
    Calls Try.prog 5 #[.agg #[.int .i64 x.vars, .slice ao x.list.length co, .slice av x.vals.length cv, .int .i64 x.low, .int .i64 x.high], .slice aa la.length ca, .slice ab lb.length cb] w (fun e w' => e = .returned (.bool true) ∧ Kp [] w w') := by
  refine calls_of (args := [_, _, _]) 61 [.tmp 6] τok Try.func5 rfl rfl rfl (Nat.le_of_ble_eq_true rfl) ?_
  refine new fun b1 w1 hb1 hB1 hs1 hk1 => ?_
  refine ev_call (awake_ct w1) ?_
  rintro e w2 ⟨rfl, hk2⟩
  have hk12 := hk1.tr hk2
  have hB2 : Bk w2.heap b1 [.int .i64 x.vars, .slice ao x.list.length co, .slice av x.vals.length cv, .int .i64 x.low, .int .i64 x.high] 25 := hB1.kp hk2 (by simp)
  refine ldN [.int .i64 x.vars, .slice ao x.list.length co, .slice av x.vals.length cv, .int .i64 x.low, .int .i64 x.high] rfl (fun j v hv => by rw [Nat.zero_add]; exact hB2.cl hv) ?_
  refine ev_call (sound_ct x ao av co cv w2 (ho.kp hk12 hk12.size) (hv.kp hk12 hk12.size) hvl) ?_
  rintro e w3 ⟨rfl, hk3⟩
  have hk13 := hk12.tr hk3
  refine br (fun c1 => ?_) (fun c1 => ?_)
  · exact ⟨rfl, hk13⟩
  have hs : soundF x = true := by simpa using c1
  obtain ⟨g, hg, hm⟩ := meet_of hs
  have hB3 := hB2.kp hk3 (by simp)
  have hc0 : Cl w3.heap b1 0 (.int .i64 x.vars) := hB3.cl rfl
  have hc1 : Cl w3.heap b1 1 (.slice ao x.list.length co) := hB3.cl rfl
  have hc2 : Cl w3.heap b1 2 (.slice av x.vals.length cv) := hB3.cl rfl
  have hc3 : Cl w3.heap b1 3 (.int .i64 x.low) := hB3.cl rfl
  have hc4 : Cl w3.heap b1 4 (.int .i64 x.high) := hB3.cl rfl
  refine drawQ τok (fun w' => Kp [] w3 w') (by kernel_rfl) ((Kp.refl [] w3).dr _) ?_
  refine ldK hc0 ?_
  refine ldK hc1 ?_
  refine callK (v := .bool (underF x.vars x.list la lb)) (fun w' hk' => under_ct x.vars x.list la lb ao aa ab co ca cb w' (ho.kp (hk13.tr hk') (hk13.tr hk').size) (ha.kp (hk13.tr hk') (hk13.tr hk').size) (hb.kp (hk13.tr hk') (hk13.tr hk').size)) ?_
  refine br (fun c2 => ?one) (fun c2 => ?two)
  case' one =>
    have hlen : la.length ≤ 4 ∧ lb.length ≤ 4 := by
      unfold underF at c2
      rw [hg] at c2
      simp only [Bool.and_eq_true] at c2
      exact ⟨(right_adds c2.1.1).1, (right_adds c2.1.2).1⟩
    refine ldK hc2 ?_
    refine callK (fun w' hk' => value_ct la x.vals aa av ca cv w' 0 (ha.kp (hk13.tr hk') (hk13.tr hk').size) (hv.kp (hk13.tr hk') (hk13.tr hk').size) (by omega)) ?_
    refine ldK hc2 ?_
    refine callK (fun w' hk' => value_ct lb x.vals ab av cb cv w' 0 (hb.kp (hk13.tr hk') (hk13.tr hk').size) (hv.kp (hk13.tr hk') (hk13.tr hk').size) (by omega)) ?_
    intro w4 hk4
    refine br_no (Int.not_lt.2 (under_value hm c2)) ?_
  case' two => intro w4 hk4
  all_goals
    have hk14 := hk13.tr hk4
    refine ld (hc0.kp hk4 (by simp)).cell ?_
    refine ld (hc1.kp hk4 (by simp)).cell ?_
    refine ld (hc3.kp hk4 (by simp)).cell ?_
    refine ld (hc4.kp hk4 (by simp)).cell ?_
    have hgap := gap_ct x.vars x.list x.low x.high ao co w4 (ho.kp hk14 hk14.size)
    have hgf : gapF x.vars x.list x.low x.high = ((g x.low x.high).getD 0, (g x.low x.high).isSome) := by unfold gapF; rw [hg]
    rw [hgf] at hgap
    cases hgl : g x.low x.high with
    | none =>
      rw [hgl] at hgap
      refine ev_call hgap ?_
      rintro e w5 ⟨rfl, hk5⟩
      exact ⟨rfl, hk14.tr hk5⟩
    | some d =>
      rw [hgl] at hgap
      refine ev_call hgap ?_
      rintro e w5 ⟨rfl, hk5⟩
      have hk45 := hk4.tr hk5
      have hk15 := hk14.tr hk5
      have hd1 := gap_bd hg hgl
      have hd2 := hm.nn x.low
      have hd3 := walk_meet hm ((closedF_ok hg).1.walk _ _ _ hgl).2.2
      refine drawQ τok (fun w' => Kp [] w5 w') (by kernel_rfl) ((Kp.refl [] w5).dr _) ?_
      refine ldK (hc2.kp hk45 (by simp)) ?_
      refine ldK (hc3.kp hk45 (by simp)) ?_
      refine callK (fun w' hk' => ofR_ct x.vals av cv x.low w' _ (hv.kp (hk15.tr hk') (hk15.tr hk').size) hl) ?_
      refine int64 (by show _ ≤ _ + (some d).getD 0; simp only [Option.getD_some]; omega) (by show _ + (some d).getD 0 ≤ _; simp only [Option.getD_some]; omega) ?_
      refine ldK (hc2.kp hk45 (by simp)) ?_
      refine ldK (hc4.kp hk45 (by simp)) ?_
      refine callK (fun w' hk' => ofR_ct x.vals av cv x.high w' _ (hv.kp (hk15.tr hk') (hk15.tr hk').size) hh) ?_
      intro w6 hk6
      refine ⟨?_, hk15.tr hk6⟩
      simp only [one]
      rw [show decide (ofF x.vals x.low + (some d).getD 0 ≤ ofF x.vals x.high) = true from decide_eq_true hd3]
end Go.Proofs.Ytbgiljognlbkhaa
