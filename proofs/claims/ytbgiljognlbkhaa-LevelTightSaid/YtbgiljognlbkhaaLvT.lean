/-
  Levels: LevelTight.
-/
import Derived.Test.YtbgiljognlbkhaaLvQ
import Derived.Test.YtbgiljognlbkhaaWxD
set_option linter.unusedSimpArgs false
set_option linter.unusedVariables false
namespace Go.Proofs.Ytbgiljognlbkhaa
open Go.Wx Lv

/-! ### the plain law: one order more -/
theorem tight_walk {n : Nat} {os : List Order} {g : G} {o : Order} (hc : Closed n os g) (ho1 : Rg n o.low) (ho2 : Rg n o.high) (hgap : ∀ d, g o.high o.low = some d → d + o.add ≤ 0)
    {x y p : Int} (h : Walk n (os ++ [o]) x y p) : (∃ v, g x y = some v ∧ p ≤ v) ∨ ∃ a b, g x o.low = some a ∧ g o.high y = some b ∧ p ≤ a + o.add + b := by
  have ext : ∀ {x y z v q : Int}, g x y = some v → Lv.Edge n os y z q → ∃ u, g x z = some u ∧ v + q ≤ u := fun hv e =>
    hc.most _ _ _ (Walk.snoc (hc.walk _ _ _ hv).2.2 e)
  induction h with
  | nil hx => exact .inl ⟨0, hc.zero _ hx, Int.le_refl _⟩
  | @snoc y z p q hw e ih =>
    have old : Lv.Edge n os y z q → (∃ v, g x z = some v ∧ p + q ≤ v) ∨ ∃ a b, g x o.low = some a ∧ g o.high z = some b ∧ p + q ≤ a + o.add + b := fun e' => by
      rcases ih with ⟨v, h1, h2⟩ | ⟨a, b, h1, h2, h3⟩
      · obtain ⟨u, h4, h5⟩ := ext h1 e'
        exact .inl ⟨u, h4, by omega⟩
      · obtain ⟨u, h4, h5⟩ := ext h2 e'
        exact .inr ⟨a, u, h1, h4, by omega⟩
    cases e with
    | zero _ hy => exact old (.zero _ hy)
    | self _ hy => exact old (.self _ hy)
    | ord o' ho' h1 h2 =>
      rcases List.mem_append.1 ho' with ho' | ho'
      · exact old (.ord o' ho' h1 h2)
      · obtain rfl : o' = o := by simpa using ho'
        have hz := hc.zero o'.high ho2
        rcases ih with ⟨v, h3, h4⟩ | ⟨a, b, h3, h4, h5⟩
        · exact .inr ⟨v, 0, h3, hz, by omega⟩
        · have := hgap b h4
          exact .inr ⟨a, 0, h3, hz, by omega⟩

theorem tight {vars : Int} {os : List Order} {g : G} {o : Order} (hg : closedF vars os = .ok g) (hlen : os.length ≤ 63) (ho1 : Rg (vars.toNat + 1) o.low) (ho2 : Rg (vars.toNat + 1) o.high) (ha : -1000 ≤ o.add ∧ o.add ≤ 1000)
    (hgap : ∀ d, g o.high o.low = some d → d + o.add ≤ 0) : checkF vars (os ++ [o]) = 0 := by
  obtain ⟨hclosed, hv0, hv16, hol, hbad⟩ := closedF_ok hg
  unfold checkF
  cases hc : closedF vars (os ++ [o]) with
  | ok g' => rfl
  | error n =>
    exfalso
    have hnb : (os ++ [o]).any (badOrd vars) = false := by
      rw [List.any_append, hbad]
      unfold Rg at ho1 ho2
      simp [badOrd]
      omega
    rcases closedF_err hc with ⟨h, _⟩ | ⟨_, h, _⟩ | ⟨_, _, h, _⟩ | ⟨_, _, _, _, x, p, hw, hp⟩
    · omega
    · simp at h; omega
    · rw [hnb] at h; cases h
    · have hx : Rg (vars.toNat + 1) x := by
        have : ∀ {x y p}, Walk (vars.toNat + 1) (os ++ [o]) x y p → Rg (vars.toNat + 1) x := fun h => by
          induction h with
          | nil h => exact h
          | snoc _ _ ih => exact ih
        exact this hw
      rcases tight_walk hclosed ho1 ho2 hgap hw with ⟨v, h1, h2⟩ | ⟨a, b, h1, h2, h3⟩
      · rw [hclosed.zero x hx] at h1
        have : v = 0 := by simpa using h1.symm
        omega
      · obtain ⟨d, h4, h5⟩ := hclosed.most _ _ _ ((hclosed.walk _ _ _ h2).2.2.trans (hclosed.walk _ _ _ h1).2.2)
        have := hgap d h4
        omega

theorem rem_run (far : Int) (h0 : 0 ≤ far) (w : World) : (binOp .rem 31 (.int .u16 far) (.int .u16 1001)).run Try.prog w = .ok (.int .u16 (far % 1001)) w := by
  simp [binOp_rem, Op.intDiv, Int.tmod_eq_emod_of_nonneg h0]

theorem cellsO_len : ∀ l : List Order, (cellsO l).length = l.length * 3
  | [] => rfl
  | o :: l => by have := cellsO_len l; simp [cellsO] at this ⊢; omega
theorem cellsO_one : ∀ (l : List Order), ∀ u ∈ cellsO l, u.oneCell' = true := fun l u hu => by
  simp only [cellsO, List.mem_flatMap] at hu
  obtain ⟨o, _, hu⟩ := hu
  simp at hu
  rcases hu with rfl | rfl | rfl <;> rfl
theorem cellsO_append (l m : List Order) : cellsO l ++ cellsO m = cellsO (l ++ m) := by simp [cellsO]

theorem cellsO_get (l : List Order) (k : Nat) (hk : k < l.length * 3) : (cellsO l)[k]? = some (.int .i64 (if k % 3 = 0 then (l.getD (k / 3) default).low else if k % 3 = 1 then (l.getD (k / 3) default).add else (l.getD (k / 3) default).high)) := by
  have := cellsO_at l (k / 3) (k % 3) (by omega) (by omega)
  rwa [show k / 3 * 3 + k % 3 = k by omega] at this

/-- orders, as what an append reads -/
theorem orders_news {h : Array Obj} {N : Nat} {a : Option Addr} {l : List Order} (ho : Orders N h a l) : l.length = 0 ∨ ∃ b o, a = some ⟨b, o, none⟩ ∧ ∀ j u, (cellsO l)[j]? = some u → Cl h b (o + j) u := by
  rcases ho.1 with h0 | ⟨b, o, rfl, _, hc⟩
  · exact .inl h0
  · refine .inr ⟨b, o, rfl, fun j u hu => ?_⟩
    have hj : j < l.length * 3 := by rw [← cellsO_len]; exact (List.getElem?_eq_some_iff.1 hu).1
    rw [cellsO_get l j hj] at hu
    have := hc (j / 3) (j % 3) (by omega) (by omega)
    rw [show o + j / 3 * 3 + j % 3 = o + j by omega] at this
    have hu := Option.some.inj hu
    rw [← hu]
    exact this

/-- .. and back: a row of one's own as orders -/
theorem orders_own {w : World} {base n : Nat} {v : Value} {l : List Order} (h : w.ownsRow base 37 3 v n (cellsO l)) (hi : ∀ x ∈ l, I64 x.low ∧ I64 x.add ∧ I64 x.high) : ∃ a cap, v = .slice a l.length cap ∧ Orders w.heap.size w.heap a l := by
  obtain ⟨a, cap, rfl, hl, hn, hc⟩ := own_cells h
  have hln : n = l.length := by rw [cellsO_len] at hl; omega
  subst hln
  refine ⟨a, cap, rfl, ?_, hi⟩
  rcases hc with h0 | ⟨g, rfl, hb, hg, hc⟩
  · exact .inl h0
  · exact .inr ⟨g, 0, rfl, hg, fun i j hi hj => hc _ _ (by rw [Nat.zero_add]; exact cellsO_at l i j hi hj)⟩

theorem levelTight_ct (x : Ord5) (far : Int) (hfar : 0 ≤ far ∧ far ≤ 65535) (ao av : Option Addr) (co cv : Nat) (w : World) (ho : Orders w.heap.size w.heap ao x.list) (hl : I64 x.low) (hh : I64 x.high) :
    Calls Try.prog 4 #[.agg #[.int .i64 x.vars, .slice ao x.list.length co, .slice av x.vals.length cv, .int .i64 x.low, .int .i64 x.high], .int .u16 far] w (fun e w' => e = .returned (.bool true) ∧ Kp [] w w') := by
  refine calls_of (args := [_, _]) 88 [.tmp 4] τok Try.func4 rfl rfl rfl (Nat.le_of_ble_eq_true rfl) ?_
  refine new fun b1 w1 hb1 hB1 hs1 hk1 => ?_
  refine ev_call (awake_ct w1) ?_
  rintro e w2 ⟨rfl, hk2⟩
  have hk12 := hk1.tr hk2
  have hB2 : Bk w2.heap b1 [.int .i64 x.vars, .slice ao x.list.length co, .slice av x.vals.length cv, .int .i64 x.low, .int .i64 x.high] 25 := hB1.kp hk2 (by simp)
  have hc0 : Cl w2.heap b1 0 (.int .i64 x.vars) := hB2.cl rfl
  have hc1 : Cl w2.heap b1 1 (.slice ao x.list.length co) := hB2.cl rfl
  have hc3 : Cl w2.heap b1 3 (.int .i64 x.low) := hB2.cl rfl
  have hc4 : Cl w2.heap b1 4 (.int .i64 x.high) := hB2.cl rfl
  refine ld hc1.cell ?_
  refine br_dec (fun h1 => ?_) (fun h1 => ?_)
  · exact ⟨rfl, hk12⟩
  refine ld hc0.cell ?_
  refine ld hc1.cell ?_
  refine ev_call (check_ct x.vars x.list ao co w2 (ho.kp hk12 hk12.size)) ?_
  rintro e w3 ⟨rfl, hk3⟩
  have hk13 := hk12.tr hk3
  refine br_dec (fun h2 => ?_) (fun h2 => ?_)
  · exact ⟨rfl, hk13⟩
  refine ld (hc3.kp hk3 (by simp)).cell ?_
  refine br_dec (fun h3 => ?_) (fun h3 => ?_)
  · exact ⟨rfl, hk13⟩
  refine ld (hc3.kp hk3 (by simp)).cell ?_
  refine ld (hc0.kp hk3 (by simp)).cell ?_
  refine br_dec (fun h4 => ?_) (fun h4 => ?_)
  · exact ⟨rfl, hk13⟩
  refine ld (hc4.kp hk3 (by simp)).cell ?_
  refine br_dec (fun h5 => ?_) (fun h5 => ?_)
  · exact ⟨rfl, hk13⟩
  refine ld (hc4.kp hk3 (by simp)).cell ?_
  refine ld (hc0.kp hk3 (by simp)).cell ?_
  refine br_dec (fun h6 => ?_) (fun h6 => ?_)
  · exact ⟨rfl, hk13⟩
  refine ld (hc0.kp hk3 (by simp)).cell ?_
  refine ld (hc1.kp hk3 (by simp)).cell ?_
  refine ld (hc3.kp hk3 (by simp)).cell ?_
  refine ld (hc4.kp hk3 (by simp)).cell ?_
  obtain ⟨g, hg⟩ : ∃ g, closedF x.vars x.list = .ok g := by
    rcases @check_of x.vars x.list with ⟨g, hg, _⟩ | ⟨n, hg, _, hn⟩
    · exact ⟨g, hg⟩
    · have : checkF x.vars x.list = n := by unfold checkF; rw [hg]
      rw [this] at h2
      exact absurd hn h2
  have hgap := gap_ct x.vars x.list x.low x.high ao co w3 (ho.kp hk13 hk13.size)
  have hgf : gapF x.vars x.list x.low x.high = ((g x.low x.high).getD 0, (g x.low x.high).isSome) := by unfold gapF; rw [hg]
  rw [hgf] at hgap
  obtain ⟨d, is, hgv, hcase⟩ : ∃ d is, ((g x.low x.high).getD 0, (g x.low x.high).isSome) = (d, is) ∧ ((is = true ∧ g x.low x.high = some d ∧ -900000000 ≤ d ∧ d ≤ 900000000) ∨ (is = false ∧ d = 0 ∧ g x.low x.high = none)) := by
    cases hgl : g x.low x.high with
    | none => exact ⟨0, false, rfl, .inr ⟨rfl, rfl, rfl⟩⟩
    | some d => exact ⟨d, true, rfl, .inl ⟨rfl, rfl, gap_bd hg hgl⟩⟩
  rw [hgv] at hgap
  have hdb : -900000000 ≤ d ∧ d ≤ 900000000 := by rcases hcase with ⟨_, _, h⟩ | ⟨_, h, _⟩ <;> omega
  have hcase' := hcase
  clear hcase
  refine ev_call hgap ?_
  rintro e w4 ⟨rfl, hk4⟩
  have k24 := hk3.tr hk4
  have hk14 := hk13.tr hk4
  refine ld (hc4.kp k24 (by simp)).cell ?_
  refine int64 (by omega) (by omega) ?_
  refine ld (hc3.kp k24 (by simp)).cell ?_
  refine new fun bo w5 hbo hB5 hs5 hk5 => ?_
  refine stN hB5 rfl (by simp [Value.oneCell', lay, zc, Value.cells]) fun w6 hB6 hs6 hk6 => ?_
  have hO : Bk w6.heap bo [.int .i64 x.high, .int .i64 (0 - d), .int .i64 x.low] 37 := hB6
  have k46 := hk5.newSt hbo hk6
  have hr1 : Rg (x.vars.toNat + 1) x.low := by unfold Rg; omega
  have hr2 : Rg (x.vars.toNat + 1) x.high := by unfold Rg; omega
  have hlen : x.list.length ≤ 63 := by omega
  refine br (fun c => ?nn) (fun c => ?ss)
  case' nn =>
    have hnone : g x.low x.high = none ∧ d = 0 := by
      rcases hcase' with ⟨h, _⟩ | ⟨_, h, h'⟩
      · rw [h] at c; cases c
      · exact ⟨h', h⟩
    obtain ⟨hgl, hd0⟩ := hnone
    clear hcase'
    refine run (rem_run far hfar.1 _) ?_
    obtain ⟨ad, had⟩ : ∃ ad, far % 1001 = ad := ⟨_, rfl⟩
    have hab : 0 ≤ ad ∧ ad ≤ 1000 := by omega
    refine intv ad (by rw [had]; exact wr_in (by omega)) ?_
    refine st hO (Nat.le_of_ble_eq_true rfl) rfl fun w6 hO9' hs9 hk9 => ?_
    clear hB6 hk6 hs6 hO
    have hO9 : Bk w6.heap bo [.int .i64 x.high, .int .i64 ad, .int .i64 x.low] 37 := hO9'
    have k49 := Kp.own k46 hk9 (by show w4.heap.size ≤ bo; omega)
    have hI : -1000 ≤ ad ∧ ad ≤ 1000 := by omega
    have htight := tight (o := ⟨x.high, ad, x.low⟩) hg hlen hr2 hr1 hI (fun d hd => by rw [hgl] at hd; cases hd)
    refine br_no (by omega) ?_
    refine br_no (by omega) ?_
  case' ss =>
    have hsome : g x.low x.high = some d := by
      rcases hcase' with ⟨_, h, _⟩ | ⟨h, _⟩
      · exact h
      · rw [h] at c; cases c
    clear hcase'
    obtain ⟨ad, had⟩ : ∃ ad, 0 - d = ad := ⟨_, rfl⟩
    have hO9 : Bk w6.heap bo [.int .i64 x.high, .int .i64 ad, .int .i64 x.low] 37 := had ▸ hO
    have k49 := k46
    refine br_dec (fun c1 => ?_) (fun c1 => ?_)
    · exact ⟨rfl, hk14.tr k49⟩
    refine br_dec (fun c2 => ?_) (fun c2 => ?_)
    · exact ⟨rfl, hk14.tr k49⟩
    have hI : -1000 ≤ ad ∧ ad ≤ 1000 := by omega
    have htight := tight (o := ⟨x.high, ad, x.low⟩) hg hlen hr2 hr1 hI (fun d' hd => by rw [hsome] at hd; simp at hd; subst hd; show d + ad ≤ 0; omega)
  all_goals
    have k29 := k24.tr k49
    have hk19 := hk14.tr k49
    have hI3 : ∀ y ∈ x.list ++ [⟨x.high, ad, x.low⟩], I64 y.low ∧ I64 y.add ∧ I64 y.high := fun y hy => by
      rcases List.mem_append.1 hy with hy | hy
      · exact ho.2 y hy
      · obtain rfl : y = ⟨x.high, ad, x.low⟩ := by simpa using hy
        exact ⟨hh, by unfold I64; show _ ≤ ad ∧ ad ≤ _; omega, hl⟩
    have hd0 := hc0.kp k29 (by simp)
    have hd1 := hc1.kp k29 (by simp)
    have hS0 : Kp [] w6 { w6 with drawn := w6.drawn + 1 } := (Kp.refl [] w6).dr _
    refine drawH τok (fun w' => Kp [] w6 w') ?_
    refine any_take τok 0 rfl rfl (by kernel_rfl) (by kernel_rfl) (by kernel_rfl) hS0 ?_
    refine any_take τok 1 rfl rfl (by kernel_rfl) (by kernel_rfl) (by kernel_rfl) hS0 ?_
    refine ldK hd0 ?_
    refine any_take τok 3 rfl rfl (by kernel_rfl) (by kernel_rfl) (by kernel_rfl) hS0 ?_
    refine any_take τok 4 rfl rfl (by kernel_rfl) (by kernel_rfl) (by kernel_rfl) hS0 ?_
    refine ldK hd1 ?_
    refine any_take τok 6 rfl rfl (by kernel_rfl) (by kernel_rfl) (by kernel_rfl) hS0 ?_
    refine ldNK [.int .i64 x.high, .int .i64 ad, .int .i64 x.low] rfl (fun j v hv => by rw [Nat.zero_add]; exact hO9.cl hv) ?_
    -- behind the three: the second append, Check, the answer
    refine any_weak [(2, .pointer (some ⟨b1, 0, none⟩)), (7, .pointer (some ⟨bo, 0, none⟩)), (78, .int .i64 x.vars), (81, .slice ao x.list.length co), (83, .agg #[.int .i64 x.high, .int .i64 ad, .int .i64 x.low])] ⟨rfl, rfl, rfl, rfl, rfl, trivial⟩ ?_
    refine any_cast (fuel' := 7) #[true, true, false, true, true, false, true, false, false, false, false, false] (by kernel_rfl) (by kernel_rfl) ?_
    refine any_fork (fun s w' => ∃ v b84, s = ⟨[(78, .int .i64 x.vars), (82, v), (84, .slice (some ⟨b84, 0, none⟩) 1 1)], []⟩ ∧ w'.ownsRow w6.heap.size 37 3 v x.list.length (cellsO x.list) ∧ Bk w'.heap b84 (cellsO [⟨x.high, ad, x.low⟩]) 37 ∧ Kp [] w6 w')
      4 #[true, true, true, true, true, true, true, true, false, false, false, false] ?_ ?_
    · rintro s w7 ⟨v, b84, rfl, hown, hB84, k7⟩
      have hs7 := k7.size
      refine any_one τok 8 rfl (by kernel_rfl) ?_
      refine ap τok rfl (z := [.int .i64 0, .int .i64 0, .int .i64 0]) rfl (by decide) w6.heap.size hown (cellsO [⟨x.high, ad, x.low⟩]) (cellsO_len _) (.inr ⟨b84, 0, rfl, fun j u hj => by rw [Nat.zero_add]; exact hB84.cl hj⟩) (cellsO_one _) (by omega) (by simp only [maxLen]; omega) hs7 fun v' w8 hown' hk8 => ?_
      have k8 : Kp [] w6 w8 := k7.trans hk8 fun y hy hlt => by
        cases hvb : v.ownBlock with
        | none => rw [hvb] at hy; simp at hy
        | some g =>
          rw [hvb] at hy
          obtain rfl : y = g := by simpa using hy
          have := (hown.lt y hvb).1
          omega
      refine ⟨k8, ?_⟩
      rw [cellsO_append] at hown'
      obtain ⟨a', cap', rfl, hO'⟩ := orders_own hown' hI3
      refine any_one τok 9 rfl (by kernel_rfl) ?_
      have hchk := check_ct x.vars (x.list ++ [⟨x.high, ad, x.low⟩]) a' cap' w8 hO'
      rw [htight] at hchk
      refine ev_call hchk ?_
      rintro e w10 ⟨rfl, hk10⟩
      refine ⟨k8.tr hk10, ?_⟩
      refine any_take τok 10 rfl rfl (by kernel_rfl) (by kernel_rfl) (by kernel_rfl) (k8.tr hk10) ?_
      refine any_take τok 11 rfl rfl (by kernel_rfl) (by kernel_rfl) (by kernel_rfl) (k8.tr hk10) ?_
      refine any_done (by kernel_rfl) ?_
      exact ⟨rfl, hk19.tr (k8.tr hk10)⟩
    intro tail
    refine any_two τok 2 7 rfl rfl (by kernel_rfl) ?_ ?_
    · refine fill [] rfl ?_
      refine new fun b79 w7 hb79 hB79 hs79 hk79 => ?_
      have k7 := (hS0).tr hk79
      have hge79 : w6.heap.size ≤ b79 := by rw [hb79]; exact (hS0).size
      have hown79 : w7.ownsRow w6.heap.size 37 3 (.slice (some ⟨b79, 0, none⟩) 0 0) 0 [] := own_bk hB79 hge79 rfl (Nat.zero_le _)
      refine ⟨k7, ?_⟩
      refine any_two τok 5 7 rfl rfl (by kernel_rfl) ?_ ?_
      · refine ap τok rfl (z := [.int .i64 0, .int .i64 0, .int .i64 0]) rfl (by decide) w6.heap.size hown79 (cellsO x.list) (cellsO_len _) (orders_news (ho.kp (hk19.tr k7) (hk19.tr k7).size)) (cellsO_one _) (by omega) (by simp only [maxLen]; omega) (k7).size fun v82 w8 hown82 hkap => ?_
        have k8 : Kp [] w6 w8 := (k7).trans hkap fun y hy hlt => by
          have : y = b79 := by simpa [Value.ownBlock] using hy
          omega
        rw [Nat.zero_add, List.nil_append] at hown82
        refine ⟨k8, ?_⟩
        refine any_one τok 7 rfl (by kernel_rfl) ?_
        refine fill (cellsO [⟨x.high, ad, x.low⟩]) rfl ?_
        refine new fun b84 w9 hb84 hB84 hs84 hk84 => ?_
        have k9 := (k8).tr hk84
        refine ⟨k9, ?_⟩
        refine any_cast (fuel' := 4) #[true, true, true, true, true, true, true, true, false, false, false, false] (by kernel_rfl) (by kernel_rfl) ?_
        refine any_weak [(78, .int .i64 x.vars), (82, v82), (84, .slice (some ⟨b84, 0, none⟩) 1 1)] ⟨rfl, rfl, rfl, trivial⟩ ?_
        exact tail _ _ ⟨v82, b84, rfl, own_kp hown82 hk84 (by simp), hB84, k9⟩
      · refine fill (cellsO [⟨x.high, ad, x.low⟩]) rfl ?_
        refine new fun b84 w8 hb84 hB84 hs84 hk84 => ?_
        have k8 := (k7).tr hk84
        refine ⟨k8, ?_⟩
        refine any_one τok 5 rfl (by kernel_rfl) ?_
        refine ap τok rfl (z := [.int .i64 0, .int .i64 0, .int .i64 0]) rfl (by decide) w6.heap.size (own_kp hown79 hk84 (by simp)) (cellsO x.list) (cellsO_len _) (orders_news (ho.kp (hk19.tr k8) (hk19.tr k8).size)) (cellsO_one _) (by omega) (by simp only [maxLen]; omega) (k8).size fun v82 w9 hown82 hkap => ?_
        have k9 : Kp [] w6 w9 := (k8).trans hkap fun y hy hlt => by
          have : y = b79 := by simpa [Value.ownBlock] using hy
          omega
        rw [Nat.zero_add, List.nil_append] at hown82
        refine ⟨k9, ?_⟩
        refine any_cast (fuel' := 4) #[true, true, true, true, true, true, true, true, false, false, false, false] (by kernel_rfl) (by kernel_rfl) ?_
        refine any_weak [(78, .int .i64 x.vars), (82, v82), (84, .slice (some ⟨b84, 0, none⟩) 1 1)] ⟨rfl, rfl, rfl, trivial⟩ ?_
        exact tail _ _ ⟨v82, b84, rfl, hown82, (hB84.kp hkap (by simp [Value.ownBlock]; omega)), k9⟩
    · refine fill (cellsO [⟨x.high, ad, x.low⟩]) rfl ?_
      refine new fun b84 w7 hb84 hB84 hs84 hk84 => ?_
      have k7 := (hS0).tr hk84
      refine ⟨k7, ?_⟩
      refine any_one τok 2 rfl (by kernel_rfl) ?_
      refine fill [] rfl ?_
      refine new fun b79 w8 hb79 hB79 hs79 hk79 => ?_
      have k8 := (k7).tr hk79
      have hge79 : w6.heap.size ≤ b79 := by rw [hb79]; exact (k7).size
      have hown79 : w8.ownsRow w6.heap.size 37 3 (.slice (some ⟨b79, 0, none⟩) 0 0) 0 [] := own_bk hB79 hge79 rfl (Nat.zero_le _)
      refine ⟨k8, ?_⟩
      refine any_one τok 5 rfl (by kernel_rfl) ?_
      refine ap τok rfl (z := [.int .i64 0, .int .i64 0, .int .i64 0]) rfl (by decide) w6.heap.size hown79 (cellsO x.list) (cellsO_len _) (orders_news (ho.kp (hk19.tr k8) (hk19.tr k8).size)) (cellsO_one _) (by omega) (by simp only [maxLen]; omega) (k8).size fun v82 w9 hown82 hkap => ?_
      have k9 : Kp [] w6 w9 := (k8).trans hkap fun y hy hlt => by
        have : y = b79 := by simpa [Value.ownBlock] using hy
        omega
      rw [Nat.zero_add, List.nil_append] at hown82
      refine ⟨k9, ?_⟩
      refine any_cast (fuel' := 4) #[true, true, true, true, true, true, true, true, false, false, false, false] (by kernel_rfl) (by kernel_rfl) ?_
      refine any_weak [(78, .int .i64 x.vars), (82, v82), (84, .slice (some ⟨b84, 0, none⟩) 1 1)] ⟨rfl, rfl, rfl, trivial⟩ ?_
      exact tail _ _ ⟨v82, b84, rfl, hown82, ((hB84.kp hk79 (by simp)).kp hkap (by simp [Value.ownBlock]; omega)), k9⟩
end Go.Proofs.Ytbgiljognlbkhaa
