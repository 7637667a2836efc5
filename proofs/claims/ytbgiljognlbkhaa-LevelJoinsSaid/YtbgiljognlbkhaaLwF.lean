/-
  Levels: LevelJoins.
-/
import Derived.Test.YtbgiljognlbkhaaLwC
import Derived.Test.YtbgiljognlbkhaaLvU
set_option linter.unusedSimpArgs false
set_option linter.unusedVariables false
namespace Go.Proofs.Ytbgiljognlbkhaa
open Go.Wx Lv

/-! ### the plain law -/
def blw (g : G) (a b : List Atom) : Prop := ∀ x ∈ a, ∃ y ∈ b, ∃ d, g x.var y.var = some d ∧ x.add - y.add ≤ d
theorem under_iff {vars : Int} {os : List Order} {g : G} (hc : closedF vars os = .ok g) {a b : List Atom} (ha : rightF a vars = true) (hb : rightF b vars = true) : underF vars os a b = true ↔ blw g a b := by
  unfold underF blw
  rw [hc]
  simp only [ha, hb, Bool.true_and, List.all_eq_true, List.any_eq_true]
  constructor
  · intro h x hx
    obtain ⟨y, hy, h1⟩ := h x hx
    unfold okAtom at h1
    cases hd : g x.var y.var with
    | none => rw [hd] at h1; cases h1
    | some d => rw [hd] at h1; exact ⟨y, hy, d, hd, by simpa using h1⟩
  · intro h x hx
    obtain ⟨y, hy, d, hd, h1⟩ := h x hx
    exact ⟨y, hy, by unfold okAtom; rw [hd]; simpa using h1⟩
theorem blw_of {g : G} {n : Nat} {os : List Order} (hc : Closed n os g) {a b : List Atom} (hr : ∀ x ∈ a, Rg n x.var) (h : ∀ x ∈ a, ∃ y ∈ b, y.var = x.var ∧ x.add ≤ y.add) : blw g a b := fun x hx => by
  obtain ⟨y, hy, e, hle⟩ := h x hx
  exact ⟨y, hy, 0, by rw [e]; exact hc.zero _ (hr x hx), by omega⟩
theorem blw_trans {g : G} {n : Nat} {os : List Order} (hc : Closed n os g) {a b c : List Atom} (h1 : blw g a b) (h2 : blw g b c) : blw g a c := fun x hx => by
  obtain ⟨y, hy, d, hd, e1⟩ := h1 x hx
  obtain ⟨z, hz, d', hd', e2⟩ := h2 y hy
  obtain ⟨v, hv, hle⟩ := hc.most _ _ _ ((hc.walk _ _ _ hd).2.2.trans (hc.walk _ _ _ hd').2.2)
  exact ⟨z, hz, v, hv, by omega⟩

theorem rightGo_of {vars : Int} : ∀ {l : List Atom} {last : Int}, (∀ x ∈ l, last < x.var ∧ x.var ≤ vars ∧ 0 ≤ x.add ∧ x.add ≤ 1000) → l.Pairwise (fun x y => x.var < y.var) → rightGo vars l last = true
  | [], _, _, _ => rfl
  | x :: l, last, h, hp => by
    simp only [rightGo]
    have hx := h x (by simp)
    rw [if_neg (by omega)]
    obtain ⟨h1, h2⟩ := List.pairwise_cons.1 hp
    refine rightGo_of (fun y hy => ?_) h2
    have := h y (by simp [hy])
    have := h1 y hy
    omega
theorem rightF_of {vars : Int} {l : List Atom} (hv : 0 ≤ vars ∧ vars ≤ 16) (hl : 1 ≤ l.length ∧ l.length ≤ 4) (h : ∀ x ∈ l, 0 ≤ x.var ∧ x.var ≤ vars ∧ 0 ≤ x.add ∧ x.add ≤ 1000) (hp : l.Pairwise (fun x y => x.var < y.var)) : rightF l vars = true := by
  unfold rightF
  rw [if_neg (by omega)]
  exact rightGo_of (fun x hx => by have := h x hx; omega) hp
theorem right_16 {vars : Int} {l : List Atom} (hv : 0 ≤ vars ∧ vars ≤ 16) (h : rightF l vars = true) : rightF l 16 = true := by
  obtain ⟨h1, h2⟩ := right_adds h
  obtain ⟨h3, h4⟩ := right_up h
  exact rightF_of (by omega) ⟨h4, h1⟩ (fun x hx => by have := h2 x hx; omega) h3

theorem nodup_le : ∀ (l m : List Int), l.Nodup → (∀ x ∈ l, x ∈ m) → l.length ≤ m.length
  | [], _, _, _ => by simp
  | x :: l, m, hn, h => by
    obtain ⟨h1, h2⟩ := List.nodup_cons.1 hn
    have hx := h x (by simp)
    have := nodup_le l (m.erase x) h2 fun y hy => (List.mem_erase_of_ne (fun e => by subst e; exact h1 hy)).2 (h y (by simp [hy]))
    rw [List.length_erase_of_mem hx] at this
    have := List.length_pos_of_mem hx
    simp only [List.length_cons]
    omega

theorem maxL_mem {a b : List Atom} {y : Atom} (h : y ∈ maxL a b) : mapF (a ++ b) y.var = some y.add := by
  unfold maxL at h
  obtain ⟨v, _, hv⟩ := List.mem_filterMap.1 h
  cases hm : mapF (a ++ b) v with
  | none => rw [hm] at hv; cases hv
  | some n =>
    rw [hm] at hv
    obtain rfl := Option.some.inj hv
    exact hm
theorem maxL_has {a b : List Atom} {x v : Int} (h : mapF (a ++ b) x = some v) (hx : 0 ≤ x ∧ x < (17 : Nat)) : (⟨x, v⟩ : Atom) ∈ maxL a b := by
  unfold maxL
  refine List.mem_filterMap.2 ⟨x.toNat, List.mem_range.2 (by omega), ?_⟩
  rw [Int.toNat_of_nonneg hx.1, h]
  rfl
theorem maxL_up (a b : List Atom) : (maxL a b).Pairwise (fun x y => x.var < y.var) := by
  have h : ((maxL a b).map Atom.var).Pairwise (· < ·) := by
    rw [show (maxL a b).map Atom.var = keysL (mapF (a ++ b)) (List.range 17) from vars_keys _ _]
    exact keysL_up _ _
  exact List.pairwise_map.1 h
theorem maxL_le {a b : List Atom} : (maxL a b).length ≤ a.length + b.length := by
  have h : ((maxL a b).map Atom.var).length ≤ ((a ++ b).map Atom.var).length := by
    refine nodup_le _ _ ?_ fun x hx => ?_
    · have h : ((maxL a b).map Atom.var).Pairwise (· < ·) := by
        rw [show (maxL a b).map Atom.var = keysL (mapF (a ++ b)) (List.range 17) from vars_keys _ _]
        exact keysL_up _ _
      exact h.imp (fun h => by omega)
    · obtain ⟨y, hy, rfl⟩ := List.mem_map.1 hx
      obtain ⟨z, hz, e, _⟩ := mapF_from (maxL_mem hy)
      exact List.mem_map.2 ⟨z, hz, e⟩
  simpa using h

theorem maxR_right {a b : List Atom} {vars : Int} (hv : 0 ≤ vars ∧ vars ≤ 16) (ha : rightF a vars = true) (hb : rightF b vars = true) (h : maxE a b = 0) : maxR a b = maxL a b ∧ rightF (maxL a b) vars = true := by
  have hR : maxR a b = maxL a b := by unfold maxR; rw [if_pos h]
  have hlen : (maxL a b).length ≤ 4 := by
    unfold maxE at h
    split at h
    · cases h
    split at h
    · cases h
    · omega
  refine ⟨hR, rightF_of hv ⟨?_, hlen⟩ (fun y hy => ?_) (maxL_up a b)⟩
  · obtain ⟨x, hx⟩ : ∃ x, x ∈ a := by
      have := (right_up ha).2
      match a, this with
      | x :: _, _ => exact ⟨x, by simp⟩
    obtain ⟨v, hv', _⟩ := mapF_mem (l := a ++ b) (y := x) (by simp [hx])
    have hr := (right_adds ha).2 x hx
    exact List.length_pos_of_mem (maxL_has hv' (by omega))
  · obtain ⟨z, hz, e1, e2⟩ := mapF_from (maxL_mem hy)
    rcases List.mem_append.1 hz with hz | hz
    · have := (right_adds ha).2 z hz; omega
    · have := (right_adds hb).2 z hz; omega

theorem levelJoins_ct (x : Ord5) (la lb lc : List Atom) (ao av aa ab ac : Option Addr) (co cv ca cb cc : Nat) (w : World) (ho : Orders w.heap.size w.heap ao x.list) (ha : Atoms w.heap.size w.heap aa la) (hb : Atoms w.heap.size w.heap ab lb) (hc : Atoms w.heap.size w.heap ac lc) :
    Calls Try.prog 8 #[.agg #[.int .i64 x.vars, .slice ao x.list.length co, .slice av x.vals.length cv, .int .i64 x.low, .int .i64 x.high], .slice aa la.length ca, .slice ab lb.length cb, .slice ac lc.length cc] w (fun e w' => e = .returned (.bool true) ∧ Kp [] w w') := by
  refine calls_ev (args := [_, _, _, _]) 172 [.tmp 8] Try.func8 rfl rfl rfl (Nat.le_of_ble_eq_true rfl) ?_
  refine ev_seq τok ?_
  refine new fun b1 w1 hb1 hB1 hs1 hk1 => ?_
  have hB1 : Bk w1.heap b1 [.int .i64 x.vars, .slice ao x.list.length co, .slice av x.vals.length cv, .int .i64 x.low, .int .i64 x.high] 25 := hB1
  refine ev_seq τok ?_
  refine ev_call (awake_ct w1) ?_
  rintro e w2 ⟨rfl, hk2⟩
  have k02 := hk1.tr hk2
  have hB1 := hB1.kp hk2 (by simp)
  refine ev_seq τok ?_
  refine ld (hB1.cl rfl).cell ?_
  refine br_dec (fun g1 => ?_) (fun g1 => ?_)
  · exact ⟨rfl, k02⟩
  refine intw ?_
  refine intw ?_
  refine br_dec (fun g2 => ?_) (fun g2 => ?_)
  · exact ⟨rfl, k02⟩
  refine ld (hB1.cl rfl).cell ?_
  refine ld (hB1.cl rfl).cell ?_
  refine ev_call (check_ct x.vars x.list ao co w2 (ho.kp k02 k02.size)) ?_
  rintro e w3 ⟨rfl, hk3⟩
  have k03 := k02.tr hk3
  have hB1 := hB1.kp hk3 (by simp)
  refine br_dec (fun g3 => ?_) (fun g3 => ?_)
  · exact ⟨rfl, k03⟩
  have g3 : checkF x.vars x.list = 0 := by simpa using g3
  refine ld (hB1.cl rfl).cell ?_
  refine ev_call (right_ct la aa ca x.vars w3 (ha.kp k03 (Nat.le_refl _))) ?_
  rintro e w4 ⟨rfl, hk4⟩
  have k04 := k03.tr hk4
  have hB1 := hB1.kp hk4 (by simp)
  refine br (fun g4 => ?_) (fun g4 => ?_)
  · exact ⟨rfl, k04⟩
  have ra : rightF la x.vars = true := by simpa using g4
  refine ld (hB1.cl rfl).cell ?_
  refine ev_call (right_ct lb ab cb x.vars w4 (hb.kp k04 (Nat.le_refl _))) ?_
  rintro e w5 ⟨rfl, hk5⟩
  have k05 := k04.tr hk5
  have hB1 := hB1.kp hk5 (by simp)
  refine br (fun g5 => ?_) (fun g5 => ?_)
  · exact ⟨rfl, k05⟩
  have rb : rightF lb x.vars = true := by simpa using g5
  refine ld (hB1.cl rfl).cell ?_
  refine ev_call (right_ct lc ac cc x.vars w5 (hc.kp k05 (Nat.le_refl _))) ?_
  rintro e w6 ⟨rfl, hk6⟩
  have k06 := k05.tr hk6
  have hB1 := hB1.kp hk6 (by simp)
  refine br (fun g6 => ?_) (fun g6 => ?_)
  · exact ⟨rfl, k06⟩
  have rc : rightF lc x.vars = true := by simpa using g6
  obtain ⟨g, hg⟩ : ∃ g, closedF x.vars x.list = .ok g := by
    cases h : closedF x.vars x.list with
    | ok g => exact ⟨g, rfl⟩
    | error n =>
      exfalso
      have e1 : checkF x.vars x.list = n := by unfold checkF; rw [h]
      have := (closedF_err h)
      rw [g3] at e1
      subst e1
      omega
  obtain ⟨hcl, hv0, hv16, _⟩ := closedF_ok hg
  have hv : 0 ≤ x.vars ∧ x.vars ≤ 16 := ⟨hv0, hv16⟩
  have ui : ∀ {p q : List Atom}, rightF p x.vars = true → rightF q x.vars = true → (underF x.vars x.list p q = true ↔ blw g p q) := fun hp hq => under_iff hg hp hq
  have rgv : ∀ {p : List Atom}, rightF p x.vars = true → ∀ y ∈ p, Rg (x.vars.toNat + 1) y.var := fun hp y hy => by
    have := (right_adds hp).2 y hy
    exact ⟨by omega, by omega⟩
  have uaa : underF x.vars x.list la la = true := (ui ra ra).2 (blw_of hcl (rgv ra) fun y hy => ⟨y, hy, rfl, Int.le_refl _⟩)
  have O : ∀ {u}, Kp [] w u → Orders u.heap.size u.heap ao x.list := fun k => ho.kp k k.size
  have A' : ∀ {u}, Kp [] w u → Atoms u.heap.size u.heap aa la := fun k => ha.kp k k.size
  have B' : ∀ {u}, Kp [] w u → Atoms u.heap.size u.heap ab lb := fun k => hb.kp k k.size
  have C' : ∀ {u}, Kp [] w u → Atoms u.heap.size u.heap ac lc := fun k => hc.kp k k.size
  have al := (right_adds ra).1
  have bl := (right_adds rb).1
  have hSa := Atoms.sl ha (by omega)
  have hSb := Atoms.sl hb (by omega)
  have U : ∀ {u}, Kp [] w u → ∀ (p q : List Atom) (ap aq : Option Addr) (cp cq : Nat), Atoms u.heap.size u.heap ap p → Atoms u.heap.size u.heap aq q → ∀ r, underF x.vars x.list p q = r →
      CallOk Try.prog 12 ∧ Calls Try.prog 12 #[.int .i64 x.vars, .slice ao x.list.length co, .slice ap p.length cp, .slice aq q.length cq] u (fun e w' => e = .returned (.bool r) ∧ Kp [] u w') := fun k p q ap aq cp cq hp hq r hr => by
    subst hr
    exact under_ct x.vars x.list p q ao ap aq co cp cq _ (O k) hp hq
  refine ev_mid τok (σ := Unit) (fun _ => [(1, .slice aa la.length ca), (2, .slice ab lb.length cb), (3, .slice ac lc.length cc), (4, .pointer (some ⟨b1, 0, none⟩))]) (fun _ w' => Kp [] w6 w') ?_ ?_
  · refine ld (hB1.cl rfl).cell ?_
    refine ld (hB1.cl rfl).cell ?_
    refine ev_call (U k06 la la aa aa ca ca (A' k06) (A' k06) true uaa) ?_
    rintro e w7 ⟨rfl, hk7⟩
    have k07 := k06.tr hk7
    have hB1 := hB1.kp hk7 (by simp)
    obtain ⟨UAB, hUAB⟩ : ∃ r, underF x.vars x.list la lb = r := ⟨_, rfl⟩
    obtain ⟨UBC, hUBC⟩ : ∃ r, underF x.vars x.list lb lc = r := ⟨_, rfl⟩
    refine ld (hB1.cl rfl).cell ?_
    refine ld (hB1.cl rfl).cell ?_
    refine ev_call (U k07 la lb aa ab ca cb (A' k07) (B' k07) UAB hUAB) ?_
    rintro e w8 ⟨rfl, hk8⟩
    have k08 := k07.tr hk8
    have hB1 := hB1.kp hk8 (by simp)
    refine br (fun q1 => ?_) (fun q1 => ?_)
    · refine ld (hB1.cl rfl).cell ?_
      refine ld (hB1.cl rfl).cell ?_
      refine ev_call (U k08 lb lc ab ac cb cc (B' k08) (C' k08) UBC hUBC) ?_
      rintro e w9 ⟨rfl, hk9⟩
      have k09 := k08.tr hk9
      have hB1 := hB1.kp hk9 (by simp)
      refine br (fun q2 => ?_) (fun q2 => ?_)
      · have uac : underF x.vars x.list la lc = true := (ui ra rc).2 (blw_trans hcl ((ui ra rb).1 (hUAB.trans q1)) ((ui rb rc).1 (hUBC.trans q2)))
        refine ld (hB1.cl rfl).cell ?_
        refine ld (hB1.cl rfl).cell ?_
        refine ev_call (U k09 la lc aa ac ca cc (A' k09) (C' k09) true uac) ?_
        rintro e w10 ⟨rfl, hk10⟩
        exact ⟨(), rfl, ⟨rfl, rfl, rfl, rfl, trivial⟩, ((hk7.tr hk8).tr hk9).tr hk10⟩
      · exact ⟨(), rfl, ⟨rfl, rfl, rfl, rfl, trivial⟩, (hk7.tr hk8).tr hk9⟩
    · exact ⟨(), rfl, ⟨rfl, rfl, rfl, rfl, trivial⟩, hk7.tr hk8⟩
  rintro _ w7 hk7
  have k07 := k06.tr hk7
  have hB1 := hB1.kp hk7 (by simp)
  have hS := Old.sub w
  refine ev_seq τok ?_
  refine ev_call (up_ct (hS.tr k07) la 1 aa ca hSa (by unfold I64; omega)) ?_
  rintro e w8 ⟨au, cu, rfl, hu, hk8⟩
  have k08 := k07.tr hk8
  have hB1 := hB1.kp hk8 (by simp)
  have hau := Sl.atoms hu (New.sub _ w8)
  refine ev_mid τok (σ := Unit) (fun _ => [(1, .slice aa la.length ca), (2, .slice ab lb.length cb), (3, .slice ac lc.length cc), (4, .pointer (some ⟨b1, 0, none⟩))]) (fun _ w' => Kp [] w8 w') ?_ ?_
  · refine br_dec (fun q1 => ?_) (fun q1 => ?_)
    · have q1 : upE la 1 = 0 := q1
      have hR : upR la 1 = upL la 1 := by unfold upR; rw [if_pos q1]
      rw [hR] at hau ⊢
      have hadd : ∀ y ∈ la, y.add + 1 ≤ 1000 := fun y hy => by
        unfold upE at q1
        rw [if_neg (by rw [right_16 hv ra]; simp), if_neg (by omega)] at q1
        split at q1
        · cases q1
        · rename_i h
          have h : la.any (fun x => decide (1000 < x.add + 1)) = false := by simpa using h
          have := List.any_eq_false.1 h y hy
          simp at this
          omega
      have ru : rightF (upL la 1) x.vars = true := by
        refine rightF_of hv (by have := (right_up ra).2; simp [upL]; omega) (fun z hz => ?_) ?_
        · obtain ⟨y, hy, rfl⟩ := List.mem_map.1 hz
          have := (right_adds ra).2 y hy
          have := hadd y hy
          simp only
          omega
        · exact List.pairwise_map.2 ((right_up ra).1.imp fun h => h)
      have uau : underF x.vars x.list la (upL la 1) = true := (ui ra ru).2 (blw_of hcl (rgv ra) fun y hy => ⟨⟨y.var, y.add + 1⟩, List.mem_map.2 ⟨y, hy, rfl⟩, rfl, by simp only; omega⟩)
      refine ld (hB1.cl rfl).cell ?_
      refine ld (hB1.cl rfl).cell ?_
      refine ev_call (U k08 la (upL la 1) aa au ca cu (A' k08) hau true uau) ?_
      rintro e w9 ⟨rfl, hk9⟩
      exact ⟨(), rfl, ⟨rfl, rfl, rfl, rfl, trivial⟩, hk9⟩
    · exact ⟨(), rfl, ⟨rfl, rfl, rfl, rfl, trivial⟩, Kp.refl _ _⟩
  rintro _ w9 hk9
  have k09 := k08.tr hk9
  have hB1 := hB1.kp hk9 (by simp)
  refine ev_seq τok ?_
  refine ev_call (max_ct (hS.tr k09) la lb aa ab ca cb hSa hSb) ?_
  rintro e w10 ⟨am, cm, rfl, hm, hk10⟩
  have k010 := k09.tr hk10
  have hB1 := hB1.kp hk10 (by simp)
  have ham := Sl.atoms hm (New.sub _ w10)
  obtain ⟨E, hE⟩ : ∃ e, maxE la lb = e := ⟨_, rfl⟩
  rw [hE]
  refine ev_seq τok ?_
  refine br_dec (fun q1 => ?_) (fun q1 => ?_)
  · have q1 : E ≠ 0 := q1
    have h5 : E = 5 ∧ 4 < (maxL la lb).length := by
      rw [← hE] at q1 ⊢
      unfold maxE at q1 ⊢
      rw [if_neg (by rw [right_16 hv ra, right_16 hv rb]; simp)] at q1 ⊢
      split at q1
      · rename_i h; rw [if_pos h]; exact ⟨rfl, h⟩
      · exact absurd rfl q1
    have hml := maxL_le (a := la) (b := lb)
    obtain ⟨rfl, h4⟩ := h5
    refine int64 (by omega) (by omega) ?_
    refine ⟨?_, k010⟩
    simp [Go.Wx.one]
    omega
  have q1 : maxE la lb = 0 := by rw [hE]; simpa using q1
  obtain ⟨hR, rm⟩ := maxR_right hv ra rb q1
  rw [hR] at ham ⊢
  have uam : underF x.vars x.list la (maxL la lb) = true := (ui ra rm).2 (blw_of hcl (rgv ra) fun y hy => by
    obtain ⟨v, hv', hle⟩ := mapF_mem (l := la ++ lb) (y := y) (by simp [hy])
    have := (right_adds ra).2 y hy
    exact ⟨⟨y.var, v⟩, maxL_has hv' (by omega), rfl, hle⟩)
  have ubm : underF x.vars x.list lb (maxL la lb) = true := (ui rb rm).2 (blw_of hcl (rgv rb) fun y hy => by
    obtain ⟨v, hv', hle⟩ := mapF_mem (l := la ++ lb) (y := y) (by simp [hy])
    have := (right_adds rb).2 y hy
    exact ⟨⟨y.var, v⟩, maxL_has hv' (by omega), rfl, hle⟩)
  have umc : underF x.vars x.list (maxL la lb) lc = (underF x.vars x.list la lc && underF x.vars x.list lb lc) := by
    rw [Bool.eq_iff_iff, Bool.and_eq_true, ui rm rc, ui ra rc, ui rb rc]
    constructor
    · intro h
      exact ⟨blw_trans hcl ((ui ra rm).1 uam) h, blw_trans hcl ((ui rb rm).1 ubm) h⟩
    · rintro ⟨h1, h2⟩ y hy
      obtain ⟨z, hz, e1, e2⟩ := mapF_from (maxL_mem hy)
      rcases List.mem_append.1 hz with hz | hz
      · obtain ⟨u, hu, d, hd, hle⟩ := h1 z hz
        exact ⟨u, hu, d, by rw [← e1]; exact hd, by omega⟩
      · obtain ⟨u, hu, d, hd, hle⟩ := h2 z hz
        exact ⟨u, hu, d, by rw [← e1]; exact hd, by omega⟩
  generalize hML : maxL la lb = ML at *
  have M' : ∀ {u}, Kp [] w10 u → Atoms u.heap.size u.heap am ML := fun k => ham.kp k k.size
  refine ev_seq τok ?_
  refine ld (hB1.cl rfl).cell ?_
  refine ld (hB1.cl rfl).cell ?_
  refine ev_call (U k010 la ML aa am ca cm (A' k010) ham true uam) ?_
  rintro e w11 ⟨rfl, hk11⟩
  have k011 := k010.tr hk11
  have hB1 := hB1.kp hk11 (by simp)
  refine ld (hB1.cl rfl).cell ?_
  refine ld (hB1.cl rfl).cell ?_
  refine ev_call (U k011 lb ML ab am cb cm (B' k011) (M' hk11) true ubm) ?_
  rintro e w12 ⟨rfl, hk12⟩
  have k012 := k011.tr hk12
  have hB1 := hB1.kp hk12 (by simp)
  obtain ⟨U1, hU1⟩ : ∃ r, underF x.vars x.list la lc = r := ⟨_, rfl⟩
  obtain ⟨U2, hU2⟩ : ∃ r, underF x.vars x.list lb lc = r := ⟨_, rfl⟩
  rw [hU1, hU2] at umc
  refine ev_of τok ?_
  refine drawQ τok (fun w' => Kp [] w12 w') (by kernel_rfl) ((Kp.refl [] w12).dr _) ?_
  refine ldK (hB1.cl rfl) ?_
  refine ldK (hB1.cl rfl) ?_
  refine callK (fun u hu => U (k012.tr hu) ML lc am ac cm cc (M' ((hk11.tr hk12).tr hu)) (C' (k012.tr hu)) (U1 && U2) umc) ?_
  refine ldK (hB1.cl rfl) ?_
  refine ldK (hB1.cl rfl) ?_
  refine callK (fun u hu => U (k012.tr hu) la lc aa ac ca cc (A' (k012.tr hu)) (C' (k012.tr hu)) U1 hU1) ?_
  refine br (fun q2 => ?_) (fun q2 => ?_)
  · refine ldK (hB1.cl rfl) ?_
    refine ldK (hB1.cl rfl) ?_
    refine callK (fun u hu => U (k012.tr hu) lb lc ab ac cb cc (B' (k012.tr hu)) (C' (k012.tr hu)) U2 hU2) ?_
    intro w13 hk13
    refine ⟨?_, k012.tr hk13⟩
    have q2 : U1 = true := q2
    subst q2
    simp [Go.Wx.one]
  · intro w13 hk13
    refine ⟨?_, k012.tr hk13⟩
    have q2 : U1 = false := q2
    subst q2
    simp [Go.Wx.one]
end Go.Proofs.Ytbgiljognlbkhaa
