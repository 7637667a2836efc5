/-
  Levels: atoms compared; slices.Clone, level.Up; the reference's Up, Max, Same, Value.
-/
import Derived.Test.YtbgiljognlbkhaaLwB
import Derived.Test.YtbgiljognlbkhaaLvV
import Derived.Test.YtbgiljognlbkhaaLvY
import Derived.Laws.StructEq
set_option linter.unusedSimpArgs false
set_option linter.unusedVariables false
namespace Go.Proofs.Ytbgiljognlbkhaa
open Go.Wx Lv

/-! ### atoms compared -/
theorem neqAt_run (x y : Operand) (p q : Atom) (w : World) : (do eqGuard .neq 52 x y (.agg #[.int .i64 p.var, .int .i64 p.add]) (.agg #[.int .i64 q.var, .int .i64 q.add]); binOp .neq 52 (.agg #[.int .i64 p.var, .int .i64 p.add]) (.agg #[.int .i64 q.var, .int .i64 q.add]) : Sem Value).run Try.prog w = .ok (.bool (!decide (p = q))) w := by
  have hfs : (Try.prog.fieldsOf 52).toList.map (fun f => (f.name != "_", f.offset, f.type)) = [(true, 0, 3), (true, 1, 3)] := by kernel_rfl
  have hu : Try.prog.underlying 52 = some (.struct (Try.prog.fieldsOf 52)) := by kernel_rfl
  have hm : Try.prog.eqGuardType Try.prog.depth 52 = false := by kernel_rfl
  have hst : Try.prog.stoodInHeld 52 = false := by kernel_rfl
  simp only [Sem.run_bind, run_eqGuard_agg w .neq 52 x y _ _ hm, Result.andThen_ok, run_neq_struct]
  rw [show (10000 : Nat) = 9999 + 1 from rfl, run_equalIn_struct w 9999 52 _ _ hu hst]
  generalize (Try.prog.fieldsOf 52).toList = fs at hfs
  have hfl : fs.length = 2 := by have := congrArg List.length hfs; simpa using this
  match fs, hfl, hfs with
  | [f, g], _, hfs =>
    simp only [List.map_cons, List.map_nil, List.cons.injEq, Prod.mk.injEq, bne_iff_ne, ne_eq, and_true] at hfs
    obtain ⟨⟨n1, o1, t1⟩, n2, o2, t2⟩ := hfs
    have e1 : ∀ (a b : Int) (w : World), (Op.equalIn 9999 3 (.int .i64 a) (.int .i64 b)).run Try.prog w = .ok (a == b) w := fun a b w => by rw [show (9999 : Nat) = 9998 + 1 from rfl]; exact run_equalIn_int w 9998 3 .i64 .i64 a b Try.underlying3
    have p0 : ∀ (a b : Value) (w : World), (part 3 #[a, b] 0).run Try.prog w = .ok a w := fun a b w => by simp [part, isAgg, run_underlying Try.underlying3]
    have p1 : ∀ (a b : Value) (w : World), (part 3 #[a, b] 1).run Try.prog w = .ok b w := fun a b w => by simp [part, isAgg, run_underlying Try.underlying3]
    obtain ⟨pv, pa⟩ := p
    obtain ⟨qv, qa⟩ := q
    by_cases h1 : pv = qv
    · subst h1
      by_cases h2 : pa = qa
      · subst h2
        simp [Op.eqFields, n1, n2, o1, o2, t1, t2, p0, p1, e1]
      · simp [Op.eqFields, n1, n2, o1, o2, t1, t2, p0, p1, e1, h2]
    · simp [Op.eqFields, n1, n2, o1, o2, t1, t2, p0, p1, e1, h1]

theorem same_at {C D : Mem} {w : World} (hS : Sub C w) (hD : Sub D w) (l m : List Atom) (a a' : Option Addr) (c c' : Nat) (hl : Sl rAt C a l) (hm : Sl rAt D a' m) :
    CallOk Try.prog 29 ∧ Calls Try.prog 29 #[.slice a l.length c, .slice a' m.length c'] w (fun e w' => e = .returned (.bool (decide (l = m))) ∧ Kp [] w w') := by
  refine ⟨⟨_, Try.func29, rfl, by decide⟩, ?_⟩
  have hlen := hl.1
  obtain ⟨RES, hRES⟩ : ∃ r, decide (l = m) = r := ⟨_, rfl⟩
  rw [hRES]
  refine calls_of (args := [_, _]) 26 [.tmp 4] τok Try.func29 rfl rfl rfl (Nat.le_of_ble_eq_true rfl) ?_
  refine br_dec (fun h1 => ?_) (fun h1 => ?_)
  · have : ¬ l = m := fun e => h1 (by rw [e])
    exact ⟨by rw [← hRES, decide_eq_false this]; rfl, Kp.refl _ _⟩
  have h1 : l.length = m.length := by
    have : (l.length : Int) = m.length := by simpa using h1
    omega
  refine lp τok (σ := Nat) (fun k => [(0, .slice a l.length c), (1, .slice a' m.length c'), (5, .int .i64 k)]) (fun k w' => k ≤ l.length ∧ Kp [] w w' ∧ RES = decide (l.drop k = m.drop k)) (fun k => l.length - k) 0 rfl
    ⟨rfl, rfl, rfl, trivial⟩ ⟨Nat.zero_le _, Kp.refl _ _, hRES.symm⟩ ?_
  rintro k w1 ⟨hk, hkp, hr⟩
  refine br_dec (fun h => ?_) (fun h => ?_)
  · have hlt : k < l.length := by omega
    obtain ⟨x, hx, hd⟩ := drop_get hlt
    obtain ⟨y, hy, hd'⟩ := drop_get (l := m) (k := k) (by omega)
    rw [hd, hd'] at hr
    obtain ⟨b, o, rfl, hc0, hc1, _, _⟩ := sl_at hl hx
    obtain ⟨b', o', rfl, hc0', hc1', _, _⟩ := sl_at hm hy
    have hS1 := hS.tr hkp
    have hD1 := hD.tr hkp
    refine drawQ τok (fun w' => Kp [] w1 w') (by kernel_rfl) ((Kp.refl [] w1).dr _) ?_
    refine ix k rfl hlt ?_
    refine ldNK [.int .i64 x.var, .int .i64 x.add] rfl (at2 (hS1 _ _ _ hc0) (hS1 _ _ _ hc1)) ?_
    refine ix k rfl (by omega) ?_
    refine ldNK [.int .i64 y.var, .int .i64 y.add] rfl (at2 (hD1 _ _ _ hc0') (hD1 _ _ _ hc1')) ?_
    refine runQ (v := .bool (!decide (x = y))) (fun w _ => neqAt_run _ _ x y w) ?_
    intro w2 hk2
    refine br (fun hc => ?_) (fun hc => ?_)
    · have : x ≠ y := by simpa using hc
      refine ⟨?_, hkp.tr hk2⟩
      rw [hr, decide_eq_false (by simp [this])]
      rfl
    · have : x = y := by simpa using hc
      subst this
      refine int64 (by omega) (by omega) ?_
      refine ⟨k + 1, by omega, rfl, ⟨rfl, rfl, rfl, trivial⟩, hlt, hkp.tr hk2, ?_⟩
      rw [hr]
      simp
  · refine ⟨?_, hkp⟩
    rw [hr, List.drop_eq_nil_of_le (by omega), List.drop_eq_nil_of_le (by omega)]
    rfl

theorem clone_at {C : Mem} {w : World} (hS : Sub C w) (l : List Atom) (a : Option Addr) (cap : Nat) (hl : Sl rAt C a l) (hll : l.length ≤ 1000) :
    CallOk Try.prog 40 ∧ Calls Try.prog 40 #[.slice a l.length cap] w (fun e w' => ∃ v, e = .returned v ∧ Own rAt 52 w.heap.size w' v l ∧ Kp [] w w') := by
  refine ⟨⟨_, Try.func40, rfl, by decide⟩, ?_⟩
  refine calls_of (args := [_]) 8 [.tmp 2] τok Try.func40 rfl rfl rfl (Nat.le_of_ble_eq_true rfl) ?_
  refine eqNil τok rfl ?_
  refine br (fun g => ?_) (fun g => ?_)
  · have h0 : l = [] := by
      rcases hl.2 with h0 | ⟨b, o, rfl, _⟩
      · exact List.length_eq_zero_iff.1 h0
      · simp at g
    subst h0
    exact ⟨_, rfl, Own.nil _ _ (Nat.le_refl _), Kp.refl _ _⟩
  · refine fill [] rfl ?_
    refine new fun b1 w1 hb1 hB1 hs1 hk1 => ?_
    have hO : Own rAt 52 w.heap.size w1 (.slice (some ⟨b1, 0, none⟩) 0 0) [] := Own.empty _ hB1 (by omega)
    refine hO.apF τok rfl rfl (by decide) flatAt (hS.tr hk1) l hl (by simp; omega) (by simp [maxLen]; omega) fun v w2 hO2 hk2 _ => ?_
    exact ⟨v, rfl, by simpa using hO2, hk1.own hk2 hO⟩

/-! ### Up -/
def upE (a : List Atom) (by' : Int) : Int := if rightF a 16 = false then 19 else if by' < 0 then 1 else if a.any (fun x => decide (1000 < x.add + by')) then 6 else 0
def upL (a : List Atom) (by' : Int) : List Atom := a.map fun x => ⟨x.var, x.add + by'⟩
def upR (a : List Atom) (by' : Int) : List Atom := if upE a by' = 0 then upL a by' else []

theorem up_ct {C : Mem} {w : World} (hS : Sub C w) (a : List Atom) (by' : Int) (aa : Option Addr) (ca : Nat) (ha : Sl rAt C aa a) (hby : I64 by') :
    CallOk Try.prog 26 ∧ Calls Try.prog 26 #[.slice aa a.length ca, .int .i64 by'] w (fun e w' => ∃ ar cr, e = .returned (.tuple #[.slice ar (upR a by').length cr, .int .i64 (upE a by')]) ∧ Sl rAt (New w.heap.size w') ar (upR a by') ∧ Kp [] w w') := by
  refine ⟨⟨_, Try.func26, rfl, by decide⟩, ?_⟩
  refine calls_of (args := [_, _]) 39 [.tmp 4, .tmp 5] τok Try.func26 rfl rfl rfl (Nat.le_of_ble_eq_true rfl) ?_
  have bad : ∀ e w', upE a by' = e → e ≠ 0 → Kp [] w w' → ∃ ar cr, Ending.returned (Go.Wx.one [.slice none 0 0, .int .i64 e]) = .returned (.tuple #[.slice ar (upR a by').length cr, .int .i64 (upE a by')]) ∧ Sl rAt (New w.heap.size w') ar (upR a by') ∧ Kp [] w w' := fun e w' he h0 hk => by
    have hr : upR a by' = [] := by unfold upR; rw [if_neg (by rw [he]; exact h0)]
    rw [hr, he]
    exact ⟨none, 0, rfl, Sl.nil _ _ _, hk⟩
  refine ev_call (right_ct a aa ca 16 w (Sl.atoms ha hS)) ?_
  rintro e w1 ⟨rfl, hk1⟩
  refine br (fun g1 => ?_) (fun g1 => ?_)
  · exact bad 19 _ (by unfold upE; rw [if_pos (by simpa using g1)]) (by omega) hk1
  have g1 : rightF a 16 = true := by simpa using g1
  refine br_dec (fun g2 => ?_) (fun g2 => ?_)
  · exact bad 1 _ (by unfold upE; rw [if_neg (by simp [g1]), if_pos g2]) (by omega) hk1
  have hE : upE a by' = if a.any (fun x => decide (1000 < x.add + by')) then 6 else 0 := by unfold upE; rw [if_neg (by simp [g1]), if_neg g2]
  have hadd := (right_adds g1).2
  have hal := (right_adds g1).1
  unfold I64 at hby
  refine ev_call (clone_at (hS.tr hk1) a aa ca ha (by omega)) ?_
  rintro e w2 ⟨v, rfl, hO, hk2⟩
  have k02 := hk1.tr hk2
  have z1 := hk1.size
  obtain ⟨av, cv, rfl⟩ := hO.len
  refine lp τok (σ := Nat) (fun i => [(1, .int .i64 by'), (6, .slice av a.length cv), (16, .int .i64 a.length), (17, .int .i64 i)])
    (fun i w' => i ≤ a.length ∧ Own rAt 52 w1.heap.size w' (.slice av a.length cv) ((upL a by').take i ++ a.drop i) ∧ Kp [] w1 w' ∧ ∀ x ∈ a.take i, x.add + by' ≤ 1000) (fun i => a.length - i) 0 rfl ⟨rfl, rfl, rfl, rfl, trivial⟩ ⟨Nat.zero_le _, by simpa using hO, hk2, by simp⟩ ?_
  clear hO
  rintro i w3 ⟨hi, hO, hk3, hall⟩
  have hul : (upL a by').length = a.length := by simp [upL]
  refine br_dec (fun g3 => ?_) (fun g3 => ?_)
  · have hlt : i < a.length := by omega
    obtain ⟨x, hx, hd⟩ := drop_get hlt
    have hxa := hadd x (List.mem_of_getElem? hx)
    have hul' : (upL a by')[i]? = some ⟨x.var, x.add + by'⟩ := by simp [upL, hx]
    have hcur : ((upL a by').take i ++ a.drop i)[i]? = some x := by
      rw [List.getElem?_append_right (by simp; omega)]
      have : i - ((upL a by').take i).length = 0 := by rw [List.length_take, hul]; omega
      rw [this, hd]
      rfl
    have hlen3 : ((upL a by').take i ++ a.drop i).length = a.length := by simp; omega
    obtain ⟨a0, c0, e0, hSl⟩ := hO.den (by omega)
    rw [hlen3] at e0
    cases e0
    obtain ⟨g, o, rfl, hc0, hc1, _, _⟩ := sl_at hSl hcur
    refine ix i rfl hlt ?_
    refine ld (hc1.2.cl).cell ?_
    refine int64 (by omega) (by omega) ?_
    refine br_dec (fun g4 => ?_) (fun g4 => ?_)
    · refine bad 6 _ ?_ (by omega) (hk1.tr hk3)
      rw [hE, if_pos]
      exact List.any_eq_true.2 ⟨x, List.mem_of_getElem? hx, by simp; omega⟩
    refine ix i rfl hlt ?_
    refine ld (hc1.2.cl).cell ?_
    refine int64 (by omega) (by omega) ?_
    refine ix i rfl hlt ?_
    obtain ⟨g', c', e1, hg, hst⟩ := hO.st (j := 1) (x := x) (y := ⟨x.var, x.add + by'⟩) hcur (by decide) (u := .int .i64 (x.add + by')) rfl (fun cs hcs => by
      obtain ⟨rfl, _, _⟩ := hcs
      exact ⟨rfl, by unfold I64; simp only; omega, by unfold I64; simp only; omega⟩)
    rw [hlen3] at e1
    injection e1 with e2 e3 e4
    injection e2 with e2
    injection e2 with e5 e6
    subst e5 e6
    refine hst fun w4 hO4 hs4 hk4 => ?_
    refine int64 (by omega) (by omega) ?_
    refine ⟨i + 1, by omega, rfl, ⟨rfl, rfl, rfl, rfl, trivial⟩, hlt, ?_, hk3.trans hk4 (fun y hy hl => by simp at hy; omega), ?_⟩
    · have e7 : ((upL a by').take i ++ a.drop i).set i ⟨x.var, x.add + by'⟩ = (upL a by').take (i + 1) ++ a.drop (i + 1) := by
        rw [List.set_append_right _ _ (by simp; omega)]
        have : i - ((upL a by').take i).length = 0 := by rw [List.length_take, hul]; omega
        rw [this, hd, take_get hul']
        simp
      rw [e7] at hO4
      exact hO4
    · rw [take_get hx]
      intro y hy
      rcases List.mem_append.1 hy with hy | hy
      · exact hall y hy
      · simp at hy; subst hy; omega
  · rw [List.take_of_length_le (by omega), List.drop_eq_nil_of_le (by omega), List.append_nil] at hO
    rw [List.take_of_length_le (by omega)] at hall
    have hE0 : upE a by' = 0 := by
      rw [hE, if_neg]
      intro h
      obtain ⟨x, hx, h1⟩ := List.any_eq_true.1 h
      have := hall x hx
      simp at h1
      omega
    have hR : upR a by' = upL a by' := by unfold upR; rw [if_pos hE0]
    rw [hR, hE0]
    obtain ⟨a0, c0, e0, hSl⟩ := hO.den (by omega)
    rw [hul] at e0 ⊢
    cases e0
    exact ⟨av, cv, rfl, hSl.mono (New.up z1 (Kp.refl _ _)), hk1.tr hk3⟩
end Go.Proofs.Ytbgiljognlbkhaa
