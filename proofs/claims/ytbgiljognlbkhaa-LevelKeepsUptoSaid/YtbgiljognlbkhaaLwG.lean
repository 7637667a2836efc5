/-
  Levels: LevelKeeps.
-/
import Derived.Test.YtbgiljognlbkhaaLwD
import Derived.Test.YtbgiljognlbkhaaLvQ
set_option linter.unusedSimpArgs false
set_option linter.unusedVariables false
namespace Go.Wx
/-- a struct of two cells laid over two cells of a block -/
theorem st2 {P : Program} {w : World} {b o : Nat} {v0 v1 : Value} {k : World → Prop} {cs : List Value} {T : TypeId} (hB : Bk w.heap b cs T) (ho : o + 1 < cs.length) (h0 : v0.oneCell' = true) (h1 : v1.oneCell' = true)
    (hk : ∀ w', Bk w'.heap b ((cs.set o v0).set (o + 1) v1) T → w'.heap.size = w.heap.size → Kp [b] w w' → k w') : EvRunU P (storeCells ⟨b, o, none⟩ [v0, v1]) w k := by
  have one : ∀ (w : World) (cs : List Value) (i : Nat) (v : Value), Bk w.heap b cs T → i < cs.length → v.oneCell' = true → (store ⟨b, i, none⟩ v .plain).run P w = .ok () (w.setCell ⟨b, i, none⟩ v) ∧ Bk (w.setCell ⟨b, i, none⟩ v).heap b (cs.set i v) T := fun w cs i v hB hi hv => by
    have hb' : w.heap[b]? = some (.cells cs.toArray T (0, 0)) := hB
    have hcell : w.cell? ⟨b, i, none⟩ = some cs[i] := (hB.cl (by simp [hi])).cell
    have hst := run_store P w ⟨b, i, none⟩ v .plain hv
    have hfz : w.frozen? ⟨b, i, none⟩ = false := by simp [World.frozen?, hb']
    simp only [hcell, hfz, Bool.false_eq_true, if_false] at hst
    refine ⟨hst, ?_⟩
    unfold Bk
    simp only [World.setCell, Array.getElem?_modify, if_true, hb']
    simp
  obtain ⟨r0, B0⟩ := one w cs o v0 hB (by omega) h0
  obtain ⟨r1, B1⟩ := one _ _ (o + 1) v1 B0 (by simp; omega) h1
  refine runU (w' := (w.setCell ⟨b, o, none⟩ v0).setCell ⟨b, o + 1, none⟩ v1) ?_ (hk _ B1 (by simp [World.setCell]) ((Kp.set w ⟨b, o, none⟩ v0).trans (Kp.set _ ⟨b, o + 1, none⟩ v1) (fun x hx _ => hx)))
  have e0 : (⟨b, o, none⟩ : Addr).add 0 = ⟨b, o, none⟩ := rfl
  have e1 : (⟨b, o, none⟩ : Addr).add 1 = ⟨b, o + 1, none⟩ := add_off b o 1
  simp only [storeCells, Sem.run_bind, e0, r0, Result.andThen_ok, Nat.zero_add, e1, r1, Sem.run_pure]
end Go.Wx
namespace Go.Proofs.Ytbgiljognlbkhaa
open Go.Wx Lv

/-! ### orders -/
def rOd : Rd Order where
  sz := 3
  den _ cs x := cs = [.int .i64 x.low, .int .i64 x.add, .int .i64 x.high] ∧ I64 x.low ∧ I64 x.add ∧ I64 x.high
  len := by rintro _ cs x ⟨rfl, _⟩; rfl
  mono := by rintro _ _ cs x _ h; exact h
  one := by rintro _ cs x ⟨rfl, _⟩ u hu; simp at hu; rcases hu with rfl | rfl | rfl <;> rfl
theorem flatOd : ∀ (C C' : Mem) (cs : List Value) (x : Order), rOd.den C cs x → rOd.den C' cs x := fun _ _ _ _ h => h
theorem sl_od {C : Mem} {a : Option Addr} {l : List Order} (h : Sl rOd C a l) {i : Nat} {x : Order} (hi : l[i]? = some x) : ∃ b o, a = some ⟨b, o, none⟩ ∧ C b (o + i * 3 + 0) (.int .i64 x.low) ∧ C b (o + i * 3 + 1) (.int .i64 x.add) ∧ C b (o + i * 3 + 2) (.int .i64 x.high) ∧ I64 x.low ∧ I64 x.add ∧ I64 x.high := by
  obtain ⟨b, o, ha, hc⟩ := h.at (get_lt hi)
  obtain ⟨cs, ⟨rfl, h1, h2⟩, h5⟩ := hc i x hi
  exact ⟨b, o, ha, h5 0 _ rfl, h5 1 _ rfl, h5 2 _ rfl, h1, h2⟩
theorem Orders.sl {w : World} {N : Nat} {a : Option Addr} {l : List Order} (h : Orders N w.heap a l) (hl : l.length ≤ 1000) : Sl rOd (Old w) a l := by
  refine ⟨by omega, ?_⟩
  rcases h.1 with h0 | ⟨b, o, ha, _, hc⟩
  · exact .inl h0
  · refine .inr ⟨b, o, ha, fun i x hi => ?_⟩
    have hil := get_lt hi
    have e : l.getD i default = x := by simp [hi]
    refine ⟨[.int .i64 x.low, .int .i64 x.add, .int .i64 x.high], ⟨rfl, h.2 x (List.mem_of_getElem? hi)⟩, fun j v hj => ?_⟩
    match j with
    | 0 => simp at hj; subst hj; rw [← e]; exact hc i 0 hil (by omega)
    | 1 => simp at hj; subst hj; rw [← e]; exact hc i 1 hil (by omega)
    | 2 => simp at hj; subst hj; rw [← e]; exact hc i 2 hil (by omega)
    | j + 3 => simp at hj
theorem Sl.orders {C : Mem} {w : World} {a : Option Addr} {l : List Order} (h : Sl rOd C a l) (hS : Sub C w) : Orders w.heap.size w.heap a l := by
  refine ⟨?_, fun x hx => ?_⟩
  · rcases h.2 with h0 | ⟨b, o, ha, hc⟩
    · exact .inl h0
    · rcases Nat.eq_zero_or_pos l.length with h0 | h0
      · exact .inl h0
      have key : ∀ i j, i < l.length → j < 3 → Cl w.heap b (o + i * 3 + j) (.int .i64 (if j = 0 then (l.getD i default).low else if j = 1 then (l.getD i default).add else (l.getD i default).high)) := fun i j hi hj => by
        obtain ⟨cs, ⟨rfl, _⟩, h5⟩ := hc i l[i] (by simp)
        have e : l.getD i default = l[i] := by simp [hi]
        rw [e]
        match j, hj with
        | 0, _ => exact hS _ _ _ (h5 0 _ rfl)
        | 1, _ => exact hS _ _ _ (h5 1 _ rfl)
        | 2, _ => exact hS _ _ _ (h5 2 _ rfl)
      exact .inr ⟨b, o, ha, (key 0 0 h0 (by omega)).lt, key⟩
  · obtain ⟨i, hi⟩ := List.getElem?_of_mem hx
    obtain ⟨_, _, _, _, _, _, h1⟩ := sl_od h hi
    exact h1
/-- the first ones of a row -/
theorem Sl.pre {α : Type} {R : Rd α} {C : Mem} {a : Option Addr} {l m : List α} (h : Sl R C a (l ++ m)) : Sl R C a l := by
  refine ⟨by have := h.1; simp at this; omega, ?_⟩
  rcases h.2 with h0 | ⟨b, o, ha, hc⟩
  · exact .inl (by simp at h0; simp [h0.1])
  · exact .inr ⟨b, o, ha, fun i x hi => hc i x (by rw [List.getElem?_append_left (get_lt hi)]; exact hi)⟩

theorem neqOd_run (x y : Operand) (p q : Order) (w : World) : (do eqGuard .neq 37 x y (.agg #[.int .i64 p.low, .int .i64 p.add, .int .i64 p.high]) (.agg #[.int .i64 q.low, .int .i64 q.add, .int .i64 q.high]); binOp .neq 37 (.agg #[.int .i64 p.low, .int .i64 p.add, .int .i64 p.high]) (.agg #[.int .i64 q.low, .int .i64 q.add, .int .i64 q.high]) : Sem Value).run Try.prog w = .ok (.bool (!decide (p = q))) w := by
  have hfs : (Try.prog.fieldsOf 37).toList.map (fun f => (f.name != "_", f.offset, f.type)) = [(true, 0, 3), (true, 1, 3), (true, 2, 3)] := by kernel_rfl
  have hu : Try.prog.underlying 37 = some (.struct (Try.prog.fieldsOf 37)) := by kernel_rfl
  have hm : Try.prog.eqGuardType Try.prog.depth 37 = false := by kernel_rfl
  have hst : Try.prog.stoodInHeld 37 = false := by kernel_rfl
  simp only [Sem.run_bind, run_eqGuard_agg w .neq 37 x y _ _ hm, Result.andThen_ok, run_neq_struct]
  rw [show (10000 : Nat) = 9999 + 1 from rfl, run_equalIn_struct w 9999 37 _ _ hu hst]
  generalize (Try.prog.fieldsOf 37).toList = fs at hfs
  have hfl : fs.length = 3 := by have := congrArg List.length hfs; simpa using this
  match fs, hfl, hfs with
  | [f, g, h], _, hfs =>
    simp only [List.map_cons, List.map_nil, List.cons.injEq, Prod.mk.injEq, bne_iff_ne, ne_eq, and_true] at hfs
    obtain ⟨⟨n1, o1, t1⟩, ⟨n2, o2, t2⟩, n3, o3, t3⟩ := hfs
    have e1 : ∀ (a b : Int) (w : World), (Op.equalIn 9999 3 (.int .i64 a) (.int .i64 b)).run Try.prog w = .ok (a == b) w := fun a b w => by rw [show (9999 : Nat) = 9998 + 1 from rfl]; exact run_equalIn_int w 9998 3 .i64 .i64 a b Try.underlying3
    have p0 : ∀ (a b c : Value) (w : World), (part 3 #[a, b, c] 0).run Try.prog w = .ok a w := fun a b c w => by simp [part, isAgg, run_underlying Try.underlying3]
    have p1 : ∀ (a b c : Value) (w : World), (part 3 #[a, b, c] 1).run Try.prog w = .ok b w := fun a b c w => by simp [part, isAgg, run_underlying Try.underlying3]
    have p2 : ∀ (a b c : Value) (w : World), (part 3 #[a, b, c] 2).run Try.prog w = .ok c w := fun a b c w => by simp [part, isAgg, run_underlying Try.underlying3]
    obtain ⟨pv, pa, pc⟩ := p
    obtain ⟨qv, qa, qc⟩ := q
    by_cases h1 : pv = qv
    · subst h1
      by_cases h2 : pa = qa
      · subst h2
        by_cases h3 : pc = qc
        · subst h3
          simp [Op.eqFields, n1, n2, n3, o1, o2, o3, t1, t2, t3, p0, p1, p2, e1]
        · simp [Op.eqFields, n1, n2, n3, o1, o2, o3, t1, t2, t3, p0, p1, p2, e1, h3]
      · simp [Op.eqFields, n1, n2, n3, o1, o2, o3, t1, t2, t3, p0, p1, p2, e1, h2]
    · simp [Op.eqFields, n1, n2, n3, o1, o2, o3, t1, t2, t3, p0, p1, p2, e1, h1]

theorem LeastPost.two {vars : Int} {os : List Order} : ∃ (L : List Int) (E : Int), (L.length : Int) ≤ 1000 ∧
      (∀ w e w', LeastPost vars os w e w' → Kp [] w w' ∧ ∃ a c, e = .returned (.tuple #[.slice a L.length c, .int .i64 E]) ∧ Ints w'.heap.size w'.heap a L ∧ (L.length = 0 ∨ ∃ b, a = some ⟨b, 0, none⟩ ∧ w.heap.size ≤ b ∧ RowI w'.heap b L 3)) ∧
      (∀ w e w', LeastPostR vars os w e w' → ∃ a c, e = .returned (.tuple #[.slice a L.length c, .int .i64 E]) ∧ Ints w'.heap.size w'.heap a L ∧ Kp [] w w') := by
  unfold LeastPost LeastPostR
  cases hc : closedF vars os with
  | error n => exact ⟨[], n, by simp, fun w e w' ⟨h1, h2⟩ => ⟨h1, none, 0, h2, ⟨.inl rfl, by simp⟩, .inl rfl⟩, fun w e w' ⟨h1, h2⟩ => ⟨none, 0, h2, ⟨.inl rfl, by simp⟩, h1⟩⟩
  | ok g =>
    have hl : (leastL vars g).length ≤ 16 := by have := (closedF_ok hc).2.2.1; simp [leastL]; omega
    exact ⟨leastL vars g, 0, by omega, fun w e w' ⟨h1, b, h2, h3, h4⟩ => ⟨h1, some ⟨b, 0, none⟩, _, h2, ⟨.inr ⟨b, 0, rfl, h4.lt, fun i j hi hj => by rw [show j = 0 by omega]; exact RowI.cl h4 hi⟩, gap_i64 hc⟩, .inr ⟨b, rfl, h3, h4⟩⟩,
      fun w e w' ⟨h1, a, c, h2, h3⟩ => ⟨a, c, h2, h3, h1⟩⟩

set_option maxRecDepth 20000 in
theorem levelKeeps_ct (x : Ord5) (la lb : List Atom) (ao av aa ab : Option Addr) (co cv ca cb : Nat) (w : World) (ho : Orders w.heap.size w.heap ao x.list) (ha : Sl rAt (Old w) aa la) (hb : Sl rAt (Old w) ab lb) :
    Calls Try.prog 9 #[.slice aa la.length ca, .slice ab lb.length cb, .agg #[.int .i64 x.vars, .slice ao x.list.length co, .slice av x.vals.length cv, .int .i64 x.low, .int .i64 x.high]] w (fun e w' => e = .returned (.bool true) ∧ Kp [] w w') := by
  have hla := ha.1
  have hlb := hb.1
  refine calls_ev (args := [_, _, _]) 234 [.tmp 6] Try.func9 rfl rfl rfl (Nat.le_of_ble_eq_true rfl) ?_
  refine ev_seq τok ?_
  refine new fun b1 w1 hb1 hB1 hs1 hk1 => ?_
  have hB1 : Bk w1.heap b1 [.int .i64 x.vars, .slice ao x.list.length co, .slice av x.vals.length cv, .int .i64 x.low, .int .i64 x.high] 25 := hB1
  refine ev_seq τok ?_
  refine ev_call (awake_ct w1) ?_
  rintro e w2 ⟨rfl, hk2⟩
  have k02 := hk1.tr hk2
  have hB1 := hB1.kp hk2 (by simp)
  refine ev_seq τok ?_
  refine int64 (by omega) (by omega) ?_
  refine br_dec (fun g1 => ?_) (fun g1 => ?_)
  · exact ⟨rfl, k02⟩
  refine ld (hB1.cl rfl).cell ?_
  refine br_dec (fun g2 => ?_) (fun g2 => ?_)
  · exact ⟨rfl, k02⟩
  have l1 : la.length ≤ 50 := by omega
  have l2 : lb.length ≤ 50 := by omega
  have l3 : x.list.length ≤ 100 := by omega
  have hS := Old.sub w
  have hSo := Orders.sl ho (by omega)
  -- the row l
  refine ev_seq τok ?_
  refine fill [] rfl ?_
  refine new fun c1 w3 hc1 hC1 hs3 hk3 => ?_
  have hO3 : Own rAt 52 w2.heap.size w3 (.slice (some ⟨c1, 0, none⟩) 0 0) [] := Own.empty _ hC1 (by omega)
  refine hO3.apF τok rfl rfl (by decide) flatAt (hS.tr (k02.tr hk3)) la ha (by simp; omega) (by simp [maxLen]; omega) fun v4 w4 hO4 hk4 _ => ?_
  have k24 : Kp [] w2 w4 := hk3.own hk4 hO3
  refine fill [.int .i64 77, .int .i64 0] rfl ?_
  refine new fun c2 w5 hc2 hC2 hs5 hk5 => ?_
  refine (hO4.kp hk5).ap1 τok rfl rfl (by decide) ⟨77, 0⟩ [.int .i64 77, .int .i64 0] ⟨rfl, by unfold I64; simp only; omega, by unfold I64; simp only; omega⟩ (fun j u hj => by rw [Nat.zero_add]; exact hC2.cl hj) (by simp; omega) (by simp [maxLen]; omega) fun vl wl hOl hkl _ => ?_
  have k2l : Kp [] w2 wl := (k24.tr hk5).own hkl (hO4.kp hk5)
  rw [List.nil_append] at hOl
  have hB1 := hB1.kp k2l (by simp)
  have k0l := k02.tr k2l
  -- the row k
  refine ev_seq τok ?_
  refine fill [] rfl ?_
  refine new fun c3 w6 hc3 hC3 hs6 hk6 => ?_
  have hO6 : Own rAt 52 wl.heap.size w6 (.slice (some ⟨c3, 0, none⟩) 0 0) [] := Own.empty _ hC3 (by omega)
  refine hO6.apF τok rfl rfl (by decide) flatAt (hS.tr (k0l.tr hk6)) lb hb (by simp; omega) (by simp [maxLen]; omega) fun v7 w7 hO7 hk7 _ => ?_
  have kl7 : Kp [] wl w7 := hk6.own hk7 hO6
  refine fill [.int .i64 78, .int .i64 0] rfl ?_
  refine new fun c4 w8 hc4 hC4 hs8 hk8 => ?_
  refine (hO7.kp hk8).ap1 τok rfl rfl (by decide) ⟨78, 0⟩ [.int .i64 78, .int .i64 0] ⟨rfl, by unfold I64; simp only; omega, by unfold I64; simp only; omega⟩ (fun j u hj => by rw [Nat.zero_add]; exact hC4.cl hj) (by simp; omega) (by simp [maxLen]; omega) fun vk wk hOk hkk _ => ?_
  have klk : Kp [] wl wk := (kl7.tr hk8).own hkk (hO7.kp hk8)
  rw [List.nil_append] at hOk
  have hB1 := hB1.kp klk (by simp)
  have k0k := k0l.tr klk
  -- the row o
  refine ev_seq τok ?_
  refine fill [] rfl ?_
  refine new fun c5 w9 hc5 hC5 hs9 hk9 => ?_
  have hO9 : Own rOd 37 wk.heap.size w9 (.slice (some ⟨c5, 0, none⟩) 0 0) [] := Own.empty _ hC5 (by omega)
  refine ld ((hB1.kp hk9 (by simp)).cl rfl).cell ?_
  refine hO9.apF τok rfl rfl (by decide) flatOd (hS.tr (k0k.tr hk9)) x.list hSo (by simp; omega) (by simp [maxLen]; omega) fun v10 w10 hO10 hk10 _ => ?_
  have kk10 : Kp [] wk w10 := hk9.own hk10 hO9
  refine fill [.int .i64 79, .int .i64 0, .int .i64 0] rfl ?_
  refine new fun c6 w11 hc6 hC6 hs11 hk11 => ?_
  refine (hO10.kp hk11).ap1 τok rfl rfl (by decide) ⟨79, 0, 0⟩ [.int .i64 79, .int .i64 0, .int .i64 0] ⟨rfl, by unfold I64; simp only; omega, by unfold I64; simp only; omega, by unfold I64; simp only; omega⟩ (fun j u hj => by rw [Nat.zero_add]; exact hC6.cl hj) (by simp; omega) (by simp [maxLen]; omega) fun vo wo hOo hko _ => ?_
  have kko : Kp [] wk wo := (kk10.tr hk11).own hko (hO10.kp hk11)
  rw [List.nil_append] at hOo
  have hB1 := hB1.kp kko (by simp)
  have k0o := k0k.tr kko
  -- what is known from here on: all that stands at wo
  obtain ⟨al, cl, rfl, hcl⟩ := (hOl.kp (klk.tr kko)).cap
  obtain ⟨_, _, e1, hSl⟩ := (hOl.kp (klk.tr kko)).den (by simp; omega)
  cases e1
  obtain ⟨ak, ck, rfl, hck⟩ := (hOk.kp kko).cap
  obtain ⟨_, _, e1, hSk⟩ := (hOk.kp kko).den (by simp; omega)
  cases e1
  obtain ⟨aor, cor, rfl, hcor⟩ := hOo.cap
  obtain ⟨_, _, e1, hSor⟩ := hOo.den (by simp; omega)
  cases e1
  have up : ∀ n b o v, New n wo b o v → Old wo b o v := fun n b o v h => h.2.cl
  have hSl := hSl.mono (up _)
  have hSk := hSk.mono (up _)
  have hSor := hSor.mono (up _)
  have ha := ha.mono ((Old.sub w).tr k0o)
  have hb := hb.mono ((Old.sub w).tr k0o)
  have hSo := hSo.mono ((Old.sub w).tr k0o)
  clear hOl hOk hOo hO3 hO4 hO6 hO7 hO9 hO10 hkl hkk hko up
  have hW := Old.sub wo
  have hal : ∃ g o, al = some ⟨g, o, none⟩ := by
    rcases hSl.2 with h | ⟨b, o, h, _⟩
    · simp at h
    · exact ⟨b, o, h⟩
  have hak : ∃ g o, ak = some ⟨g, o, none⟩ := by
    rcases hSk.2 with h | ⟨b, o, h, _⟩
    · simp at h
    · exact ⟨b, o, h⟩
  have haor : ∃ g o, aor = some ⟨g, o, none⟩ := by
    rcases hSor.2 with h | ⟨b, o, h, _⟩
    · simp at h
    · exact ⟨b, o, h⟩
  obtain ⟨gl, ol, rfl⟩ := hal
  obtain ⟨gk, ok, rfl⟩ := hak
  obtain ⟨go', oo, rfl⟩ := haor
  have hnl : (la ++ [(⟨77, 0⟩ : Atom)]).length = la.length + 1 := by simp
  have hnk : (lb ++ [(⟨78, 0⟩ : Atom)]).length = lb.length + 1 := by simp
  have hno : (x.list ++ [(⟨79, 0, 0⟩ : Order)]).length = x.list.length + 1 := by simp
  have hPl : Sl rAt (Old wo) (some ⟨gl, ol, none⟩) la := Sl.pre hSl
  have hPk : Sl rAt (Old wo) (some ⟨gk, ok, none⟩) lb := Sl.pre hSk
  have hPo : Sl rOd (Old wo) (some ⟨go', oo, none⟩) x.list := Sl.pre hSor
  -- Max
  refine ev_seq τok ?_
  refine drawG τok (fun u => Kp [] wo u) ?_
  refine readsG τok [0, 1, 2, 3, 4, 5, 6, 7] 6 #[true, true, true, true, true, true, true, true, false, false, false, false, false, false] rfl rfl (by kernel_rfl) (by kernel_rfl) (by kernel_rfl) ((Kp.refl [] wo).dr _) ?_
  refine slcHQ τok rfl la.length _ rfl (by omega) sliced_hi ?_
  refine slcHQ τok rfl lb.length _ rfl (by omega) sliced_hi ?_
  refine nextG τok 8 5 #[true, true, true, true, true, true, true, true, true, false, false, false, false, false] rfl rfl rfl (by kernel_rfl) ?_
  refine ev_call (max_ct (hW.dr _) la lb _ _ cl ck hPl hPk) ?_
  rintro e wm ⟨am, cm, rfl, hm, hkm⟩
  have kom : Kp [] wo wm := hkm.rd
  refine ⟨.inl kom, ?_⟩
  refine readsG τok [9, 10, 11] 2 #[true, true, true, true, true, true, true, true, true, true, true, true, false, false] rfl rfl (by kernel_rfl) (by kernel_rfl) (by kernel_rfl) kom ?_
  refine nextG τok 12 1 #[true, true, true, true, true, true, true, true, true, true, true, true, true, false] rfl rfl rfl (by kernel_rfl) ?_
  refine ⟨.inl kom, ?_⟩
  refine nextG τok 13 0 #[true, true, true, true, true, true, true, true, true, true, true, true, true, true] rfl rfl rfl (by kernel_rfl) ?_
  refine ⟨.inl kom, ?_⟩
  refine doneG (by kernel_rfl) ?_
  have hm : Sl rAt (Old wm) am (maxR la lb) := hm.mono (fun b o v h => h.2.cl)
  obtain ⟨MR, hMR⟩ : ∃ r, maxR la lb = r := ⟨_, rfl⟩
  obtain ⟨ME, hME⟩ : ∃ r, maxE la lb = r := ⟨_, rfl⟩
  rw [hMR] at hm ⊢
  rw [hME]
  -- Up
  refine ev_seq τok ?_
  refine slcH' τok rfl la.length _ rfl (by omega) sliced_hi ?_
  refine ev_call (up_ct (hW.tr kom) la 1 _ cl hPl (by unfold I64; omega)) ?_
  rintro e wu ⟨au, cu, rfl, hu, hku⟩
  have kou := kom.tr hku
  have hBu := hB1.kp kou (by simp)
  have hub : (upR la 1).length = 0 ∨ ∃ g o cs T, au = some ⟨g, o, none⟩ ∧ wm.heap.size ≤ g ∧ Bk wu.heap g cs T ∧ o + (upR la 1).length * 2 ≤ cs.length := by
    rcases hu.2 with h0 | ⟨g, o, ha', hc⟩
    · exact .inl h0
    · rcases Nat.eq_zero_or_pos (upR la 1).length with h0 | h0
      · exact .inl h0
      obtain ⟨cs, ⟨rfl, _⟩, h5⟩ := hc ((upR la 1).length - 1) _ (List.getElem?_eq_getElem (by omega))
      obtain ⟨h6, c, T, h7, h8⟩ := h5 1 _ rfl
      have h9 := (Array.getElem?_eq_some_iff.1 h8).1
      refine .inr ⟨g, o, c.toList, T, ha', h6, by unfold Bk; simpa using h7, ?_⟩
      have : rAt.sz = 2 := rfl
      rw [this] at h9
      simp
      omega
  have hun : (upR la 1).length ≤ 100 := by
    have : (upR la 1).length ≤ la.length := by unfold upR; split <;> simp [upL]
    omega
  generalize upR la 1 = UR at *
  generalize upE la 1 = UE at *
  -- Under
  refine ev_seq τok ?_
  refine drawQ τok (fun w' => Kp [] wu w') (by kernel_rfl) ((Kp.refl [] wu).dr _) ?_
  refine ldK (hBu.cl rfl) ?_
  refine ldK (hBu.cl rfl) ?_
  refine slcHQ τok rfl x.list.length _ rfl (by omega) sliced_hi ?_
  refine slcHQ τok rfl la.length _ rfl (by omega) sliced_hi ?_
  refine slcHQ τok rfl lb.length _ rfl (by omega) sliced_hi ?_
  refine callK (fun u hu => under_ct x.vars x.list la lb _ _ _ cor cl ck u (Sl.orders hPo (hW.tr (kou.tr hu))) (Sl.atoms hPl (hW.tr (kou.tr hu))) (Sl.atoms hPk (hW.tr (kou.tr hu)))) ?_
  intro wv hkv
  have kov := kou.tr hkv
  have hBv := hB1.kp kov (by simp)
  obtain ⟨L, E, hLn, hT1, hT2⟩ := LeastPost.two (vars := x.vars) (os := x.list)
  -- Least
  refine ev_seq τok ?_
  refine drawG τok (fun u => Kp [] wv u) ?_
  refine readsG τok [0, 1, 2, 3, 4, 5, 6] 6 #[true, true, true, true, true, true, true, false, false, false, false, false, false] rfl rfl (by kernel_rfl) (by kernel_rfl) (by kernel_rfl) ((Kp.refl [] wv).dr _) ?_
  refine ldK (hBv.cl rfl) ?_
  refine ldK (hBv.cl rfl) ?_
  refine slcHQ τok rfl x.list.length _ rfl (by omega) sliced_hi ?_
  refine nextG τok 7 5 #[true, true, true, true, true, true, true, true, false, false, false, false, false] rfl rfl rfl (by kernel_rfl) ?_
  refine ev_call (least_ct x.vars x.list _ cor _ (Sl.orders hPo ((hW.tr kov).dr _))) ?_
  intro e wq hp
  obtain ⟨hkq, aL, cL, rfl, hL, hLb⟩ := hT1 _ _ _ hp
  have kvq : Kp [] wv wq := hkq.rd
  refine ⟨.inl kvq, ?_⟩
  refine readsG τok [8, 9, 10] 2 #[true, true, true, true, true, true, true, true, true, true, true, false, false] rfl rfl (by kernel_rfl) (by kernel_rfl) (by kernel_rfl) kvq ?_
  refine nextG τok 11 1 #[true, true, true, true, true, true, true, true, true, true, true, true, false] rfl rfl rfl (by kernel_rfl) ?_
  refine ⟨.inl kvq, ?_⟩
  refine nextG τok 12 0 #[true, true, true, true, true, true, true, true, true, true, true, true, true] rfl rfl rfl (by kernel_rfl) ?_
  refine ⟨.inl kvq, ?_⟩
  refine doneG (by kernel_rfl) ?_
  have kuq := hkv.tr kvq
  have kmq := hku.tr kuq
  have zuv := hkv.size
  have zvq := kvq.size
  have zmu := hku.size
  have hLb : L.length = 0 ∨ ∃ b, aL = some ⟨b, 0, none⟩ ∧ wu.heap.size ≤ b ∧ RowI wq.heap b L 3 := by
    rcases hLb with h | ⟨b, h1, h2, h3⟩
    · exact .inl h
    · have h2 : wv.heap.size ≤ b := h2
      exact .inr ⟨b, h1, by omega, h3⟩
  have hub : UR.length = 0 ∨ ∃ g o cs T, au = some ⟨g, o, none⟩ ∧ wm.heap.size ≤ g ∧ g < wu.heap.size ∧ Bk wq.heap g cs T ∧ o + UR.length * 2 ≤ cs.length := by
    rcases hub with h | ⟨g, o, cs, T, h1, h2, h3, h4⟩
    · exact .inl h
    · exact .inr ⟨g, o, cs, T, h1, h2, h3.lt, h3.kp kuq (by simp), h4⟩
  -- the rows that came are written over
  refine ev_mid τok (σ := Unit) (fun _ => [(0, .slice aa la.length ca), (1, .slice ab lb.length cb), (5, .pointer (some ⟨b1, 0, none⟩)), (7, .slice (some ⟨gl, ol, none⟩) (la ++ [(⟨77, 0⟩ : Atom)]).length cl), (8, .slice (some ⟨gk, ok, none⟩) (lb ++ [(⟨78, 0⟩ : Atom)]).length ck), (9, .slice (some ⟨go', oo, none⟩) (x.list ++ [(⟨79, 0, 0⟩ : Order)]).length cor), (10, .slice am MR.length cm), (11, .int .i64 ME), (14, .slice aL L.length cL), (15, .int .i64 E)]) (fun _ w' => Kp [] wm w' ∧ (L.length = 0 ∨ ∃ b, aL = some ⟨b, 0, none⟩ ∧ wu.heap.size ≤ b ∧ RowI w'.heap b L 3)) ?_ ?_
  · refine lp τok (σ := Nat) (fun i => [(0, .slice aa la.length ca), (1, .slice ab lb.length cb), (5, .pointer (some ⟨b1, 0, none⟩)), (7, .slice (some ⟨gl, ol, none⟩) (la ++ [(⟨77, 0⟩ : Atom)]).length cl), (8, .slice (some ⟨gk, ok, none⟩) (lb ++ [(⟨78, 0⟩ : Atom)]).length ck), (9, .slice (some ⟨go', oo, none⟩) (x.list ++ [(⟨79, 0, 0⟩ : Order)]).length cor), (10, .slice am MR.length cm), (11, .int .i64 ME), (14, .slice aL L.length cL), (15, .int .i64 E), (12, .slice au UR.length cu), (16, .int .i64 i)])
      (fun i w' => i ≤ UR.length ∧ Kp [] wm w' ∧ (L.length = 0 ∨ ∃ b, aL = some ⟨b, 0, none⟩ ∧ wu.heap.size ≤ b ∧ RowI w'.heap b L 3) ∧ (UR.length = 0 ∨ ∃ g o cs T, au = some ⟨g, o, none⟩ ∧ wm.heap.size ≤ g ∧ g < wu.heap.size ∧ Bk w'.heap g cs T ∧ o + UR.length * 2 ≤ cs.length)) (fun i => UR.length - i) 0 rfl
      ⟨rfl, rfl, rfl, rfl, rfl, rfl, rfl, rfl, rfl, rfl, rfl, rfl, trivial⟩ ⟨Nat.zero_le _, kmq, hLb, hub⟩ ?_
    rintro i w3 ⟨hi, hk3, hL3, hu3⟩
    refine br_dec (fun g => ?_) (fun g => ?_)
    · have hlt : i < UR.length := by omega
      rcases hu3 with h0 | ⟨g, o, cs, T, rfl, q1, q2, q3, q4⟩
      · omega
      refine ix i rfl hlt ?_
      refine st2 q3 (by omega) rfl rfl fun w4 hB4 hs4 hk4 => ?_
      refine int64 (by omega) (by omega) ?_
      refine ⟨i + 1, by omega, rfl, ⟨rfl, rfl, rfl, rfl, rfl, rfl, rfl, rfl, rfl, rfl, rfl, rfl, trivial⟩, hlt, hk3.trans hk4 (fun y hy hl => by simp at hy; omega), ?_, .inr ⟨g, o, _, T, rfl, q1, q2, hB4, by simpa using q4⟩⟩
      rcases hL3 with h | ⟨b, h1, h2, h3⟩
      · exact .inl h
      · exact .inr ⟨b, h1, h2, h3.kp hk4 (by simp; omega)⟩
    · exact ⟨(), rfl, ⟨rfl, rfl, rfl, rfl, rfl, rfl, rfl, rfl, rfl, rfl, trivial⟩, hk3, hL3⟩
  rintro _ w5 ⟨hk5, hL5⟩
  refine ev_mid τok (σ := Unit) (fun _ => [(0, .slice aa la.length ca), (1, .slice ab lb.length cb), (5, .pointer (some ⟨b1, 0, none⟩)), (7, .slice (some ⟨gl, ol, none⟩) (la ++ [(⟨77, 0⟩ : Atom)]).length cl), (8, .slice (some ⟨gk, ok, none⟩) (lb ++ [(⟨78, 0⟩ : Atom)]).length ck), (9, .slice (some ⟨go', oo, none⟩) (x.list ++ [(⟨79, 0, 0⟩ : Order)]).length cor), (10, .slice am MR.length cm), (11, .int .i64 ME), (15, .int .i64 E)]) (fun _ w' => Kp [] wm w') ?_ ?_
  · refine lp τok (σ := Nat) (fun i => [(0, .slice aa la.length ca), (1, .slice ab lb.length cb), (5, .pointer (some ⟨b1, 0, none⟩)), (7, .slice (some ⟨gl, ol, none⟩) (la ++ [(⟨77, 0⟩ : Atom)]).length cl), (8, .slice (some ⟨gk, ok, none⟩) (lb ++ [(⟨78, 0⟩ : Atom)]).length ck), (9, .slice (some ⟨go', oo, none⟩) (x.list ++ [(⟨79, 0, 0⟩ : Order)]).length cor), (10, .slice am MR.length cm), (11, .int .i64 ME), (14, .slice aL L.length cL), (15, .int .i64 E), (17, .int .i64 i)])
      (fun i w' => i ≤ L.length ∧ Kp [] wm w' ∧ (L.length = 0 ∨ ∃ b M, aL = some ⟨b, 0, none⟩ ∧ wu.heap.size ≤ b ∧ RowI w'.heap b M 3 ∧ M.length = L.length)) (fun i => L.length - i) 0 rfl
      ⟨rfl, rfl, rfl, rfl, rfl, rfl, rfl, rfl, rfl, rfl, rfl, trivial⟩ ⟨Nat.zero_le _, hk5, hL5.imp id fun ⟨b, h1, h2, h3⟩ => ⟨b, L, h1, h2, h3, rfl⟩⟩ ?_
    rintro i w3 ⟨hi, hk3, hL3⟩
    refine br_dec (fun g => ?_) (fun g => ?_)
    · have hlt : i < L.length := by omega
      rcases hL3 with h0 | ⟨b, M, rfl, q1, q2, q3⟩
      · omega
      refine ix i rfl hlt ?_
      refine stI q2 (by omega) fun w4 hB4 hs4 hk4 => ?_
      refine int64 (by omega) (by omega) ?_
      exact ⟨i + 1, by omega, rfl, ⟨rfl, rfl, rfl, rfl, rfl, rfl, rfl, rfl, rfl, rfl, rfl, trivial⟩, hlt, hk3.trans hk4 (fun y hy hl => by simp at hy; omega), .inr ⟨b, _, rfl, q1, hB4, by simpa using q3⟩⟩
    · exact ⟨(), rfl, ⟨rfl, rfl, rfl, rfl, rfl, rfl, rfl, rfl, rfl, trivial⟩, hk3⟩
  rintro _ w6 hk6
  have ko6 := kom.tr hk6
  have hB6 := hB1.kp ko6 (by simp)
  have hW6 := hW.tr ko6
  -- the reference's Max
  refine ev_seq τok ?_
  refine ev_call (maxRef_ct hW6 la lb aa ab ca cb ha hb) ?_
  rintro e w7 ⟨an, cn, rfl, hn, hk7⟩
  rw [hMR] at hn ⊢
  rw [hME]
  have S : ∀ {u : World} {C D : Mem} (l : List Atom) (p q : Option Addr) (cp cq : Nat), Sub C u → Sub D u → Sl rAt C p l → Sl rAt D q l → CallOk Try.prog 29 ∧ Calls Try.prog 29 #[.slice p l.length cp, .slice q l.length cq] u (fun e w' => e = .returned (.bool true) ∧ Kp [] u w') := fun {u C D} l p q cp cq h1 h2 h3 h4 => by
    have := same_at h1 h2 l l p q cp cq h3 h4
    rwa [decide_eq_true rfl] at this
  have km7 := hk6.tr hk7
  have ko7 := kom.tr km7
  have hB7 := hB1.kp ko7 (by simp)
  refine ev_seq τok ?_
  refine br_dec (fun q => absurd rfl q) (fun _ => ?_)
  refine ev_call (S MR am an cm cn ((Old.sub wm).tr km7) (New.sub _ w7) hm hn) ?_
  rintro e w8 ⟨rfl, hk8⟩
  have ko8 := ko7.tr hk8
  refine slcH' τok rfl la.length _ rfl (by omega) sliced_hi ?_
  refine ev_call (S la _ aa cl ca (hW.tr ko8) (hW.tr ko8) hPl ha) ?_
  rintro e w9 ⟨rfl, hk9⟩
  have ko9 := ko8.tr hk9
  refine slcH' τok rfl lb.length _ rfl (by omega) sliced_hi ?_
  refine ev_call (S lb _ ab ck cb (hW.tr ko9) (hW.tr ko9) hPk hb) ?_
  rintro e w10 ⟨rfl, hk10⟩
  have ko10 := ko9.tr hk10
  have hW10 := hW.tr ko10
  have hB10 := hB1.kp ko10 (by simp)
  obtain ⟨_, _, el, hl0, _, _, _⟩ := sl_at hSl (i := la.length) (x := ⟨77, 0⟩) (by simp)
  cases el
  obtain ⟨_, _, ek, hk0, _, _, _⟩ := sl_at hSk (i := lb.length) (x := ⟨78, 0⟩) (by simp)
  cases ek
  obtain ⟨_, _, eo, ho0, _, _, _⟩ := sl_od hSor (i := x.list.length) (x := ⟨79, 0, 0⟩) (by simp)
  cases eo
  refine ix la.length rfl (by omega) ?_
  refine ldC hW10 hl0 ?_
  refine ix lb.length rfl (by omega) ?_
  refine ldC hW10 hk0 ?_
  refine ld (hB10.cl rfl).cell ?_
  refine ix x.list.length rfl (by omega) ?_
  refine ldC hW10 ho0 ?_
  -- the orders stand
  refine ev_mid τok (σ := Unit) (fun _ => [(5, .pointer (some ⟨b1, 0, none⟩)), (9, .slice (some ⟨go', oo, none⟩) (x.list ++ [(⟨79, 0, 0⟩ : Order)]).length cor), (15, .int .i64 E)]) (fun _ w' => Kp [] w10 w') ?_ ?_
  · refine lp τok (σ := Nat) (fun i => [(5, .pointer (some ⟨b1, 0, none⟩)), (9, .slice (some ⟨go', oo, none⟩) (x.list ++ [(⟨79, 0, 0⟩ : Order)]).length cor), (15, .int .i64 E), (20, .int .i64 i)])
      (fun i w' => i ≤ x.list.length ∧ Kp [] w10 w') (fun i => x.list.length - i) 0 rfl ⟨rfl, rfl, rfl, rfl, trivial⟩ ⟨Nat.zero_le _, Kp.refl _ _⟩ ?_
    rintro i w3 ⟨hi, hk3⟩
    have hB3 := hB10.kp hk3 (by simp)
    have hW3 := hW10.tr hk3
    refine ld (hB3.cl rfl).cell ?_
    refine br_dec (fun g => ?_) (fun g => ?_)
    · have hlt : i < x.list.length := by omega
      obtain ⟨y, hy, _⟩ := drop_get hlt
      obtain ⟨_, _, e1, p0, p1, p2, _⟩ := sl_od hPo hy
      cases e1
      obtain ⟨g2, o2, rfl, r0, r1, r2, _⟩ := sl_od hSo hy
      refine drawQ τok (fun w' => Kp [] w3 w') (by kernel_rfl) ((Kp.refl [] w3).dr _) ?_
      refine ix i rfl (by omega) ?_
      refine ldNK [.int .i64 y.low, .int .i64 y.add, .int .i64 y.high] rfl (at3 (hW3 _ _ _ p0) (hW3 _ _ _ p1) (hW3 _ _ _ p2)) ?_
      refine ldK (hB3.cl rfl) ?_
      refine ix i rfl hlt ?_
      refine ldNK [.int .i64 y.low, .int .i64 y.add, .int .i64 y.high] rfl (at3 (hW3 _ _ _ r0) (hW3 _ _ _ r1) (hW3 _ _ _ r2)) ?_
      refine runQ (v := .bool (!decide (y = y))) (fun w _ => neqOd_run _ _ y y w) ?_
      rw [decide_eq_true rfl]
      intro w4 hk4
      refine int64 (by omega) (by omega) ?_
      exact ⟨i + 1, by omega, rfl, ⟨rfl, rfl, rfl, rfl, trivial⟩, hlt, hk3.tr hk4⟩
    · exact ⟨(), rfl, ⟨rfl, rfl, rfl, trivial⟩, hk3⟩
  rintro _ w11' hk11'
  have ko11 := ko10.tr hk11'
  have hB11 := hB1.kp ko11 (by simp)
  have hW11 := hW.tr ko11
  -- Least again
  refine ev_seq τok ?_
  refine drawG τok (fun u => Kp [] w11' u) ?_
  refine readsG τok [0, 1, 2, 3, 4, 5, 6] 6 #[true, true, true, true, true, true, true, false, false, false, false, false, false] rfl rfl (by kernel_rfl) (by kernel_rfl) (by kernel_rfl) ((Kp.refl [] w11').dr _) ?_
  refine ldK (hB11.cl rfl) ?_
  refine ldK (hB11.cl rfl) ?_
  refine slcHQ τok rfl x.list.length _ rfl (by omega) sliced_hi ?_
  refine nextG τok 7 5 #[true, true, true, true, true, true, true, true, false, false, false, false, false] rfl rfl rfl (by kernel_rfl) ?_
  refine ev_call (least_ct x.vars x.list _ cor _ (Sl.orders hPo (hW11.dr _))) ?_
  intro e w12 hp2
  obtain ⟨hk12', aL2, cL2, rfl, hL2, _⟩ := hT1 _ _ _ hp2
  have hk12 : Kp [] w11' w12 := hk12'.rd
  refine ⟨.inl hk12, ?_⟩
  refine readsG τok [8, 9, 10] 2 #[true, true, true, true, true, true, true, true, true, true, true, false, false] rfl rfl (by kernel_rfl) (by kernel_rfl) (by kernel_rfl) hk12 ?_
  refine nextG τok 11 1 #[true, true, true, true, true, true, true, true, true, true, true, true, false] rfl rfl rfl (by kernel_rfl) ?_
  refine ⟨.inl hk12, ?_⟩
  refine nextG τok 12 0 #[true, true, true, true, true, true, true, true, true, true, true, true, true] rfl rfl rfl (by kernel_rfl) ?_
  refine ⟨.inl hk12, ?_⟩
  refine doneG (by kernel_rfl) ?_
  have ko12 := ko11.tr hk12
  have hB12 := hB1.kp ko12 (by simp)
  refine ev_seq τok ?_
  refine ld (hB12.cl rfl).cell ?_
  refine ld (hB12.cl rfl).cell ?_
  refine ev_call (leastR_ct x.vars x.list ao co w12 (Sl.orders hSo (hW.tr ko12))) ?_
  intro e w13 hp3
  obtain ⟨aL3, cL3, rfl, hL3, hk13⟩ := hT2 _ _ _ hp3
  have ko13 := ko12.tr hk13
  refine ev_of τok ?_
  refine br_dec (fun _ => ?_) (fun q => absurd rfl q)
  refine br_dec (fun _ => ?_) (fun q => absurd rfl q)
  refine ev_call (same_ct L L aL2 aL3 cL2 cL3 w13 (hL2.kp hk13 hk13.size) hL3 (by omega)) ?_
  rintro e w14 ⟨rfl, hk14⟩
  exact ⟨by simp [Go.Wx.one], k0o.tr (ko13.tr hk14)⟩
end Go.Proofs.Ytbgiljognlbkhaa
