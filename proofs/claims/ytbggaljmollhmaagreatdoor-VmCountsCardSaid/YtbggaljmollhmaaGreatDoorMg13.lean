/-
  Own texts put together: VcL, VcN, VcO, VcP, VcQ, VcR, VcS, VcT.
-/
import Derived.Test.YtbggaljmollhmaaGreatDoorMg12
/-
  A function with one deferred closure; run's closure.
-/
set_option linter.unusedSimpArgs false
set_option linter.unusedVariables false
namespace Go.Proofs.YtbggaljmollhmaaGreatDoor
open Go.Wx Nm Vm Vc Cd

/-- what is asked where one deferred call is still to be made -/
def lv (P : Program) (rs : List ResultVar) (R : Ending → World → Prop) (u : FrameMode) (s : St) (w : World) : Prop :=
  ∃ fv cap dargs f args, s.d = [{ target := .fn fv cap, args := dargs }] ∧ u ≠ .run ∧ (invoke (.fn fv cap) dargs).run P w = .ok (.enter f args) w ∧
    CallsD P f args u w fun e u' w' => (∃ v, e = .returned v) ∧ settle u' = .returning ∧ resK P s rs w' fun vs => R (.returned (one vs)) w'
def fnKD (P : Program) (rs : List ResultVar) (R : Ending → World → Prop) : Exit → St → World → Prop
  | .normal, s, w => lv P rs R .returning s w
  | .ret, s, w => lv P rs R .returning s w
  | .panic ch, s, w => lv P rs R (.panicking ch) s w
  | _, _, _ => False
theorem lv_leaves {P : Program} {fn : Func} {R : Ending → World → Prop} {u : FrameMode} {s : St} {w : World} {a : Act} {n : Nat} (hF : Fr n a s) (h : lv P fn.results.toList R u s w) : Leaves P fn a.tmps R a.defers u w := by
  obtain ⟨fv, cap, dargs, f, args, hd, hu, hi, hc⟩ := h
  rw [hF.defers, hd]
  refine leaves_cons hu hi (hc.mono ?_)
  rintro e u' w' ⟨⟨v, rfl⟩, hset, hr⟩
  obtain ⟨vs, h1, h2⟩ := results_run hF hr
  simp only [hset]
  exact ⟨_, h1, h2⟩
theorem calls_of_d {P : Program} {τ : Tau} {f : FuncId} {fn : Func} {c : Code} {args : List Value} {w : World} {R : Ending → World → Prop} (n : Nat) (rs : List ResultVar) (hτ : TauOk P τ)
    (hf : P.funcs[f]? = some fn) (hb : fn.body = some c) (hn : fn.ntmps = n) (hrs : fn.results.toList = rs) (hle : args.length ≤ n)
    (h : wpx P τ n c ⟨ini args 0, []⟩ w (fnKD P rs R)) : Calls P f args.toArray w R := by
  subst hn hrs
  refine calls_of_wp_defers hf hb ?_
  have hF : Fr fn.ntmps { tmps := args.toArray ++ Array.replicate (fn.ntmps - args.toArray.size) undef, defers := [] } ⟨ini args 0, []⟩ := by
    refine ⟨by simp; omega, rfl, fun t v ht => ?_⟩
    obtain ⟨_, h2⟩ := get_ini _ _ _ _ ht
    rw [Nat.sub_zero] at h2
    have hlt : t < args.length := (List.getElem?_eq_some_iff.1 h2).1
    rw [Array.getElem?_append_left (by simpa using hlt)]
    simpa using h2
  refine Go.wp_mono (wpx_sound hτ c _ w _ h _ hF) fun e a' w' hl => ?_
  obtain ⟨s, hF', hs⟩ := hl
  cases e with
  | normal => exact lv_leaves hF' hs
  | ret => exact lv_leaves hF' hs
  | panic ch => exact lv_leaves hF' hs
  | outgrown => exact hs.elim
  | exit id => exact hs.elim
  | goto l => exact hs.elim

theorem get_mem : ∀ {l : List (Nat × Value)} {t : Nat} {v : Value}, get l t = some v → (t, v) ∈ l
  | [], t, v, h => by simp [get_nil] at h
  | (i, u) :: r, t, v, h => by
    simp only [get_cons] at h
    cases hb : Nat.beq i t with
    | true =>
      rw [hb] at h
      have e := Nat.eq_of_beq_eq_true hb
      subst e
      have : u = v := by simpa using h
      subst this
      exact List.mem_cons_self
    | false =>
      rw [hb] at h
      exact List.mem_cons_of_mem _ (get_mem h)
theorem fr_of {n : Nat} {a : Act} {l : List (Nat × Value)} (h1 : a.tmps.size = n) (h2 : a.defers = []) (h : ∀ q ∈ l, a.tmps[q.1]? = some q.2) : Fr n a ⟨l, []⟩ :=
  ⟨h1, h2, fun t v ht => h _ (get_mem ht)⟩
theorem spost {P : Program} {fn : Func} {c₀ : Frame} {cs : List Frame} {R : Ending → FrameMode → World → Prop} {u : FrameMode} {n : Nat} {a : Act} {s : St} {w : World} (hF : Fr n a s) (hd : s.d = []) (hr : fn.results = #[]) (hu : c₀.mode = u) (h : R (.returned (.tuple #[])) u w) :
    bodyPostS P fn c₀ cs R .normal a (c₀ :: cs) w := by
  refine ⟨hF.defers.trans hd, u, ?_, .tuple #[], ?_, h⟩
  · subst hu; rfl
  · simp [results, hr]
/-- run's closure where nothing has panicked -/
theorem idle_ct (bx bo : Nat) (w : World) :
    CallsD Tryz.prog 63 #[.pointer (some ⟨bx, 0, none⟩), .pointer (some ⟨bo, 0, none⟩)] .returning w fun e u' w' => (∃ v, e = .returned v) ∧ u' = .returning ∧ Kp [] w w' := by
  refine callsD_of_wpS Tryz.func63 rfl fun c₀ cs hu => ?_
  apply wpS_seq
  apply wpS_region
  simp [wpOpsS, go_sem, recoverD, hu, Exit.thenS, Instr.typeAssert, Tryz.underlying135, Tryz.zeroValue135]
  refine wpS_of_wp (Go.wp_mono (wpx_sound τok (n := 21) _ ⟨[(0, .pointer (some ⟨bx, 0, none⟩)), (1, .pointer (some ⟨bo, 0, none⟩)), (2, .pointer (some ⟨w.heap.size, 0, none⟩)), (3, .bool false)], []⟩ _ (fun e s w' => e = .normal ∧ s.d = [] ∧ Kp [] w w') ?_ _ (fr_of (by simp) rfl ?_)) ?_)
  · exact ⟨rfl, rfl, Kp.alloc _ _⟩
  · intro q hq
    simp only [List.mem_cons, List.not_mem_nil, or_false] at hq
    rcases hq with rfl | rfl | rfl | rfl <;> simp
  · rintro e a' w' ⟨s, hF, rfl, hd, hk⟩
    exact spost hF hd rfl hu ⟨⟨_, rfl⟩, rfl, hk⟩
theorem spost2 {P : Program} {fn : Func} {c₀ : Frame} {cs : List Frame} {R : Ending → FrameMode → World → Prop} {u : FrameMode} {n : Nat} {a : Act} {s : St} {w : World} (hF : Fr n a s) (hd : s.d = []) (hr : fn.results = #[]) (h : R (.returned (.tuple #[])) u w) :
    bodyPostS P fn c₀ cs R .normal a ({ c₀ with mode := u } :: cs) w := by
  refine ⟨hF.defers.trans hd, u, rfl, .tuple #[], ?_, h⟩
  simp [results, hr]
/-- what is asked of the world behind the closure -/
def Caught (bo : Nat) (p : Pm) (kd rs : Nat) (w w' : World) : Prop :=
  Bk w'.heap bo [.int .i64 (kd : Int), .int .i64 (rs : Int), .slice none 0 0, .int .i64 p.steps, .int .i64 0, .int .i64 p.most] 36 ∧ Kp [bo] w w'
/-- run's closure where the machine stopped -/
theorem catch_ct {lo : Nat} {w : World} {p : Pm} (h : Mi lo w p) {bx bo Tx : Nat} {co : List Value} (hx : Bk w.heap bx [.pointer (some ⟨p.bm, 0, none⟩)] Tx) (ho : Bk w.heap bo co 36) (hlo : co.length = 6) (kd rs : Nat) :
    CallsD Tryz.prog 63 #[.pointer (some ⟨bx, 0, none⟩), .pointer (some ⟨bo, 0, none⟩)] (.panicking [{ v := .iface 135 (.agg #[.int .i64 (kd : Int), .int .i64 (rs : Int)]), recovered := false }]) w fun e u' w' => (∃ v, e = .returned v) ∧ settle u' = .returning ∧ Caught bo p kd rs w w' := by
  refine callsD_of_wpS Tryz.func63 rfl fun c₀ cs hu => ?_
  apply wpS_seq
  apply wpS_region
  simp [wpOpsS, go_sem, recoverD, hu, Exit.thenS, Instr.typeAssert, Tryz.underlying135, Tryz.zeroValue135]
  refine wpS_of_wp (Go.wp_mono (wpx_sound τok (n := 21) _ ⟨[(0, .pointer (some ⟨bx, 0, none⟩)), (1, .pointer (some ⟨bo, 0, none⟩)), (2, .pointer (some ⟨w.heap.size, 0, none⟩)), (3, .bool true)], []⟩ _ (fun e s w' => e = .normal ∧ s.d = [] ∧ Caught bo p kd rs w w') ?_ _ (fr_of (by simp) rfl ?_)) ?_)
  · have hk1 : Kp [] w (w.alloc (Obj.cells #[Value.int IntKind.i64 kd, Value.int IntKind.i64 rs] 135)) := Kp.alloc _ _
    have hB2 : Bk (w.alloc (Obj.cells #[Value.int IntKind.i64 kd, Value.int IntKind.i64 rs] 135)).heap w.heap.size [.int .i64 (kd : Int), .int .i64 (rs : Int)] 135 := by
      show (w.heap.push _)[_]? = _
      simp
    obtain ⟨w1, hw1⟩ : ∃ w1, w1 = w.alloc (Obj.cells #[Value.int IntKind.i64 kd, Value.int IntKind.i64 rs] 135) := ⟨_, rfl⟩
    obtain ⟨b2, hb2⟩ : ∃ b2, b2 = w.heap.size := ⟨_, rfl⟩
    rw [← hw1] at hk1 hB2 ⊢
    rw [← hb2] at hB2 ⊢
    have hx1 := hx.kp hk1 (by simp)
    have ho1 := ho.kp hk1 (by simp)
    have h1 := h.k0 hk1
    have hbo := ho.lt
    refine ld (hx1.cl rfl).cell ?_
    refine ldN [.int .i64 p.kind, .int .i64 0, p.vv, .int .i64 p.steps, .int .i64 0, .int .i64 p.most] rfl (fun j v hj => ?_) ?_
    · refine h1.m.cl ?_
      match j with
      | 0 | 1 | 2 | 3 | 4 | 5 => simpa [Pm.cells] using hj
      | j + 6 => simp at hj
    refine stN ho1 (by rw [hlo]; rfl) (by
      intro v hv
      simp only [List.mem_cons, List.not_mem_nil, or_false] at hv
      rcases hv with rfl | rfl | rfl | rfl | rfl | rfl
      · rfl
      · rfl
      · exact h.one
      · rfl
      · rfl
      · rfl) fun w2 ho2 hs2 hk2 => ?_
    have hne : b2 ≠ bo := by omega
    have hB22 := hB2.kp hk2 (by simpa using hne)
    refine drawV τok (fun z => Bk z.heap b2 [.int .i64 (kd : Int), .int .i64 (rs : Int)] 135) ?_
    refine readsV τok [0, 1, 2, 3, 4] 5 #[true, true, true, true, true, false, false, false, false, false] rfl rfl (by kernel_rfl) (by kernel_rfl) (by kernel_rfl) hB22 ?_
    refine ldQ (fun z hz => hz.cl rfl) ?_
    refine ldQ (fun z hz => hz.cl rfl) ?_
    refine nextV τok 5 4 #[true, true, true, true, true, true, false, false, false, false] rfl rfl rfl (by kernel_rfl) ?_
    refine st (b := bo) (o := 0) ho2 (by simp) rfl fun w3 ho3 hs3 hk3 => ?_
    have hk3 : Kp [bo] w2 w3 := hk3.rd
    have hB23 := hB22.kp hk3 (by simpa using hne)
    refine ⟨.inl hB23, ?_⟩
    refine nextV τok 6 3 #[true, true, true, true, true, true, true, false, false, false] rfl rfl rfl (by kernel_rfl) ?_
    refine ⟨.inl hB23, ?_⟩
    refine nextV τok 7 2 #[true, true, true, true, true, true, true, true, false, false] rfl rfl rfl (by kernel_rfl) ?_
    refine st (b := bo) (o := 1) ho3 (by simp) rfl fun w4 ho4 hs4 hk4 => ?_
    have hB24 := hB23.kp hk4 (by simpa using hne)
    refine ⟨.inl hB24, ?_⟩
    refine nextV τok 8 1 #[true, true, true, true, true, true, true, true, true, false] rfl rfl rfl (by kernel_rfl) ?_
    refine ⟨.inl hB24, ?_⟩
    refine nextV τok 9 0 #[true, true, true, true, true, true, true, true, true, true] rfl rfl rfl (by kernel_rfl) ?_
    refine st (b := bo) (o := 2) ho4 (by simp) rfl fun w5 ho5 hs5 hk5 => ?_
    refine ⟨.inr (by kernel_rfl), ?_⟩
    refine doneV (by kernel_rfl) ?_
    refine ⟨rfl, rfl, ho5, ?_⟩
    exact (((((hk1.weak (by simp)).trans hk2 (fun x hx _ => hx))).trans hk3 (fun x hx _ => hx)).trans hk4 (fun x hx _ => hx)).trans hk5 (fun x hx _ => hx)
  · intro q hq
    simp only [List.mem_cons, List.not_mem_nil, or_false] at hq
    rcases hq with rfl | rfl | rfl | rfl <;> simp
  · rintro e a' w' ⟨s, hF, rfl, hd, hk⟩
    exact spost2 hF hd rfl ⟨⟨_, rfl⟩, rfl, hk⟩
end Go.Proofs.YtbggaljmollhmaaGreatDoor

/-
  Package vm at numbers: run.
-/
set_option linter.unusedSimpArgs false
set_option linter.unusedVariables false
namespace Go.Proofs.YtbggaljmollhmaaGreatDoor
open Go.Wx Nm Vm Vc Cd
/-- a loop in a function that has deferred calls to make -/
theorem lpD {P : Program} {τ : Tau} {n : Nat} {c : Code} {s : St} {w : World} {K : Exit → St → World → Prop} (hτ : TauOk P τ) {σ : Type} (d : List Deferred) (I : σ → List (Nat × Value)) (R : σ → World → Prop) (μ : σ → Nat) (x0 : σ)
    (hd : s.d = d) (h0 : Has s (I x0)) (hR : R x0 w)
    (round : ∀ x w, R x w → wpx P τ n c ⟨I x, d⟩ w (thenK (fun s' w' => ∃ y, μ y < μ x ∧ s'.d = d ∧ Has s' (I y) ∧ R y w') K)) : EvCode P n (.loop c) s w K := by
  unfold EvCode
  intro a hF
  have hex : ∀ a' s', Fr n a' s' → s'.d = d → ∀ y, Has s' (I y) → Fr n a' ⟨I y, d⟩ := fun a' s' hF' hd y hy =>
    ⟨hF'.size, by rw [hF'.defers, hd], fun t v hv => hF'.has t v (hy.get t v hv)⟩
  refine wp_loop_ghost (fun y a w => Fr n a ⟨I y, d⟩ ∧ R y w) μ x0 ⟨hex a s hF hd x0 h0, hR⟩ ?_
  intro y a w ⟨hFy, hRy⟩
  refine Go.wp_mono (wpx_sound hτ _ _ _ _ (round y w hRy) a hFy) fun e a' w' hl => ?_
  obtain ⟨s', hF', hs⟩ := hl
  cases e with
  | normal =>
    obtain ⟨z, hlt, hd, hz, hRz⟩ := hs
    exact ⟨z, ⟨hex a' s' hF' hd z hz, hRz⟩, hlt⟩
  | exit id => exact ⟨s', hF', hs⟩
  | goto l => exact ⟨s', hF', hs⟩
  | ret => exact ⟨s', hF', hs⟩
  | panic ch => exact ⟨s', hF', hs⟩
  | outgrown => exact ⟨s', hF', hs⟩
section
variable {lo : Nat} {w : World} {p : Pm} {C : Mem}
/-- what the steps do, one after another -/
def StepsBy (C : Mem) (lo N : Nat) (I : Nat → Pm → Prop) : Prop :=
  ∀ k w q, k < N → Sub C w → Mi lo w q → I k q → CallOk Tryz.prog 64 ∧ Calls Tryz.prog 64 #[.pointer (some ⟨q.bm, 0, none⟩)] w (fun e w' => e = .returned (.bool (decide (k + 1 < N))) ∧ ∃ q', Did lo w w' q q' ∧ Sm q' q ∧ I (k + 1) q')
def Stays (I : Nat → Pm → Prop) : Prop := ∀ k q f s, I k q → I k { q with fuel := f, steps := s }
theorem Did.bk {w' : World} {p' : Pm} (d : Did lo w w' p p') {b T : Nat} {cs : List Value} (hb : Bk w.heap b cs T) (ho : Off p b) : Bk w'.heap b cs T := by
  have := d.kp b hb.lt ho
  unfold Bk at hb ⊢
  rw [this]
  exact hb
theorem Did.sub {w' : World} {p' : Pm} (h : Mi lo w p) (d : Did lo w w' p p') (hC : Sub C w) (hCo : ∀ b o v, C b o v → b < lo) : Sub C w' := fun b o v hc => by
  obtain ⟨c, T, f, e1, e2⟩ := hC b o v hc
  have hlt : b < w.heap.size := (hC b o v hc).lt
  exact ⟨c, T, f, by rw [d.kp b hlt (h.old (hCo b o v hc))]; exact e1, e2⟩
theorem Did.then {w1 w2 : World} {q : Pm} {bo : Nat} (d : Did lo w w1 p q) (k : Kp [bo] w1 w2) (hb : w.heap.size ≤ bo) (ho : Off q bo) : Did lo w w2 p q :=
  ⟨d.mi.kp k fun b hx => by
    obtain rfl : b = bo := by simpa using hx
    exact ho, fun b hl hof => (k.block b (by have := d.env.2.2.2; omega) (by simp; omega)).trans (d.kp b hl hof), d.off,
    ⟨k.os.trans d.env.1, k.tape.trans d.env.2.1, k.output.trans d.env.2.2.1, Nat.le_trans d.env.2.2.2 k.size⟩⟩
def zout : List Value := [.int .i64 0, .int .i64 0, .slice none 0 0, .int .i64 0, .int .i64 0, .int .i64 0]

set_option maxHeartbeats 1000000 in
theorem runNum_ct (hC : Sub C w) (hCo : ∀ b o v, C b o v → b < lo) (h : Mi lo w p) {N : Nat} {I : Nat → Pm → Prop} (hst0 : StepsBy C lo N I) (hstay : Stays I) (hI : I 0 p) (hN : 1 ≤ N ∧ N ≤ 100) (hf : N ≤ p.fuel) (hs0 : p.steps = 0) (hv : p.vv = .slice none 0 0) {n : Nat} (hend : ∀ q, I N q → ∃ u, q.ws = [u] ∧ Wd q.G n u) (hn : (digs BB n).length ≤ 100) :
    CallOk Tryz.prog 28 ∧ Calls Tryz.prog 28 #[.pointer (some ⟨p.bm, 0, none⟩), .slice none 0 0] w (fun e w' => ∃ v mo, e = .returned (.agg #[.int .i64 2, .int .i64 0, v, .int .i64 N, .int .i64 0, .int .i64 mo]) ∧ Vb w.heap.size w' v (numsB (valB n)) ∧ ∃ q, Did lo w w' p q) := by
  refine ⟨⟨_, Tryz.func28, rfl, by decide⟩, ?_⟩
  refine calls_of_d (args := [_, _]) 57 [.cell 4 36] τok Tryz.func28 rfl rfl rfl (Nat.le_of_ble_eq_true rfl) ?_
  refine new fun bx w1 hbx hX1 hsx hk1 => ?_
  refine new fun bo w2 hbo hO2 hso hk2 => ?_
  have hX2 := hX1.kp hk2 (by simp)
  have k02 := hk1.tr hk2
  have h2 := h.k0 k02
  have hofx : Off p bx := h.far (by omega)
  have hofo : Off p bo := h.far (by omega)
  have hxo : bo ≠ bx := by omega
  have e0 : decide (0 < N) = true := by simp; omega
  refine lpD τok (σ := Nat) _ (fun k => [(1, .slice none 0 0), (2, .pointer (some ⟨bx, 0, none⟩)), (4, .pointer (some ⟨bo, 0, none⟩)), (5, .bool (decide (k < N)))])
    (fun k w' => k ≤ N ∧ ∃ q, Did lo w w' p q ∧ I k q ∧ Bk w'.heap bx [.pointer (some ⟨p.bm, 0, none⟩)] 63 ∧ Bk w'.heap bo zout 36 ∧ Off q bx ∧ Off q bo ∧ q.bm = p.bm ∧ q.fuel + k = p.fuel ∧ q.steps = k ∧ q.kind = p.kind ∧ q.vv = p.vv) (fun k => N - k) 0 rfl
    ⟨rfl, rfl, rfl, by show _ = some _; rw [e0]; rfl, trivial⟩ ⟨Nat.zero_le _, p, Did.k0 h k02, hI, hX2, hO2, hofx, hofo, rfl, rfl, hs0, rfl, rfl⟩ ?_
  rintro k w3 ⟨hkN, q, hd3, hq3, hX3, hO3, hox, hoo, qbm, qfu, qst, qk, qvv⟩
  have h3 := hd3.mi
  have d03 := hd3
  refine br_dec (fun g => ?_) (fun g => ?_)
  · have hm3 := h3.m
    rw [qbm] at hm3
    refine ld (hX3.cl rfl).cell ?_
    refine ld (hm3.cl (v := .int .i64 q.steps) rfl).cell ?_
    refine ev_call (containsNil_ct _ w3) ?_
    rintro e w4 ⟨rfl, rfl⟩
    refine ld (hX3.cl rfl).cell ?_
    refine ld (hm3.cl (v := .int .i64 q.fuel) rfl).cell ?_
    refine br_no (by omega) ?_
    refine ld (hX3.cl rfl).cell ?_
    refine ld (hm3.cl (v := .int .i64 q.fuel) rfl).cell ?_
    have hfu := h3.fu
    have hst := h3.st
    refine i64n ((q.fuel - 1 : Nat) : Int) (by omega) (by omega) (by omega) ?_
    refine st (b := p.bm) (o := 3) hm3 (by simp [Pm.cells]) rfl fun w5 hm5 hs5 hk5 => ?_
    have d5 : Did lo w4 w5 q { q with fuel := q.fuel - 1 } := h3.didField (fuel := q.fuel - 1) (steps := q.steps) (most := q.most) (kind := q.kind) (vv := q.vv) (by rw [qbm]; exact hm5) (by rw [qbm]; exact hk5) (by omega) hst h3.mo h3.one
    have h5 := d5.mi
    have hX5 := d5.bk hX3 hox
    have hO5 := d5.bk hO3 hoo
    have hm5 := h5.m
    rw [show ({ q with fuel := q.fuel - 1 } : Pm).bm = p.bm from qbm] at hm5
    refine ld (hX5.cl rfl).cell ?_
    refine ld (hm5.cl (v := .int .i64 q.steps) rfl).cell ?_
    refine i64n ((q.steps + 1 : Nat) : Int) (by omega) (by omega) (by omega) ?_
    refine st (b := p.bm) (o := 9) hm5 (by simp [Pm.cells]) rfl fun w6 hm6 hs6 hk6 => ?_
    have d6 : Did lo w5 w6 { q with fuel := q.fuel - 1 } { q with fuel := q.fuel - 1, steps := q.steps + 1 } := h5.didField (fuel := q.fuel - 1) (steps := q.steps + 1) (most := q.most) (kind := q.kind) (vv := q.vv) (by show Bk _ q.bm _ _; rw [qbm]; exact hm6) (by show Kp [q.bm] _ _; rw [qbm]; exact hk6) (by omega) (by omega) h3.mo h3.one
    have d46 := d5.trans d6
    have hq6 := hstay k q (q.fuel - 1) (q.steps + 1) hq3
    obtain ⟨r, hr⟩ : ∃ r : Pm, r = { q with fuel := q.fuel - 1, steps := q.steps + 1 } := ⟨_, rfl⟩
    have rbm : r.bm = p.bm := by rw [hr]; exact qbm
    have rfu : r.fuel = q.fuel - 1 := by rw [hr]
    have rst : r.steps = q.steps + 1 := by rw [hr]
    have rk : r.kind = p.kind := by rw [hr]; exact qk
    have rvv : r.vv = p.vv := by rw [hr]; exact qvv
    rw [← hr] at d46 hq6
    have h6 := d46.mi
    have hX6 := d46.bk hX3 hox
    have hO6 := d46.bk hO3 hoo
    have d06 := hd3.trans d46
    refine ld (hX6.cl rfl).cell ?_
    have hstep := hst0 k w6 _ g (d06.sub h hC hCo) h6 hq6
    rw [rbm] at hstep
    refine ev_call hstep ?_
    rintro e w7 ⟨rfl, q', d7, sm7, hq7⟩
    have hlt := d46.env.2.2.2
    have hox6 := d46.off bx hX3.lt hox
    have hoo6 := d46.off bo hO3.lt hoo
    refine ⟨k + 1, by show N - (k + 1) < N - k; omega, rfl, ⟨rfl, rfl, rfl, rfl, trivial⟩, g, q', d06.trans d7, hq7, d7.bk hX6 hox6, d7.bk hO6 hoo6, d7.off bx hX6.lt hox6, d7.off bo hO6.lt hoo6, sm7.bm.trans rbm, ?_, ?_, sm7.kind.trans rk, sm7.vv.trans rvv⟩
    · have := sm7.fuel
      omega
    · have := sm7.steps
      omega
  have hkN : k = N := by omega
  subst hkN
  obtain ⟨u, hws, hlast⟩ := hend q hq3
  obtain ⟨aw, cw, hvw, hcw, h00 | ⟨gw, rfl, hcell⟩⟩ := h3.words
  · rw [hws] at h00
    simp at h00
  have hcs : q.cells[4]? = some (.slice (some ⟨gw, 0, none⟩) q.ws.length cw) := by rw [← hvw]; rfl
  have hwl : q.ws.length = 1 := by rw [hws]; rfl
  rw [hwl] at hcs
  have hcu := hcell 0 u (by rw [hws]; rfl)
  have hm3 := h3.m
  rw [qbm] at hm3
  refine drawV τok (fun z => Kp [] w3 z) ?_
  refine readsV τok [0, 1, 2, 3, 4, 5, 6] 1 #[true, true, true, true, true, true, true, false] rfl rfl (by kernel_rfl) (by kernel_rfl) (by kernel_rfl) ((Kp.refl [] w3).dr _) ?_
  refine ldQ (fun z hz => (hX3.kp hz (by simp)).cl rfl) ?_
  refine ldQ (fun z hz => (hX3.kp hz (by simp)).cl rfl) ?_
  refine ldQ (fun z hz => (hm3.kp hz (by simp)).cl hcs) ?_
  refine ix 0 (by decide) (by decide) ?_
  refine ldQ (fun z hz => hcu.1.kp hz (by simp)) ?_
  refine nextV τok 7 0 #[true, true, true, true, true, true, true, true] rfl rfl rfl (by kernel_rfl) ?_
  have hk4 : Kp [] w3 { w3 with drawn := w3.drawn + 1 } := (Kp.refl [] w3).dr _
  have h4 := h3.k0 hk4
  have hval : CallOk Tryz.prog 68 ∧ Calls Tryz.prog 68 #[.pointer (some ⟨p.bm, 0, none⟩), .int .u32 (u : Int)] { w3 with drawn := w3.drawn + 1 } (fun e w' => e = .returned (.tuple #[]) ∧ ∃ v' r, r = { q with vv := v' } ∧ Did lo { w3 with drawn := w3.drawn + 1 } w' q r ∧ Vb w3.heap.size w' v' ([] ++ numsB (valB n))) := by
    have hval := value_ct h4 hlast (n0 := 0) (B := []) ⟨none, 0, by rw [qvv, hv]; rfl, Sl.nil _ _ _⟩ hn (by simp)
    rw [← qbm]
    exact ⟨hval.1, hval.2.mono fun e w' ⟨he, v', hd, hv⟩ => ⟨he, v', _, rfl, hd, hv⟩⟩
  refine ev_call hval ?_
  rintro e w5 ⟨rfl, v5, r, hr, d5, hv5⟩
  refine ⟨.inr (by kernel_rfl), ?_⟩
  refine doneV (by kernel_rfl) ?_
  have d45 := (Did.k0 h3 hk4).trans d5
  have hX5 := d45.bk hX3 hox
  have hO5 := d45.bk hO3 hoo
  have h5 := d45.mi
  have rbm : r.bm = p.bm := by rw [hr]; exact qbm
  have hrvv : r.vv = v5 := by rw [hr]
  have rst : r.steps = k := by rw [hr]; exact qst
  have hm5 := h5.m
  rw [rbm] at hm5
  refine ld (hX5.cl rfl).cell ?_
  refine st (b := p.bm) (o := 6) hm5 (by simp [Pm.cells]) rfl fun w6 hm6 hs6 hk6 => ?_
  have d6 : Did lo w5 w6 r { r with kind := 2 } := h5.didField (fuel := r.fuel) (steps := r.steps) (most := r.most) (kind := 2) (vv := r.vv) (by rw [rbm]; exact hm6) (by rw [rbm]; exact hk6) h5.fu h5.st h5.mo h5.one
  have hor := d45.off bx hX3.lt hox
  have hoor := d45.off bo hO3.lt hoo
  have hX6 := d6.bk hX5 hor
  have hO6 := d6.bk hO5 hoor
  refine ld (hX6.cl rfl).cell ?_
  refine ldN [.int .i64 2, .int .i64 0, r.vv, .int .i64 r.steps, .int .i64 0, .int .i64 r.most] rfl (fun j v hj => ?_) ?_
  · refine hm6.cl ?_
    match j with
    | 0 | 1 | 2 | 3 | 4 | 5 => simpa [Pm.cells] using hj
    | j + 6 => simp at hj
  refine stN hO6 rfl (by
    intro v hv
    simp only [List.mem_cons, List.not_mem_nil, or_false] at hv
    rcases hv with rfl | rfl | rfl | rfl | rfl | rfl
    · rfl
    · rfl
    · exact h5.one
    · rfl
    · rfl
    · rfl) fun w7 hO7 hs7 hk7 => ?_
  refine ⟨_, _, _, 63, #[.pointer (some ⟨bx, 0, none⟩), .pointer (some ⟨bo, 0, none⟩)], rfl, by simp, by simp [go_sem], (idle_ct bx bo w7).mono ?_⟩
  rintro e u' w8 ⟨he, rfl, hk8⟩
  refine ⟨he, rfl, ?_⟩
  have hO8 := hO7.kp hk8 (by simp)
  refine resN τok rfl _ rfl (fun j v hj => hO8.cl hj) ?_
  have d06 := (hd3.trans d45).trans d6
  have hk68 : Kp [bo] w6 w8 := hk7.tr hk8
  have d08 := d06.then hk68 (by omega) (d6.off bo hO5.lt hoor)
  obtain ⟨a5, c5, hva, hvs⟩ := hv5
  have hbm3 := hm3.lt
  have hbo3 := hO3.lt
  have hsz := d03.env.2.2.2
  refine ⟨v5, r.most, by rw [hrvv, rst]; rfl, ⟨a5, c5, by simpa using hva, ?_⟩, _, d08⟩
  refine hvs.mono fun b o t ht => ⟨by have := ht.1; omega, ((ht.2.kp hk6 (by have := ht.1; simp; omega)).kp hk68 (by have := ht.1; simp; omega))⟩
set_option maxHeartbeats 1000000 in
theorem runBox_ct (hC : Sub C w) (hCo : ∀ b o v, C b o v → b < lo) (h : Mi lo w p) {N : Nat} {I : Nat → Pm → Prop} (hst0 : StepsBy C lo N I) (hstay : Stays I) (hI : I 0 p) (hN : 1 ≤ N ∧ N ≤ 100) (hf : N ≤ p.fuel) (hs0 : p.steps = 0) (hend : ∀ q, I N q → ∃ u, q.ws = [u] ∧ u = 3) :
    CallOk Tryz.prog 28 ∧ Calls Tryz.prog 28 #[.pointer (some ⟨p.bm, 0, none⟩), .slice none 0 0] w (fun e w' => ∃ mo, e = .returned (.agg #[.int .i64 1, .int .i64 23, .slice none 0 0, .int .i64 N, .int .i64 0, .int .i64 mo]) ∧ ∃ q, Did lo w w' p q) := by
  refine ⟨⟨_, Tryz.func28, rfl, by decide⟩, ?_⟩
  refine calls_of_d (args := [_, _]) 57 [.cell 4 36] τok Tryz.func28 rfl rfl rfl (Nat.le_of_ble_eq_true rfl) ?_
  refine new fun bx w1 hbx hX1 hsx hk1 => ?_
  refine new fun bo w2 hbo hO2 hso hk2 => ?_
  have hX2 := hX1.kp hk2 (by simp)
  have k02 := hk1.tr hk2
  have h2 := h.k0 k02
  have hofx : Off p bx := h.far (by omega)
  have hofo : Off p bo := h.far (by omega)
  have hxo : bo ≠ bx := by omega
  have e0 : decide (0 < N) = true := by simp; omega
  refine lpD τok (σ := Nat) _ (fun k => [(1, .slice none 0 0), (2, .pointer (some ⟨bx, 0, none⟩)), (4, .pointer (some ⟨bo, 0, none⟩)), (5, .bool (decide (k < N)))])
    (fun k w' => k ≤ N ∧ ∃ q, Did lo w w' p q ∧ I k q ∧ Bk w'.heap bx [.pointer (some ⟨p.bm, 0, none⟩)] 63 ∧ Bk w'.heap bo zout 36 ∧ Off q bx ∧ Off q bo ∧ q.bm = p.bm ∧ q.fuel + k = p.fuel ∧ q.steps = k ∧ q.kind = p.kind ∧ q.vv = p.vv) (fun k => N - k) 0 rfl
    ⟨rfl, rfl, rfl, by show _ = some _; rw [e0]; rfl, trivial⟩ ⟨Nat.zero_le _, p, Did.k0 h k02, hI, hX2, hO2, hofx, hofo, rfl, rfl, hs0, rfl, rfl⟩ ?_
  rintro k w3 ⟨hkN, q, hd3, hq3, hX3, hO3, hox, hoo, qbm, qfu, qst, qk, qvv⟩
  have h3 := hd3.mi
  have d03 := hd3
  refine br_dec (fun g => ?_) (fun g => ?_)
  · have hm3 := h3.m
    rw [qbm] at hm3
    refine ld (hX3.cl rfl).cell ?_
    refine ld (hm3.cl (v := .int .i64 q.steps) rfl).cell ?_
    refine ev_call (containsNil_ct _ w3) ?_
    rintro e w4 ⟨rfl, rfl⟩
    refine ld (hX3.cl rfl).cell ?_
    refine ld (hm3.cl (v := .int .i64 q.fuel) rfl).cell ?_
    refine br_no (by omega) ?_
    refine ld (hX3.cl rfl).cell ?_
    refine ld (hm3.cl (v := .int .i64 q.fuel) rfl).cell ?_
    have hfu := h3.fu
    have hst := h3.st
    refine i64n ((q.fuel - 1 : Nat) : Int) (by omega) (by omega) (by omega) ?_
    refine st (b := p.bm) (o := 3) hm3 (by simp [Pm.cells]) rfl fun w5 hm5 hs5 hk5 => ?_
    have d5 : Did lo w4 w5 q { q with fuel := q.fuel - 1 } := h3.didField (fuel := q.fuel - 1) (steps := q.steps) (most := q.most) (kind := q.kind) (vv := q.vv) (by rw [qbm]; exact hm5) (by rw [qbm]; exact hk5) (by omega) hst h3.mo h3.one
    have h5 := d5.mi
    have hX5 := d5.bk hX3 hox
    have hO5 := d5.bk hO3 hoo
    have hm5 := h5.m
    rw [show ({ q with fuel := q.fuel - 1 } : Pm).bm = p.bm from qbm] at hm5
    refine ld (hX5.cl rfl).cell ?_
    refine ld (hm5.cl (v := .int .i64 q.steps) rfl).cell ?_
    refine i64n ((q.steps + 1 : Nat) : Int) (by omega) (by omega) (by omega) ?_
    refine st (b := p.bm) (o := 9) hm5 (by simp [Pm.cells]) rfl fun w6 hm6 hs6 hk6 => ?_
    have d6 : Did lo w5 w6 { q with fuel := q.fuel - 1 } { q with fuel := q.fuel - 1, steps := q.steps + 1 } := h5.didField (fuel := q.fuel - 1) (steps := q.steps + 1) (most := q.most) (kind := q.kind) (vv := q.vv) (by show Bk _ q.bm _ _; rw [qbm]; exact hm6) (by show Kp [q.bm] _ _; rw [qbm]; exact hk6) (by omega) (by omega) h3.mo h3.one
    have d46 := d5.trans d6
    have hq6 := hstay k q (q.fuel - 1) (q.steps + 1) hq3
    obtain ⟨r, hr⟩ : ∃ r : Pm, r = { q with fuel := q.fuel - 1, steps := q.steps + 1 } := ⟨_, rfl⟩
    have rbm : r.bm = p.bm := by rw [hr]; exact qbm
    have rfu : r.fuel = q.fuel - 1 := by rw [hr]
    have rst : r.steps = q.steps + 1 := by rw [hr]
    have rk : r.kind = p.kind := by rw [hr]; exact qk
    have rvv : r.vv = p.vv := by rw [hr]; exact qvv
    rw [← hr] at d46 hq6
    have h6 := d46.mi
    have hX6 := d46.bk hX3 hox
    have hO6 := d46.bk hO3 hoo
    have d06 := hd3.trans d46
    refine ld (hX6.cl rfl).cell ?_
    have hstep := hst0 k w6 _ g (d06.sub h hC hCo) h6 hq6
    rw [rbm] at hstep
    refine ev_call hstep ?_
    rintro e w7 ⟨rfl, q', d7, sm7, hq7⟩
    have hlt := d46.env.2.2.2
    have hox6 := d46.off bx hX3.lt hox
    have hoo6 := d46.off bo hO3.lt hoo
    refine ⟨k + 1, by show N - (k + 1) < N - k; omega, rfl, ⟨rfl, rfl, rfl, rfl, trivial⟩, g, q', d06.trans d7, hq7, d7.bk hX6 hox6, d7.bk hO6 hoo6, d7.off bx hX6.lt hox6, d7.off bo hO6.lt hoo6, sm7.bm.trans rbm, ?_, ?_, sm7.kind.trans rk, sm7.vv.trans rvv⟩
    · have := sm7.fuel
      omega
    · have := sm7.steps
      omega
  have hkN : k = N := by omega
  subst hkN
  obtain ⟨u, hws, hlast⟩ := hend q hq3
  obtain ⟨aw, cw, hvw, hcw, h00 | ⟨gw, rfl, hcell⟩⟩ := h3.words
  · rw [hws] at h00
    simp at h00
  have hcs : q.cells[4]? = some (.slice (some ⟨gw, 0, none⟩) q.ws.length cw) := by rw [← hvw]; rfl
  have hwl : q.ws.length = 1 := by rw [hws]; rfl
  rw [hwl] at hcs
  have hcu := hcell 0 u (by rw [hws]; rfl)
  have hm3 := h3.m
  rw [qbm] at hm3
  subst hlast
  refine drawT τok 7 _ _ rfl rfl (by kernel_rfl) ?_
  refine ldS (hX3.cl rfl) ?_
  refine ldS (hX3.cl rfl) ?_
  refine ldS (hm3.cl hcs) ?_
  refine ix 0 (by decide) (by decide) ?_
  refine ldS hcu.1 ?_
  have hk4 : Kp [] w3 { w3 with drawn := w3.drawn + 1 } := (Kp.refl [] w3).dr _
  have h4 := h3.k0 hk4
  have hval := valueBox_ct h4
  rw [qbm] at hval
  refine ev_call hval ?_
  rintro e w5 ⟨rfl, rfl⟩
  refine ⟨_, _, _, 63, #[.pointer (some ⟨bx, 0, none⟩), .pointer (some ⟨bo, 0, none⟩)], rfl, by simp, by simp [go_sem], (catch_ct h4 (Tx := 63) (by rw [qbm]; exact hX3) hO3 rfl 1 23).mono ?_⟩
  rintro e u' w8 ⟨he, hset, hO8, hk8⟩
  refine ⟨he, hset, ?_⟩
  refine resN τok rfl _ rfl (fun j v hj => hO8.cl hj) ?_
  have d08 := ((d03.trans (Did.k0 h3 hk4))).then hk8 (by omega) hoo
  exact ⟨q.most, by rw [qst]; rfl, _, d08⟩
end
end Go.Proofs.YtbggaljmollhmaaGreatDoor

/-
  Package vm at numbers: Run.
-/
set_option linter.unusedSimpArgs false
set_option linter.unusedVariables false
namespace Go.Proofs.YtbggaljmollhmaaGreatDoor
open Go.Wx Nm Vm Vc Cd
def loneC (code : List Ins) : Cod := ⟨-1, [], [], [], code⟩
/-- an outcome -/
def Outc (kd rs : Nat) (B : List Nat) (st n : Nat) (w : World) (x : Value) : Prop :=
  ∃ v, ∃ mo : Int, x = .agg #[.int .i64 (kd : Int), .int .i64 (rs : Int), v, .int .i64 (st : Int), .int .i64 0, .int .i64 mo] ∧ Vb n w v B
theorem Outc.kp {kd rs st n m : Nat} {B : List Nat} {w w' : World} {x : Value} {X : List Nat} (h : Outc kd rs B st n w x) (k : Kp X w w') (hX : ∀ b ∈ X, b < n) (hm : m ≤ n) : Outc kd rs B st m w' x := by
  obtain ⟨v, mo, rfl, a, c, h1, h2⟩ := h
  exact ⟨v, mo, rfl, a, c, h1, h2.mono fun b o t ht => ⟨Nat.le_trans hm ht.1, ht.2.kp k fun hx => by have := hX b hx; have := ht.1; omega⟩⟩
/-- what a run of the machine does -/
def RunsTo (C : Mem) (lo : Nat) (code : List Ins) (words fuel : Nat) (kd rs : Nat) (B : List Nat) (st : Nat) : Prop :=
  ∀ w p, Mi lo w p → Sub C w → At C lo p code 0 → p.ws = [] → p.G = [] → p.words = words → p.fuel = fuel → p.steps = 0 → p.vv = .slice none 0 0 →
    CallOk Tryz.prog 28 ∧ Calls Tryz.prog 28 #[.pointer (some ⟨p.bm, 0, none⟩), .slice none 0 0] w (fun e w' => ∃ x, e = .returned x ∧ Outc kd rs B st w.heap.size w' x ∧ ∃ q, Did lo w w' p q)
set_option maxHeartbeats 1000000 in
theorem vRun_ct {C : Mem} {w : World} (hS : Sub C w) {code : List Ins} {a : Option Addr} {cap : Nat} (hsl : Sl rIns C a code) (hcl : code.length ≤ 100) (hck : checkM (loneC code) = 0) {words fuel kd rs st : Nat} {B : List Nat} (hw : 1 ≤ words ∧ words ≤ 65536) (hf : fuel ≤ 1000) (hrun : RunsTo C w.heap.size code words fuel kd rs B st) :
    CallOk Tryz.prog 11 ∧ Calls Tryz.prog 11 #[.agg #[.int .i64 (-1), .slice none 0 0, .slice none 0 0, .slice none 0 0, .slice a code.length cap], .int .i64 (words : Int), .int .i64 (fuel : Int), .slice none 0 0] w (fun e w' => ∃ x, e = .returned x ∧ Outc kd rs B st w.heap.size w' x ∧ Kp [] w w') := by
  refine ⟨⟨_, Tryz.func11, rfl, by decide⟩, ?_⟩
  refine calls_of (args := [_, _, _, _]) 42 [.cell 8 36] τok Tryz.func11 rfl rfl rfl (Nat.le_of_ble_eq_true rfl) ?_
  refine new fun bc w1 hbc hc1 hsc hk1 => ?_
  refine new fun bo w2 hbo ho2 hso hk2 => ?_
  have hc2 := hc1.kp hk2 (by simp)
  have k02 := hk1.tr hk2
  refine ldN [.int .i64 (-1), .slice none 0 0, .slice none 0 0, .slice none 0 0, .slice a code.length cap] rfl (fun j v hj => by rw [Nat.zero_add]; exact hc2.cl hj) ?_
  have hden : rCod.den C [.int .i64 (-1), .slice none 0 0, .slice none 0 0, .slice none 0 0, .slice a code.length cap] (loneC code) :=
    ⟨none, 0, none, 0, none, 0, a, cap, rfl, Sl.nil _ _ _, Sl.nil _ _ _, Sl.nil _ _ _, hsl, by unfold I64 loneC; simp⟩
  have hchk := check_ct (hS.tr k02) hden
  rw [hck] at hchk
  refine ev_call hchk ?_
  rintro e w3 ⟨rfl, hk3⟩
  have k03 := k02.tr hk3
  refine ev_call (hnew_ct words hw.1 hw.2 w3) ?_
  rintro e w4 ⟨bh, bp, rfl, hH4, hk4⟩
  have k04 := k03.tr hk4
  refine max64 ?_
  refine min64 ?_
  have hfe : min (max (fuel : Int) 0) 100000 = (fuel : Int) := by omega
  rw [hfe]
  refine new fun bm w5 hbm hm5 hsm hk5 => ?_
  have hz2 := hk2.size
  have hz3 := hk3.size
  have hz4 := hk4.size
  have hbcl := hc1.lt
  have hH5 := hH4.kp hk5 (by simp)
  obtain ⟨f5, hMV, _⟩ := hH4.map
  have hbpl := hMV.lt
  have hbhl := hH4.h.lt
  have hge := hH4.ge
  have hbo3 : bo < w3.heap.size := (ho2.kp hk3 (by simp)).lt
  have n1 : bo ≠ bm := by omega
  have n2 : bo ≠ bh := by omega
  have n3 : bo ≠ bp := by omega
  have n4 : w.heap.size ≤ bh := by have := k03.size; omega
  have n5 : w.heap.size ≤ bp := by have := k03.size; omega
  obtain ⟨p0, hp0⟩ : ∃ p0 : Pm, p0 = { bm := bm, bh := bh, bp := bp, bc := bc, vw := .slice none 0 0, vs := .slice none 0 0, vf := .slice none 0 0, vv := .slice none 0 0, words := words, G := [], ws := [], frs := [], fuel := fuel, steps := 0, most := 0, kind := 0 } := ⟨_, rfl⟩
  have k05 := k04.tr hk5
  have h0 : Mi w.heap.size w5 p0 := by
    subst hp0
    exact ⟨hm5, ⟨hH5.h, hH5.map, Own.nil _ _ k05.size, hH5.nd, ⟨n4, n5⟩, hH5.len, hH5.few, hH5.bd⟩, Own.nil _ _ k05.size, Own.nil _ _ k05.size, by show w.heap.size ≤ bm; have := k04.size; omega, by show bm ≠ bh; omega, by show bm ≠ bp; omega, by simp [Value.ownBlock], by simp [Value.ownBlock], by simp [Value.ownBlock], by simp [Value.ownBlock], by simp [Value.ownBlock], by simp [Value.ownBlock], by simp [Value.ownBlock], by simp [Value.ownBlock], by simp [Value.ownBlock], by simp [Value.ownBlock], by simp, by simp, hf, by simp, rfl⟩
  have hof : Off p0 bo := by
    subst hp0
    exact ⟨n1, n2, n3, by simp [Value.ownBlock], by simp [Value.ownBlock], by simp [Value.ownBlock]⟩
  have ho5 := ((ho2.kp hk3 (by simp)).kp hk4 (by simp)).kp hk5 (by simp)
  have hc5 := ((hc2.kp hk3 (by simp)).kp hk4 (by simp)).kp hk5 (by simp)
  have hbm0 : p0.bm = bm := by rw [hp0]
  refine ld (hc5.cl rfl).cell ?_
  have hcall : CallOk Tryz.prog 27 ∧ Calls Tryz.prog 27 #[.pointer (some ⟨bm, 0, none⟩), .slice a code.length cap, .int .i64 0] w5 (fun e w' => e = .returned (.tuple #[]) ∧ ∃ v' p1, p1 = { p0 with vf := v', frs := [⟨a, code.length, cap, 0, p0.ws.length⟩] } ∧ Did w.heap.size w5 w' p0 p1) := by
    have hcall := mcall_ct h0 (by rw [hp0]) a code.length cap
    rw [← hbm0]
    exact ⟨hcall.1, hcall.2.mono fun e w' ⟨he, v', hd⟩ => ⟨he, v', _, rfl, hd⟩⟩
  refine ev_call hcall ?_
  rintro e w6 ⟨rfl, vf', p1, hp1, d6'⟩
  have ho6 := d6'.bk ho5 hof
  have hof6 := d6'.off bo ho5.lt hof
  have hlow6 := Did.low h0 d6' rfl k05
  have hr := hrun w6 p1 d6'.mi (hS.tr hlow6) ⟨⟨a, cap, hsl, by rw [hp1, hp0]; rfl⟩, hcl⟩ (by rw [hp1, hp0]) (by rw [hp1, hp0]) (by rw [hp1, hp0]) (by rw [hp1, hp0]) (by rw [hp1, hp0]) (by rw [hp1, hp0])
  have hbm1 : p1.bm = bm := by rw [hp1, hp0]
  rw [hbm1] at hr
  refine ev_call hr ?_
  rintro e w7 ⟨x, rfl, hx, q, d7⟩
  have ho7 := d7.bk ho6 hof6
  have d07 := d6'.trans d7
  have hlow7 := Did.low h0 d07 rfl k05
  have hbl6 := ho6.lt
  obtain ⟨v, mo, rfl, a5, c5, hva, hvs⟩ := hx
  refine stN ho7 rfl (by
    intro y hy
    simp only [List.mem_cons, List.not_mem_nil, or_false] at hy
    rcases hy with rfl | rfl | rfl | rfl | rfl | rfl
    · rfl
    · rfl
    · rw [hva]; rfl
    · rfl
    · rfl
    · rfl) fun w8 ho8 hs8 hk8 => ?_
  refine resN τok rfl _ rfl (fun j v hj => ho8.cl hj) ?_
  have hz6 := hlow6.size
  have hbow : w.heap.size ≤ bo := by have := hk1.size; omega
  refine ⟨_, rfl, ⟨v, mo, rfl, a5, c5, hva, hvs.mono fun b o t ht => ⟨by have := ht.1; omega, ht.2.kp hk8 (by have := ht.1; simp; omega)⟩⟩, hlow7.trans hk8 fun y hy hl => by simp at hy; omega⟩
end Go.Proofs.YtbggaljmollhmaaGreatDoor

/-
  Package vm at numbers: the programs that run are right.
-/
set_option linter.unusedSimpArgs false
set_option linter.unusedVariables false
namespace Go.Proofs.YtbggaljmollhmaaGreatDoor
open Go.Wx Nm Vm Vc Cd
theorem blk_cons {c : Cod} {len i : Nat} {fl : Int} {n : Ins} {r : List Ins} {s s' : List Int × Int} {l : List (Int × Int)} (h0 : s.1.getD i 0 ≠ -1) (hn : nextM c i n (s.1.getD i 0) fl = some l) (hg : goM len i l s = some s') :
    blkM c len fl i (n :: r) s = blkM c len fl (i + 1) r s' := by
  simp only [blkM, oneM, hn, hg, if_neg h0, Option.bind_some]
theorem next_num {c : Cod} {i fl h : Int} {x : Nat} (hx : x ≤ 1048576) (hh : 0 ≤ h - fl) : nextM c i ⟨2, (x : Int), 0, []⟩ h fl = some [(i + 1, h - 0 + 1)] := by
  have hp : plainM c ⟨2, (x : Int), 0, []⟩ h = some 0 := by
    have : inM (x : Int) 0 1048576 = true := by simp [inM]; omega
    simp [plainM, this]
  simp [nextM, hp]
  omega
theorem next_prim {c : Cod} {i fl h : Int} {x : Nat} (hx : 1 ≤ x ∧ x ≤ 3) (hh : 2 ≤ h - fl) : nextM c i ⟨12, (x : Int), 0, []⟩ h fl = some [(i + 1, h - 2 + 1)] := by
  have hp : plainM c ⟨12, (x : Int), 0, []⟩ h = some 2 := by
    have : inM (x : Int) 1 3 = true := by simp [inM]; omega
    simp [plainM, this]
  simp [nextM, hp, hh]
def codeC (x y id : Nat) : List Ins := [⟨2, (x : Int), 0, []⟩, ⟨2, (y : Int), 0, []⟩, ⟨12, (id : Int), 0, []⟩, ⟨2, (x : Int), 0, []⟩, ⟨12, (id : Int), 0, []⟩, ⟨10, 0, 0, []⟩, ⟨11, 0, 0, [8]⟩, ⟨6, 0, 0, []⟩, ⟨1, 0, 0, []⟩, ⟨6, 0, 0, []⟩]
theorem check_lone {code : List Ins} (hl : code.length ≤ 100) {k : Int} (hb : blockM (loneC code) code 0 = some k) (hk : k ≤ 4096) : checkM (loneC code) = 0 := by
  have h1 : rightM (boxes (loneC code)) (loneC code).shapes (loneC code).nat = true := by simp [boxes, loneC, rightM, entsOk, natOk]
  have h2 : blocksM (loneC code) = (true, k) := by
    unfold blocksM
    show List.foldl _ (List.foldl _ _ []) [] = _
    simp only [List.foldl_nil]
    show ((blockM (loneC code) code 0).isSome, (blockM (loneC code) code 0).getD 0) = _
    rw [hb]; rfl
  unfold checkM
  rw [h1, h2]
  have h3 : sizeM (loneC code) = code.length := by simp [sizeM, loneC]
  rw [h3]
  have e1 : (loneC code).bodies = [] := rfl
  have e2 : (loneC code).shapes = [] := rfl
  have e3 : (loneC code).funs = [] := rfl
  rw [e1, e2, e3]
  simp
  omega
theorem blk_codeC {x y id : Nat} (hx : x ≤ 1048576) (hy : y ≤ 1048576) (hid : 1 ≤ id ∧ id ≤ 3) : blockM (loneC (codeC x y id)) (codeC x y id) 0 = some 2 := by
  unfold blockM
  rw [if_neg (by simp [codeC])]
  have e : (codeC x y id).length = 10 := rfl
  rw [e]
  obtain ⟨c, hc⟩ : ∃ c, c = loneC (codeC x y id) := ⟨_, rfl⟩
  rw [← hc]
  unfold codeC
  rw [blk_cons (s' := ([0, 1, -1, -1, -1, -1, -1, -1, -1, -1], 1)) (by decide) (next_num hx (by decide)) (by decide)]
  rw [blk_cons (s' := ([0, 1, 2, -1, -1, -1, -1, -1, -1, -1], 2)) (by decide) (next_num hy (by decide)) (by decide)]
  rw [blk_cons (s' := ([0, 1, 2, 1, -1, -1, -1, -1, -1, -1], 2)) (by decide) (next_prim hid (by decide)) (by decide)]
  rw [blk_cons (s' := ([0, 1, 2, 1, 2, -1, -1, -1, -1, -1], 2)) (by decide) (next_num hx (by decide)) (by decide)]
  rw [blk_cons (s' := ([0, 1, 2, 1, 2, 1, -1, -1, -1, -1], 2)) (by decide) (next_prim hid (by decide)) (by decide)]
  rw [blk_cons (l := [(6, 1)]) (s' := ([0, 1, 2, 1, 2, 1, 1, -1, -1, -1], 2)) (by decide) (by simp [nextM, plainM, Ins.zero]) (by decide)]
  rw [blk_cons (l := [(8, 0), (7, 1)]) (s' := ([0, 1, 2, 1, 2, 1, 1, 1, 0, -1], 2)) (by decide) (by simp [nextM, plainM, Ins.zero]) (by decide)]
  rw [blk_cons (l := []) (s' := ([0, 1, 2, 1, 2, 1, 1, 1, 0, -1], 2)) (by decide) (by simp [nextM, plainM, Ins.zero]) (by decide)]
  rw [blk_cons (l := [(9, 1)]) (s' := ([0, 1, 2, 1, 2, 1, 1, 1, 0, 1], 2)) (by decide) (by simp [nextM, plainM, Ins.zero]) (by decide)]
  rw [blk_cons (l := []) (s' := ([0, 1, 2, 1, 2, 1, 1, 1, 0, 1], 2)) (by decide) (by simp [nextM, plainM, Ins.zero]) (by decide)]
  rfl
def codeN (x : Nat) : List Ins := [⟨2, (x : Int), 0, []⟩, ⟨6, 0, 0, []⟩]
def codeB : List Ins := [⟨1, 0, 0, []⟩, ⟨6, 0, 0, []⟩]
theorem blk_codeN {x : Nat} (hx : x ≤ 1048576) : blockM (loneC (codeN x)) (codeN x) 0 = some 1 := by
  unfold blockM
  rw [if_neg (by simp [codeN])]
  have e : (codeN x).length = 2 := rfl
  rw [e]
  obtain ⟨c, hc⟩ : ∃ c, c = loneC (codeN x) := ⟨_, rfl⟩
  rw [← hc]
  unfold codeN
  rw [blk_cons (s' := ([0, 1], 1)) (by decide) (next_num hx (by decide)) (by decide)]
  rw [blk_cons (l := []) (s' := ([0, 1], 1)) (by decide) (by simp [nextM, plainM, Ins.zero]) (by decide)]
  rfl
theorem blk_codeB : blockM (loneC codeB) codeB 0 = some 1 := by decide
end Go.Proofs.YtbggaljmollhmaaGreatDoor

/-
  Package vm at numbers: what three programs do.
-/
set_option linter.unusedSimpArgs false
set_option linter.unusedVariables false
namespace Go.Proofs.YtbggaljmollhmaaGreatDoor
open Go.Wx Nm Vm Vc Cd
/-- numbers on the stack -/
structure Stk (q : Pm) (l : List Nat) (bd : Nat) : Prop where
  len : q.ws.length = l.length
  wd : ∀ (i n : Nat), l[i]? = some n → ∃ u, q.ws[i]? = some u ∧ Wd q.G n u
  usd : usd q.G ≤ bd
theorem Stk.one {q : Pm} {a bd : Nat} (h : Stk q [a] bd) : ∃ u, q.ws = [u] ∧ Wd q.G a u := by
  obtain ⟨u, h1, h2⟩ := h.wd 0 a rfl
  have hl := h.len
  match hq : q.ws, hl, h1 with
  | [v], _, h1 =>
    simp at h1
    subst h1
    exact ⟨v, rfl, h2⟩
theorem Stk.two {q : Pm} {a b bd : Nat} (h : Stk q [a, b] bd) : ∃ u v, q.ws = [u, v] ∧ Wd q.G a u ∧ Wd q.G b v := by
  obtain ⟨u, h1, h2⟩ := h.wd 0 a rfl
  obtain ⟨v, h3, h4⟩ := h.wd 1 b rfl
  have hl := h.len
  match hq : q.ws, hl, h1, h3 with
  | [x, y], _, h1, h3 =>
    simp at h1 h3
    subst h1 h3
    exact ⟨x, y, rfl, h2, h4⟩
theorem Stk.puts {p q p' : Pm} {l : List Nat} {bd n k u s : Nat} (h : Stk p l bd) (hp : Puts q p' n k u) (hw : q.ws = p.ws) (hg : q.G = p.G) (hk : k ≤ l.length) (hs : sz n ≤ s) : Stk p' (l.take (l.length - k) ++ [n]) (bd + s) := by
  have hl := h.len
  have hws := hp.ws
  rw [hw] at hws
  have hlt : (p.ws.take (p.ws.length - k)).length = l.length - k := by rw [List.length_take]; omega
  refine ⟨?_, fun i m hi => ?_, ?_⟩
  · rw [hws, List.length_append, hlt, List.length_append, List.length_take]
    simp
  · have hlt2 : (l.take (l.length - k)).length = l.length - k := by rw [List.length_take]; omega
    by_cases hik : i < l.length - k
    · rw [List.getElem?_append_left (by omega), List.getElem?_take_of_lt hik] at hi
      obtain ⟨v, h1, h2⟩ := h.wd i m hi
      refine ⟨v, ?_, hp.up _ _ (by rw [hg]; exact h2)⟩
      rw [hws, List.getElem?_append_left (by omega), List.getElem?_take_of_lt (by omega)]
      exact h1
    · rw [List.getElem?_append_right (by omega), hlt2] at hi
      have hi0 : i - (l.length - k) = 0 := by
        rcases Nat.eq_zero_or_pos (i - (l.length - k)) with e | e
        · exact e
        · rw [List.getElem?_eq_none (by simp; omega)] at hi
          cases hi
      rw [hi0] at hi
      simp at hi
      subst hi
      refine ⟨u, ?_, hp.wd⟩
      rw [hws, List.getElem?_append_right (by omega), hlt, hi0]
      rfl
  · have := hp.usd
    rw [hg] at this
    have := h.usd
    omega
theorem At.puts {C : Mem} {lo : Nat} {q p' : Pm} {code : List Ins} {k n j u : Nat} (h : At C lo q code k) (hp : Puts q p' n j u) : At C lo p' code k := by
  obtain ⟨a, c, h1, h2⟩ := h.sl
  exact ⟨⟨a, c, h1, hp.frs.trans h2⟩, h.lt⟩
theorem Sm.puts {p q p' : Pm} {n k u : Nat} (h : Sm q p) (hp : Puts q p' n k u) : Sm p' p :=
  ⟨hp.bm.trans h.bm, hp.bc.trans h.bc, hp.words.trans h.words, hp.fuel.trans h.fuel, hp.steps.trans h.steps, hp.kind.trans h.kind, hp.vv.trans h.vv⟩
/-- where a program stands -/
def Iv (C : Mem) (lo W N : Nat) (code : List Ins) (S : Nat → List Nat) (bd : Nat → Nat) (k : Nat) (q : Pm) : Prop := Stk q (S k) (bd k) ∧ q.words = W ∧ (k < N → At C lo q code k)
theorem iv_stays {C : Mem} {lo W N : Nat} {code : List Ins} {S : Nat → List Nat} {bd : Nat → Nat} : Stays (Iv C lo W N code S bd) := fun k q f s ⟨h1, h2, h3⟩ =>
  ⟨⟨h1.len, h1.wd, h1.usd⟩, h2, fun hk => ⟨(h3 hk).sl, (h3 hk).lt⟩⟩
theorem sz1 {n : Nat} (h : n ≤ 1048576) : sz n ≤ 2 := by
  unfold sz
  have := digs_len_le BB_two (n := n) (k := 1) (by unfold BB; omega)
  omega
theorem sz2 {n : Nat} (h : n ≤ 1152921504606846977) : sz n ≤ 3 := by
  unfold sz
  have := digs_len_le BB_two (n := n) (k := 2) (by unfold BB; omega)
  omega
theorem fits_of {p : Pm} {n bd : Nat} (h : usd p.G ≤ bd) (hw : bd + 3 ≤ p.words) (hn : n ≤ 1152921504606846977) : Fits p n := by
  have h3 := sz2 hn
  rcases Nat.lt_or_ge mostSmall n with h1 | h1
  · exact .inr ⟨h1, by omega, by unfold sz at h3; omega⟩
  · exact .inl h1
end Go.Proofs.YtbggaljmollhmaaGreatDoor

/-
  Package vm at numbers: what three programs do, step by step.
-/
set_option linter.unusedSimpArgs false
set_option linter.unusedVariables false
namespace Go.Proofs.YtbggaljmollhmaaGreatDoor
open Go.Wx Nm Vm Vc Cd
def StC (x y id : Nat) : Nat → List Nat
  | 0 => []
  | 1 => [x]
  | 2 => [x, y]
  | 3 => [primN id x y]
  | 4 => [primN id x y, x]
  | 5 => [primN id (primN id x y) x]
  | 6 => [primN id (primN id x y) x + 1]
  | _ => [primN id (primN id x y) x]
def bdC : Nat → Nat
  | 0 => 0
  | 1 => 2
  | 2 => 4
  | 3 => 7
  | 4 => 9
  | 5 => 12
  | 6 => 15
  | _ => 18
theorem primN_le {id : Int} {a b A B : Nat} (ha : a ≤ A) (hb : b ≤ B) (hA : 2 ≤ A) (hB : 2 ≤ B) : primN id a b ≤ A * B := by
  have h1 : a * b ≤ A * B := Nat.mul_le_mul ha hb
  have h2 : A + B ≤ A * B := by
    have : A * 2 ≤ A * B := Nat.mul_le_mul (Nat.le_refl _) hB
    have : 2 * B ≤ A * B := Nat.mul_le_mul hA (Nat.le_refl _)
    omega
  unfold primN
  split
  · omega
  split
  · exact h1
  · omega
section
variable {C : Mem} {lo : Nat}
set_option maxHeartbeats 1000000 in
theorem steps_codeC (hK : Kt C) (hCo : ∀ b o v, C b o v → b < lo) {x y id : Nat} (hx : x ≤ 1048576) (hy : y ≤ 1048576) (hid : 1 ≤ id ∧ id ≤ 3) :
    StepsBy C lo 8 (Iv C lo 20 8 (codeC x y id) (StC x y id) bdC) := by
  intro k w q hk hC h ⟨hst, hwd, hat⟩
  have hat := hat hk
  have hv1 : primN id x y ≤ 1099511627776 := primN_le (A := 1048576) (B := 1048576) hx hy (by decide) (by decide)
  have hv2 : primN id (primN id x y) x ≤ 1152921504606846976 := primN_le (A := 1099511627776) (B := 1048576) hv1 hx (by decide) (by decide)
  have hl4 : ∀ n, n ≤ 1152921504606846977 → (digs BB n).length ≤ 4 := fun n hn => by
    have := sz2 hn
    unfold sz at this
    omega
  have hus := hst.usd
  have hlen := hst.len
  have hcase : k = 0 ∨ k = 1 ∨ k = 2 ∨ k = 3 ∨ k = 4 ∨ k = 5 ∨ k = 6 ∨ k = 7 := by omega
  rcases hcase with rfl | rfl | rfl | rfl | rfl | rfl | rfl | rfl
  · have hc := step_num hC hK hCo h hat (x := x) rfl hx (by rw [hlen]; simp [StC])
    -- 0: how many go, 2: the numbers' room
    refine ⟨hc.1, hc.2.mono ?_⟩
    rintro e w' ⟨rfl, q1, p', u', hd, hput, hqw, hqg, hsm, hat⟩
    refine ⟨rfl, p', hd, hsm.puts hput, ?_, (hsm.puts hput).words.trans hwd, fun _ => hat.puts hput⟩
    exact hst.puts (s := 2) hput hqw hqg (by simp [StC]) (by first | exact sz1 hx | exact sz1 hy | exact sz2 (by omega))
  · have hc := step_num hC hK hCo h hat (x := y) rfl hy (by rw [hlen]; simp [StC])
    -- 0: how many go, 2: the numbers' room
    refine ⟨hc.1, hc.2.mono ?_⟩
    rintro e w' ⟨rfl, q1, p', u', hd, hput, hqw, hqg, hsm, hat⟩
    refine ⟨rfl, p', hd, hsm.puts hput, ?_, (hsm.puts hput).words.trans hwd, fun _ => hat.puts hput⟩
    exact hst.puts (s := 2) hput hqw hqg (by simp [StC]) (by first | exact sz1 hx | exact sz1 hy | exact sz2 (by omega))
  · obtain ⟨u, v, hws, hu, hv⟩ := hst.two
    have hc := step_prim hC hK hCo h hat (id := id) (x := x) (y := y) (l := []) rfl hws (by simp) hu hv hid (by omega) (hl4 _ (by omega)) (hl4 _ (by omega)) (fits_of hus (by rw [hwd]; decide) (by omega))
    -- 2: how many go, 3: the numbers' room
    refine ⟨hc.1, hc.2.mono ?_⟩
    rintro e w' ⟨rfl, q1, p', u', hd, hput, hqw, hqg, hsm, hat⟩
    refine ⟨rfl, p', hd, hsm.puts hput, ?_, (hsm.puts hput).words.trans hwd, fun _ => hat.puts hput⟩
    exact hst.puts (s := 3) hput hqw hqg (by simp [StC]) (by first | exact sz1 hx | exact sz1 hy | exact sz2 (by omega))
  · have hc := step_num hC hK hCo h hat (x := x) rfl hx (by rw [hlen]; simp [StC])
    -- 0: how many go, 2: the numbers' room
    refine ⟨hc.1, hc.2.mono ?_⟩
    rintro e w' ⟨rfl, q1, p', u', hd, hput, hqw, hqg, hsm, hat⟩
    refine ⟨rfl, p', hd, hsm.puts hput, ?_, (hsm.puts hput).words.trans hwd, fun _ => hat.puts hput⟩
    exact hst.puts (s := 2) hput hqw hqg (by simp [StC]) (by first | exact sz1 hx | exact sz1 hy | exact sz2 (by omega))
  · obtain ⟨u, v, hws, hu, hv⟩ := hst.two
    have hc := step_prim hC hK hCo h hat (id := id) (x := primN id x y) (y := x) (l := []) rfl hws (by simp) hu hv hid (by omega) (hl4 _ (by omega)) (hl4 _ (by omega)) (fits_of hus (by rw [hwd]; decide) (by omega))
    -- 2: how many go, 3: the numbers' room
    refine ⟨hc.1, hc.2.mono ?_⟩
    rintro e w' ⟨rfl, q1, p', u', hd, hput, hqw, hqg, hsm, hat⟩
    refine ⟨rfl, p', hd, hsm.puts hput, ?_, (hsm.puts hput).words.trans hwd, fun _ => hat.puts hput⟩
    exact hst.puts (s := 3) hput hqw hqg (by simp [StC]) (by first | exact sz1 hx | exact sz1 hy | exact sz2 (by omega))
  · obtain ⟨u, hws, hu⟩ := hst.one
    have hc := step_succ hC hK hCo h hat (x := primN id (primN id x y) x) (l := []) rfl hws (by simp) hu (hl4 _ (by omega)) (fits_of hus (by rw [hwd]; decide) (by omega))
    -- 1: how many go, 3: the numbers' room
    refine ⟨hc.1, hc.2.mono ?_⟩
    rintro e w' ⟨rfl, q1, p', u', hd, hput, hqw, hqg, hsm, hat⟩
    refine ⟨rfl, p', hd, hsm.puts hput, ?_, (hsm.puts hput).words.trans hwd, fun _ => hat.puts hput⟩
    exact hst.puts (s := 3) hput hqw hqg (by simp [StC]) (by first | exact sz1 hx | exact sz1 hy | exact sz2 (by omega))
  · obtain ⟨u, hws, hu⟩ := hst.one
    have hc := step_peel hC hK hCo h hat (x := primN id (primN id x y) x + 1) (l := []) rfl hws (by simp) hu (by omega) (hl4 _ (by omega)) (fits_of hus (by rw [hwd]; decide) (by omega))
    -- 1: how many go, 3: the numbers' room
    refine ⟨hc.1, hc.2.mono ?_⟩
    rintro e w' ⟨rfl, q1, p', u', hd, hput, hqw, hqg, hsm, hat⟩
    refine ⟨rfl, p', hd, hsm.puts hput, ?_, (hsm.puts hput).words.trans hwd, fun _ => hat.puts hput⟩
    exact hst.puts (s := 3) hput hqw hqg (by simp [StC]) (by first | exact sz1 hx | exact sz1 hy | exact sz2 (by omega))
  · obtain ⟨u, hws, hu⟩ := hst.one
    have hc := step_ret hC hCo h hat rfl hws
    refine ⟨hc.1, hc.2.mono ?_⟩
    rintro e w' ⟨rfl, vs', vf', hd⟩
    refine ⟨rfl, _, hd, ⟨rfl, rfl, rfl, rfl, rfl, rfl, rfl⟩, ⟨by show [u].length = _; rfl, fun i n hi => ?_, hst.usd⟩, hwd, fun hk => by omega⟩
    have := hst.wd i n hi
    rw [hws] at this
    exact this
end
end Go.Proofs.YtbggaljmollhmaaGreatDoor

/-
  Package vm at numbers: what comes of three programs.
-/
set_option linter.unusedSimpArgs false
set_option linter.unusedVariables false
namespace Go.Proofs.YtbggaljmollhmaaGreatDoor
open Go.Wx Nm Vm Vc Cd
section
variable {C : Mem} {lo : Nat}
def StN (x : Nat) : Nat → List Nat
  | 0 => []
  | _ => [x]
def bdN : Nat → Nat
  | 0 => 0
  | _ => 2
theorem steps_codeN (hK : Kt C) (hCo : ∀ b o v, C b o v → b < lo) {x W : Nat} (hx : x ≤ 1048576) :
    StepsBy C lo 2 (Iv C lo W 2 (codeN x) (StN x) bdN) := by
  intro k w q hk hC h ⟨hst, hwd, hat⟩
  have hat := hat hk
  have hlen := hst.len
  have hcase : k = 0 ∨ k = 1 := by omega
  rcases hcase with rfl | rfl
  · have hc := step_num hC hK hCo h hat (x := x) rfl hx (by rw [hlen]; simp [StN])
    refine ⟨hc.1, hc.2.mono ?_⟩
    rintro e w' ⟨rfl, q1, p', u', hd, hput, hqw, hqg, hsm, hat⟩
    refine ⟨rfl, p', hd, hsm.puts hput, ?_, (hsm.puts hput).words.trans hwd, fun _ => hat.puts hput⟩
    exact hst.puts (s := 2) hput hqw hqg (by simp [StN]) (sz1 hx)
  · obtain ⟨u, hws, hu⟩ := hst.one
    have hc := step_ret hC hCo h hat rfl hws
    refine ⟨hc.1, hc.2.mono ?_⟩
    rintro e w' ⟨rfl, vs', vf', hd⟩
    refine ⟨rfl, _, hd, ⟨rfl, rfl, rfl, rfl, rfl, rfl, rfl⟩, ⟨by show [u].length = _; rfl, fun i n hi => ?_, hst.usd⟩, hwd, fun hk => by omega⟩
    have := hst.wd i n hi
    rw [hws] at this
    exact this
/-- the box's program -/
def Ib (C : Mem) (lo : Nat) (k : Nat) (q : Pm) : Prop := q.ws = (if k = 0 then [] else [3]) ∧ (k < 2 → At C lo q codeB k)
theorem ib_stays : Stays (Ib C lo) := fun k q f s ⟨h1, h2⟩ => ⟨h1, fun hk => ⟨(h2 hk).sl, (h2 hk).lt⟩⟩
theorem steps_codeB (hCo : ∀ b o v, C b o v → b < lo) : StepsBy C lo 2 (Ib C lo) := by
  intro k w q hk hC h ⟨hws, hat⟩
  have hat := hat hk
  have hcase : k = 0 ∨ k = 1 := by omega
  rcases hcase with rfl | rfl
  · have hws : q.ws = [] := hws
    have hc := step_box hC hCo h hat rfl (by rw [hws]; simp)
    refine ⟨hc.1, hc.2.mono ?_⟩
    rintro e w' ⟨rfl, q1, v', hd, hqg, hsm, hat⟩
    refine ⟨rfl, _, hd, ⟨hsm.bm, hsm.bc, hsm.words, hsm.fuel, hsm.steps, hsm.kind, hsm.vv⟩, ?_, fun _ => ⟨hat.sl, hat.lt⟩⟩
    show q.ws ++ [3] = _
    rw [hws]
    rfl
  · have hws : q.ws = [3] := hws
    have hc := step_ret hC hCo h hat rfl hws
    refine ⟨hc.1, hc.2.mono ?_⟩
    rintro e w' ⟨rfl, vs', vf', hd⟩
    exact ⟨rfl, _, hd, ⟨rfl, rfl, rfl, rfl, rfl, rfl, rfl⟩, rfl, fun hk => by omega⟩
theorem runs_codeC (hK : Kt C) (hCo : ∀ b o v, C b o v → b < lo) {x y id : Nat} (hx : x ≤ 1048576) (hy : y ≤ 1048576) (hid : 1 ≤ id ∧ id ≤ 3) :
    RunsTo C lo (codeC x y id) 20 20 2 0 (numsB (valB (primN id (primN id x y) x))) 8 := by
  intro w p h hC hat hws hG hwd hfu hs0 hv
  have hv1 : primN id x y ≤ 1099511627776 := primN_le (A := 1048576) (B := 1048576) hx hy (by decide) (by decide)
  have hv2 : primN id (primN id x y) x ≤ 1152921504606846976 := primN_le (A := 1099511627776) (B := 1048576) hv1 hx (by decide) (by decide)
  have hr := runNum_ct hC hCo h (N := 8) (n := primN id (primN id x y) x) (steps_codeC hK hCo hx hy hid) iv_stays ⟨⟨by rw [hws]; rfl, fun i n hi => by simp [StC] at hi, by rw [hG]; simp [usd, Vc.flat]⟩, hwd, fun _ => hat⟩ (by decide) (by omega) hs0 hv (fun q hq => hq.1.one) (by
    have := sz2 (n := primN id (primN id x y) x) (by omega)
    unfold sz at this
    omega)
  exact ⟨hr.1, hr.2.mono fun e w' ⟨v, mo, he, hvb, hd⟩ => ⟨_, he, ⟨v, mo, rfl, hvb⟩, hd⟩⟩
theorem runs_codeN (hK : Kt C) (hCo : ∀ b o v, C b o v → b < lo) {x : Nat} (hx : x ≤ 1048576) : RunsTo C lo (codeN x) 10 10 2 0 (numsB (valB x)) 2 := by
  intro w p h hC hat hws hG hwd hfu hs0 hv
  have hr := runNum_ct hC hCo h (N := 2) (n := x) (steps_codeN hK hCo (W := 10) hx) iv_stays ⟨⟨by rw [hws]; rfl, fun i n hi => by simp [StN] at hi, by rw [hG]; simp [usd, Vc.flat]⟩, hwd, fun _ => hat⟩ (by decide) (by omega) hs0 hv (fun q hq => hq.1.one) (by
    have := sz1 hx
    unfold sz at this
    omega)
  exact ⟨hr.1, hr.2.mono fun e w' ⟨v, mo, he, hvb, hd⟩ => ⟨_, he, ⟨v, mo, rfl, hvb⟩, hd⟩⟩
theorem runs_codeB (hCo : ∀ b o v, C b o v → b < lo) : RunsTo C lo codeB 10 10 1 23 [] 2 := by
  intro w p h hC hat hws hG hwd hfu hs0 hv
  have hr := runBox_ct hC hCo h (N := 2) (steps_codeB hCo) ib_stays ⟨hws, fun _ => hat⟩ (by decide) (by omega) hs0 (fun q hq => ⟨3, hq.1, rfl⟩)
  exact ⟨hr.1, hr.2.mono fun e w' ⟨mo, he, hd⟩ => ⟨_, he, ⟨_, mo, rfl, ⟨none, 0, rfl, Sl.nil _ _ _⟩⟩, hd⟩⟩
end
end Go.Proofs.YtbggaljmollhmaaGreatDoor

/-
  The document's numbers as bytes, and bytes that are the same (as in the Code texts).
-/
set_option linter.unusedSimpArgs false
set_option linter.unusedVariables false
namespace Go.Wx
section
variable {P : Program} {w : World} {k : Value → World → Prop} {t : TypeId}
theorem remU {j : IntKind} {x y : Nat} (z : Nat) (hy : 0 < y) (hz : x % y = z) (h : k (.int j (z : Int)) w) : EvRun P (binOp .rem t (.int j (x : Int)) (.int j (y : Int))) w k := by
  subst hz
  refine run ?_ h
  simp only [binOp_rem, Op.intDiv]
  rw [if_neg (show ¬ (y : Int) = 0 by omega), Int.tmod_eq_emod_of_nonneg (by omega), ← Int.natCast_emod]
  rfl
theorem quoU {x y : Nat} (z : Nat) (hx : x < 18446744073709551616) (hy : 0 < y) (hz : x / y = z) (h : k (.int .u64 (z : Int)) w) : EvRun P (binOp .quo t (.int .u64 (x : Int)) (.int .u64 (y : Int))) w k := by
  refine run ?_ h
  have h1 : z ≤ x := by rw [← hz]; exact Nat.div_le_self _ _
  have hw := wrap64 (x := (z : Int)) (by omega) (by omega)
  simp only [binOp_quo, Op.intDiv]
  rw [if_neg (show ¬ (y : Int) = 0 by omega), Int.tdiv_eq_ediv_of_nonneg (by omega), ← Int.natCast_ediv, hz, hw]
  rfl
end
theorem wrap64' (x : Int) : IntKind.wrap .u64 x = x % 18446744073709551616 := by
  simp only [IntKind.wrap, IntKind.bits, IntKind.signed]
  simp
theorem Own.one8 {e lo : Nat} {w : World} {b x : Nat} (hb : Bk w.heap b [.int .u8 (x : Int)] e) (h : lo ≤ b) (hx : x < 256) : Own rU8 e lo w (.slice (some ⟨b, 0, none⟩) 1 1) [x] :=
  ⟨⟨[[.int .u8 (x : Int)]], own_bk (n := 1) hb h rfl (by simp [maxLen]), ⟨rfl, hx⟩, trivial⟩, Nat.le_trans h (Nat.le_of_lt hb.lt)⟩
end Go.Wx
namespace Go.Proofs.YtbggaljmollhmaaGreatDoor
open Go.Wx Nm Vm Vc Cd
theorem same02_ct {C D : Mem} {w : World} (hS : Sub C w) (hD : Sub D w) (l m : List Nat) (a a' : Option Addr) (c c' : Nat) (hl : Sl rU8 C a l) (hm : Sl rU8 D a' m) :
    CallOk Tryz.prog 13 ∧ Calls Tryz.prog 13 #[.slice a l.length c, .slice a' m.length c'] w (fun e w' => e = .returned (.bool (decide (l = m))) ∧ Kp [] w w') := by
  refine ⟨⟨_, Tryz.func13, rfl, by decide⟩, ?_⟩
  have hlen := hl.1
  obtain ⟨RES, hRES⟩ : ∃ r, decide (l = m) = r := ⟨_, rfl⟩
  rw [hRES]
  refine calls_of (args := [_, _]) 26 [.tmp 4] τok Tryz.func13 rfl rfl rfl (Nat.le_of_ble_eq_true rfl) ?_
  refine br_dec (fun h1 => ?_) (fun h1 => ?_)
  · have : ¬ l = m := fun e => h1 (by rw [e])
    exact ⟨by rw [← hRES, decide_eq_false this]; rfl, Kp.refl _ _⟩
  have h1 : l.length = m.length := by
    have : (l.length : Int) = m.length := by simpa using h1
    omega
  refine lp τok (σ := Nat) (fun k => [(0, .slice a l.length c), (1, .slice a' m.length c'), (5, .int .i64 k)]) (fun k w' => k ≤ l.length ∧ Kp [] w w' ∧ RES = decide (l.drop k = m.drop k)) (fun k => l.length - k) 0 rfl
    ⟨rfl, rfl, rfl, trivial⟩ ⟨Nat.zero_le _, Kp.refl _ _, hRES.symm⟩ ?_
  rintro k w1 ⟨hk, hkp, hr⟩
  refine br_dec (fun h => ?_) (fun h => ?_)
  · have hlt : k < l.length := by omega
    obtain ⟨x, hx, hd⟩ := drop_get hlt
    obtain ⟨y, hy, hd'⟩ := drop_get (l := m) (k := k) (by omega)
    rw [hd, hd'] at hr
    obtain ⟨b, o, rfl, hcell, _⟩ := hl.u8 hx
    obtain ⟨b', o', rfl, hcell', _⟩ := hm.u8 hy
    have hc1 := (hS.tr hkp) _ _ _ hcell
    have hc2 := (hD.tr hkp) _ _ _ hcell'
    refine drawR τok (by kernel_rfl) ?_
    refine ix k rfl hlt ?_
    refine ldR hc1 ?_
    refine ix k rfl (by omega) ?_
    refine ldR hc2 ?_
    intro m'
    refine br_dec (fun hc => ?_) (fun hc => ?_)
    · have : x ≠ y := fun e => hc (by rw [e])
      refine ⟨?_, hkp.dr _⟩
      rw [hr, decide_eq_false (by simp [this])]
      rfl
    · have : x = y := by
        have : (x : Int) = y := by simpa using hc
        omega
      subst this
      refine int64 (by omega) (by omega) ?_
      refine ⟨k + 1, by omega, rfl, ⟨rfl, rfl, rfl, trivial⟩, hlt, hkp.dr _, ?_⟩
      rw [hr]
      simp
  · refine ⟨?_, hkp⟩
    rw [hr, List.drop_eq_nil_of_le (by omega), List.drop_eq_nil_of_le (by omega)]
    rfl

set_option maxRecDepth 20000 in
theorem form02_ct (n : Nat) : ∀ (hn : n < 18446744073709551616) (w : World), CallOk Tryz.prog 19 ∧ Calls Tryz.prog 19 #[.int .u64 (n : Int)] w
    (fun e w' => ∃ v, e = .returned v ∧ Own rU8 5 w.heap.size w' v (formM n) ∧ Kp [] w w') := by
  induction n using Nat.strongRecOn with
  | _ n ih =>
    intro hn w
    refine ⟨⟨_, Tryz.func19, rfl, by decide⟩, ?_⟩
    refine calls_of (args := [_]) 17 [.tmp 2] τok Tryz.func19 rfl rfl rfl (Nat.le_of_ble_eq_true rfl) ?_
    refine br_dec (fun h1 => ?_) (fun h1 => ?_)
    · have h1 : n < 128 := by
        have h1 : (n : Int) < 128 := h1
        omega
      refine intv ((n : Nat) : Int) (by rw [wrap8']; omega) ?_
      refine fill [.int .u8 ((n : Nat) : Int)] rfl ?_
      refine new fun b2 w2 hb2 hB2 hs2 hk2 => ?_
      refine ⟨_, rfl, ?_, hk2⟩
      rw [formM_small h1]
      exact Own.one8 hB2 (by omega) (by omega)
    · have h1 : ¬ n < 128 := by
        have h1 : ¬ (n : Int) < 128 := h1
        omega
      refine remU (x := n) (y := 128) (n % 128) (by omega) rfl ?_
      refine u64n (n % 128 + 128) (by omega) (by simp) ?_
      refine intv ((n % 128 + 128 : Nat) : Int) (by rw [wrap8']; omega) ?_
      refine fill [.int .u8 ((n % 128 + 128 : Nat) : Int)] rfl ?_
      refine new fun b2 w2 hb2 hB2 hs2 hk2 => ?_
      refine quoU (x := n) (y := 128) (n / 128) hn (by omega) rfl ?_
      refine ev_call (ih (n / 128) (by omega) (by omega) w2) ?_
      rintro e w3 ⟨v, rfl, hO, hk3⟩
      have h10 := formM_len10 (n := n / 128) (by omega)
      obtain ⟨a, cap, rfl, hSl⟩ := hO.den (by omega)
      have hO1 : Own rU8 5 w.heap.size w3 (.slice (some ⟨b2, 0, none⟩) 1 1) [n % 128 + 128] := Own.one8 (hB2.kp hk3 (by simp)) (by omega) (by omega)
      refine hO1.apF τok rfl rfl Nat.one_pos flat8 (New.sub _ _) (formM (n / 128)) hSl (by simp only [List.length_singleton]; omega) (by simp only [List.length_singleton, maxLen]; omega) fun v' w4 hO4 hk4 _ => ?_
      refine ⟨v', rfl, ?_, (hk2.tr hk3).own hk4 hO1⟩
      rw [formM_big h1]
      exact hO4

end Go.Proofs.YtbggaljmollhmaaGreatDoor

