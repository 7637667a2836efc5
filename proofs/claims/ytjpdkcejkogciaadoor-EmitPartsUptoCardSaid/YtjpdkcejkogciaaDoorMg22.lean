/-
  Own texts put together: EmBa, EmBb, EmCa, EmCb, EmCc.
-/
import Derived.Test.YtjpdkcejkogciaaDoorMg21
/-
  Package emit: rows without switch and peel: one instruction a node; EmitLines.
-/
set_option linter.unusedSimpArgs false
set_option linter.unusedVariables false
namespace Cd
open Go Go.Wx
def is14 (i : Ins) : Bool := decide (i.op = 14)
def is67 (n : Nd) : Bool := decide (n.op = 67)
def Lin (l : List Ins) (r : List Nd) : Prop := (∀ i ∈ l, i.to = []) ∧ l.countP is14 = r.countP is67 ∧ l.length = r.length
theorem Lin.app {l l' : List Ins} {r r' : List Nd} (h : Lin l r) (h' : Lin l' r') : Lin (l ++ l') (r ++ r') := by
  obtain ⟨h1, h2, h3⟩ := h
  obtain ⟨g1, g2, g3⟩ := h'
  refine ⟨fun i hi => ?_, by rw [List.countP_append, List.countP_append, h2, g2], by simp [h3, g3]⟩
  rcases List.mem_append.1 hi with hi | hi
  · exact h1 i hi
  · exact g1 i hi
theorem doneOp_14 (op : Int) : doneOp op ≠ 14 := by
  unfold doneOp
  repeat' split
  all_goals omega
section
variable {p : Flt}
mutual
theorem gen_lines : ∀ (x : Tr) (tk : Int), okT (cntF p) nxF x (tk, false) → (∀ n ∈ row x, n.op ≠ 69 ∧ n.op ≠ 72) → ∀ (h : Int) (ps : List Int) (b : Nat), Lin (gen x h ps b) (row x)
  | .mk n ks, tk, hok, hno, h, ps, b => by
    obtain ⟨h70, c, hc, hcl⟩ := ok_ndF hok
    have h70 : ¬ n.op = 70 := by simpa using h70
    have hn := hno n (by simp [row])
    have hk : ∀ m ∈ rows ks, m.op ≠ 69 ∧ m.op ≠ 72 := fun m hm => hno m (by simp [row, hm])
    simp only [gen]
    by_cases o1 : n.op = 61
    · rw [if_pos o1]
      have hks : ks = [] := by
        unfold ndF at hc
        simp [o1] at hc
        exact List.length_eq_zero_iff.1 (by omega)
      subst hks
      simp [row, rows, Lin, ins0, is14, is67, o1]
    rw [if_neg o1]
    by_cases o2 : n.op = 67
    · rw [if_pos o2]
      obtain ⟨v, x, rfl, h1, h2⟩ := ok_let hok o2
      have e1 := gen_lines v _ h1 (fun m hm => hk m (by simp [rows, hm])) h ps b
      have e2 := gen_lines x _ h2 (fun m hm => hk m (by simp [rows, hm])) (h + 1) (ps ++ rng h 1) (b + (gen v h ps b).length)
      have e3 := e1.app e2
      obtain ⟨f1, f2, f3⟩ := e3
      simp only [genLet, underG, row, rows, List.append_nil]
      rw [show slides 1 = [ins0 14 1 0] from rfl, ← List.append_assoc]
      refine ⟨fun i hi => ?_, ?_, ?_⟩
      · rcases List.mem_append.1 hi with hi | hi
        · exact f1 i hi
        · simp at hi
          subst hi
          rfl
      · rw [List.countP_append, List.countP_cons]
        rw [show ((1 : Int)).toNat = 1 from rfl, f2]
        simp [is14, is67, o2, ins0]
      · simp only [List.length_append, List.length_cons, List.length_nil] at f3 ⊢
        rw [show ((1 : Int)).toNat = 1 from rfl]
        omega
    rw [if_neg o2, if_neg hn.2, if_neg hn.1, if_neg h70]
    have e := genAll_lines ks tk (ok_all hok o2 hn.2 hn.1 h70) hk h ps b
    obtain ⟨f1, f2, f3⟩ := e
    simp only [row]
    refine ⟨fun i hi => ?_, ?_, ?_⟩
    · rcases List.mem_append.1 hi with hi | hi
      · exact f1 i hi
      · simp at hi
        subst hi
        rfl
    · rw [List.countP_append, f2]
      simp [is14, is67, o2, ins0, doneOp_14]
    · simp [f3]
theorem genAll_lines : ∀ (l : List Tr) (tk : Int), (∀ x ∈ l, okT (cntF p) nxF x (tk, false)) → (∀ n ∈ rows l, n.op ≠ 69 ∧ n.op ≠ 72) → ∀ (h : Int) (ps : List Int) (b : Nat), Lin (genAll l h ps b) (rows l)
  | [], _, _, _, _, _, _ => ⟨by simp [genAll], rfl, rfl⟩
  | x :: r, tk, hok, hno, h, ps, b => by
    simp only [genAll, rows]
    exact (gen_lines x tk (hok x (by simp)) (fun m hm => hno m (by simp [rows, hm])) h ps b).app (genAll_lines r tk (fun y hy => hok y (by simp [hy])) (fun m hm => hno m (by simp [rows, hm])) _ _ _)
end
/-- the code of such a row: one line a node, and the last one -/
theorem code_lines {t : List Nd} {m : Nat} (hok : wholeF p t (m : Int) = true) (hno : ∀ n ∈ t, n.op ≠ 69 ∧ n.op ≠ 72) : ∃ l, codeE p t m = l ++ [ins0 6 0 0] ∧ Lin l t := by
  obtain ⟨h1, h2⟩ := whole_tree hok
  refine ⟨gen (treeF p t m) m (rng 0 m) 0, rfl, ?_⟩
  have := gen_lines (treeF p t m) m h2 (by rw [← h1]; exact hno) m (rng 0 m) 0
  rwa [← h1] at this
end
end Cd

/-
  Package emit: EmitLines.
-/
set_option linter.unusedSimpArgs false
set_option linter.unusedVariables false
namespace Cd
open Go Go.Wx
theorem makeM_no {p : Flt} {q : Brd} (h : (makeM p q).2 ≠ 0) : (makeM p q).1 = codZ := by
  unfold makeM at h ⊢
  repeat' split
  all_goals first | rfl | skip
  rename_i h1 h2 h3 h4 h5
  rw [if_neg h1, if_neg h2, if_neg h3, if_neg h4, if_neg h5] at h
  exact absurd rfl h
theorem makeM_yes {p : Flt} {q : Brd} (h : (makeM p q).2 = 0) : (makeM p q).1 = codeM p q ∧ rightF p = 0 := by
  unfold makeM at h ⊢
  by_cases h1 : rightF p ≠ 0
  · rw [if_pos h1] at h
    exact absurd h h1
  rw [if_neg h1] at h ⊢
  by_cases h2 : rightB q ≠ 0
  · rw [if_pos h2] at h
    exact absurd h h2
  rw [if_neg h2] at h ⊢
  by_cases h3 : p.bodies.length ≠ q.bodies.length
  · rw [if_pos h3] at h
    cases h
  rw [if_neg h3] at h ⊢
  by_cases h4 : difM p.bodies q.bodies = true
  · rw [if_pos h4] at h
    cases h
  rw [if_neg h4] at h ⊢
  by_cases h5 : checkM (codeM p q) ≠ 0
  · rw [if_pos h5] at h
    exact absurd h h5
  rw [if_neg h5]
  exact ⟨rfl, by simpa using h1⟩
theorem countP_step {α : Type} {f : α → Bool} {l : List α} {k : Nat} {x : α} (h : l[k]? = some x) : (l.take (k + 1)).countP f = (l.take k).countP f + (if f x then 1 else 0) := by
  rw [take_get h, List.countP_append, List.countP_cons]
  simp
end Cd
namespace Go.Proofs.YtjpdkcejkogciaaDoor
open Go.Wx Cd
section
variable {C : Mem} {w : World}
set_option maxHeartbeats 2000000 in
theorem emitLines_ct (hS : Sub C w) (hT : Tab C) {p : Flt} {q : Brd} {cf cg : List Value} (hp : rFlt.den C cf p) (hq : rBrd.den C cg q) :
    CallOk Tryd.prog 4 ∧ Calls Tryd.prog 4 #[.agg cf.toArray, .agg cg.toArray] w (fun e w' => e = .returned (.bool true) ∧ Kp [] w w') := by
  refine ⟨⟨_, Tryd.func4, rfl, by decide⟩, ?_⟩
  have hp0 := hp
  have hq0 := hq
  obtain ⟨a1, c1, a2, c2, a3, c3, rfl, _, _, h3, _⟩ := hp
  obtain ⟨d1, e1, d2, e2, d3, e3, d4, e4, rfl, _⟩ := hq
  have hl3 := h3.1
  refine calls_of (args := [_, _]) 101 [.tmp 4] τok Tryd.func4 rfl rfl rfl (Nat.le_of_ble_eq_true rfl) ?_
  refine new fun b2 w1 hb2 hB2 hs1 hk1 => ?_
  refine new fun b3 w2 hb3 hB3 hs2 hk2 => ?_
  have hB2 := hB2.kp hk2 (by simp)
  have hk02 := hk1.tr hk2
  refine ev_call (awake_ct (hS.tr hk02) hT) ?_
  rintro e w3 ⟨rfl, hk3⟩
  have hB2 := hB2.kp hk3 (by simp)
  have hB3 := hB3.kp hk3 (by simp)
  have hk03 := hk02.tr hk3
  refine ldN _ rfl (fun j v hj => by rw [Nat.zero_add]; exact hB2.cl hj) ?_
  refine ldN _ rfl (fun j v hj => by rw [Nat.zero_add]; exact hB3.cl hj) ?_
  refine ev_call (heavy_ct (hS.tr hk03) hp0 hq0) ?_
  rintro e w4 ⟨b, rfl, hw, hk4⟩
  have hB2 := hB2.kp hk4 (by simp)
  have hB3 := hB3.kp hk4 (by simp)
  have hk04 := hk03.tr hk4
  have hS4 := hS.tr hk04
  refine br (fun g => ?_) (fun g => ?_)
  · exact ⟨rfl, hk04⟩
  have hw := hw g
  refine lp τok (σ := Nat) (fun i => [(2, .pointer (some ⟨b2, 0, none⟩)), (3, .pointer (some ⟨b3, 0, none⟩)), (5, .int .i64 ((p.main.take i).countP is67 : Nat)), (6, .int .i64 i)])
    (fun i u => u = w4 ∧ i ≤ p.main.length ∧ ∀ n ∈ p.main.take i, n.op ≠ 69 ∧ n.op ≠ 72) (fun i => p.main.length - i) 0 rfl
    ⟨rfl, rfl, rfl, rfl, trivial⟩ ⟨rfl, Nat.zero_le _, by simp⟩ ?_
  rintro i u ⟨rfl, hi, hno⟩
  have hcl : (p.main.take i).countP is67 ≤ i := Nat.le_trans List.countP_le_length (by simp; omega)
  refine ld (Bk.cl hB2 rfl).cell ?_
  refine br_dec (fun g1 => ?_) (fun g1 => ?_)
  · have hil : i < p.main.length := by omega
    obtain ⟨n, hn, _⟩ := drop_get hil
    obtain ⟨bn, on, han, i1, i2, i3, hcells⟩ := sl_nd h3 hn
    have hst := countP_step (f := is67) hn
    refine ld (Bk.cl hB2 rfl).cell ?_
    refine ixE han i rfl hil ?_
    refine ld (hS4 _ _ _ (hcells 0 _ rfl)).cell ?_
    refine br_dec (fun g2 => ?_) (fun g2 => ?_)
    · exact ⟨rfl, hk04⟩
    refine br_dec (fun g3 => ?_) (fun g3 => ?_)
    · exact ⟨rfl, hk04⟩
    have hno' : ∀ m ∈ p.main.take (i + 1), m.op ≠ 69 ∧ m.op ≠ 72 := fun m hm => by
      rw [take_get hn] at hm
      rcases List.mem_append.1 hm with hm | hm
      · exact hno m hm
      · simp at hm
        subst hm
        exact ⟨g2, g3⟩
    refine br_dec (fun g4 => ?_) (fun g4 => ?_)
    · rw [if_pos (by simpa [is67] using g4)] at hst
      refine int64 (by omega) (by omega) ?_
      refine int64 (by omega) (by omega) ?_
      exact ⟨i + 1, by omega, rfl, ⟨rfl, rfl, eqI (by rw [hst]; rfl), rfl, trivial⟩, rfl, hil, hno'⟩
    · rw [if_neg (by simpa [is67] using g4)] at hst
      refine int64 (by omega) (by omega) ?_
      exact ⟨i + 1, by omega, rfl, ⟨rfl, rfl, eqI (by rw [hst]; rfl), rfl, trivial⟩, rfl, hil, hno'⟩
  rw [List.take_of_length_le (by omega)] at hno hcl
  have hte : (p.main.take i) = p.main := List.take_of_length_le (by omega)
  rw [hte]
  refine ldN _ rfl (fun j v hj => by rw [Nat.zero_add]; exact Bk.cl hB2 hj) ?_
  refine ldN _ rfl (fun j v hj => by rw [Nat.zero_add]; exact Bk.cl hB3 hj) ?_
  obtain ⟨M, hM⟩ : ∃ m, makeM p q = m := ⟨_, rfl⟩
  refine ev_call (make_ct hS4 hT hp0 hq0 hw) ?_
  rw [hM]
  rintro e w5 ⟨cs, rfl, hc, hk5⟩
  obtain ⟨x1, y1, x2, y2, x3, y3, x4, y4, hcs, _, _, _, hsm, _⟩ := hc
  have hB2 := Bk.kp hB2 hk5 (by simp)
  have hk05 := hk04.tr hk5
  subst hcs
  refine new fun b5 w6 hb5 hB5 hs6 hk6 => ?_
  refine stN (vs := [.int .i64 M.1.nat, .slice x1 M.1.shapes.length y1, .slice x2 M.1.funs.length y2, .slice x3 M.1.bodies.length y3, .slice x4 M.1.main.length y4]) hB5 rfl (by simp [Value.oneCell']) fun w7 hB5 hs7 hk7 => ?_
  have hk57 : Kp [] w5 w7 := hk6.newSt hb5 hk7
  have hB2 := Bk.kp hB2 hk57 (by simp)
  have hk07 := hk05.tr hk57
  have hsm := hsm.mono fun b o v (hv : New u.heap.size w5 b o v) => (⟨hv.1, hv.2.kp hk57 (by simp)⟩ : New u.heap.size w7 b o v)
  have hml := hsm.1
  refine br_dec (fun g5 => ?_) (fun g5 => ?_)
  · have hz : M.1 = codZ := by rw [← hM] at g5 ⊢; exact makeM_no g5
    refine ld (Bk.cl hB5 rfl).cell ?_
    refine ⟨?_, hk07⟩
    rw [hz]
    rfl
  obtain ⟨hy1, hy2⟩ := makeM_yes (p := p) (q := q) (by rw [hM]; omega)
  rw [hM] at hy1
  obtain ⟨l, hl, hL1, hL2, hL3⟩ := code_lines (m := 0) (fok_of hy2).main hno
  have hmain : M.1.main = l ++ [ins0 6 0 0] := by rw [hy1]; exact hl
  obtain ⟨cm, hcm⟩ : ∃ c, M.1.main = c := ⟨_, rfl⟩
  rw [hcm] at hsm hml hmain
  have hto : ∀ x ∈ cm, x.to = [] := fun x hx => by
    rw [hmain] at hx
    rcases List.mem_append.1 hx with hx | hx
    · exact hL1 x hx
    · simp at hx
      subst hx
      rfl
  have hcml : cm.length = p.main.length + 1 := by rw [hmain]; simp [hL3]
  have hcnt : cm.countP is14 = p.main.countP is67 := by rw [hmain, List.countP_append, hL2]; simp [is14, ins0]
  rw [hcm] at hB5
  refine lp τok (σ := Nat) (fun j => [(2, .pointer (some ⟨b2, 0, none⟩)), (5, .int .i64 (p.main.countP is67 : Nat)), (8, .pointer (some ⟨b5, 0, none⟩)), (10, .int .i64 ((cm.take j).countP is14 : Nat)), (11, .int .i64 j)])
    (fun j z => z = w7 ∧ j ≤ cm.length) (fun j => cm.length - j) 0 rfl
    ⟨rfl, rfl, rfl, rfl, rfl, trivial⟩ ⟨rfl, Nat.zero_le _⟩ ?_
  rintro j z ⟨rfl, hj⟩
  have hcl2 : (cm.take j).countP is14 ≤ j := Nat.le_trans List.countP_le_length (by simp; omega)
  refine ld (Bk.cl hB5 rfl).cell ?_
  refine br_dec (fun g6 => ?_) (fun g6 => ?_)
  · have hjl : j < cm.length := by omega
    obtain ⟨x, hx, _⟩ := drop_get hjl
    obtain ⟨bx, ox, hax, at', ct, _, _, _, _, hcells⟩ := sl_ins hsm hx
    have hxt := hto x (List.mem_of_getElem? hx)
    have hst := countP_step (f := is14) hx
    refine ld (Bk.cl hB5 rfl).cell ?_
    refine ixE hax j rfl hjl ?_
    refine ld (hcells 3 _ rfl).2.cl.cell ?_
    refine br_no (by rw [hxt]; simp) ?_
    refine ld (Bk.cl hB5 rfl).cell ?_
    refine ixE hax j rfl hjl ?_
    refine ld (hcells 0 _ rfl).2.cl.cell ?_
    refine br_dec (fun g7 => ?_) (fun g7 => ?_)
    · rw [if_pos (by simpa [is14] using g7)] at hst
      refine int64 (by omega) (by omega) ?_
      refine int64 (by omega) (by omega) ?_
      exact ⟨j + 1, by omega, rfl, ⟨rfl, rfl, rfl, eqI (by rw [hst]; rfl), rfl, trivial⟩, rfl, hjl⟩
    · rw [if_neg (by simpa [is14] using g7)] at hst
      refine int64 (by omega) (by omega) ?_
      exact ⟨j + 1, by omega, rfl, ⟨rfl, rfl, rfl, eqI (by rw [hst]; rfl), rfl, trivial⟩, rfl, hjl⟩
  have hte2 : cm.take j = cm := List.take_of_length_le (by omega)
  rw [hte2]
  refine ld (Bk.cl hB5 rfl).cell ?_
  refine ld (Bk.cl hB2 rfl).cell ?_
  refine int64 (by omega) (by omega) ?_
  refine br_yes (by omega) ?_
  refine br_yes (by rw [hcnt]) ?_
  obtain ⟨bx, ox, hax, at', ct, _, _, _, _, hcells⟩ := sl_ins hsm (i := p.main.length) (x := ins0 6 0 0) (by rw [hmain, List.getElem?_append_right (by omega), hL3]; simp)
  refine ld (Bk.cl hB5 rfl).cell ?_
  refine ld (Bk.cl hB5 rfl).cell ?_
  refine int64 (by omega) (by omega) ?_
  refine ixE hax p.main.length (by omega) (by omega) ?_
  refine ld (hcells 0 _ rfl).2.cl.cell ?_
  exact ⟨rfl, hk07⟩
end
end Go.Proofs.YtjpdkcejkogciaaDoor

/-
  Reference 18: CopyFlatted.
-/
set_option linter.unusedSimpArgs false
set_option linter.unusedVariables false
namespace Go.Wx
theorem Own.denc {α : Type} {R : Rd α} {e lo : Nat} {w : World} {v : Value} {l : List α} (h : Own R e lo w v l) (hl : l.length ≤ 1099511627776) : ∃ a cap, v = .slice a l.length cap ∧ l.length ≤ cap ∧ Sl R (New lo w) a l := by
  obtain ⟨a, cap, hv, hs⟩ := h.den hl
  obtain ⟨a', cap', hv', hc⟩ := h.cap
  rw [hv] at hv'
  injection hv' with e1 e2 e3
  subst e1 e3
  exact ⟨a, cap, hv, hc, hs⟩
end Go.Wx
namespace Go.Proofs.YtjpdkcejkogciaaDoor
open Go.Wx Cd
set_option maxHeartbeats 4000000 in
theorem copyFlat_ct {C : Mem} {w : World} (hS : Sub C w) {cf : List Value} {p : Flt} (hp : rFlt.den C cf p) :
    CallOk Tryd.prog 12 ∧ Calls Tryd.prog 12 #[.agg cf.toArray] w (fun e w' => ∃ cs, e = .returned (.agg cs.toArray) ∧ rFlt.den (New w.heap.size w') cs p ∧ Kp [] w w') := by
  refine ⟨⟨_, Tryd.func12, rfl, by decide⟩, ?_⟩
  obtain ⟨a1, c1, a2, c2, a3, c3, rfl, h1, h2, h3, h4⟩ := hp
  have hl1 := h1.1
  have hl2 := h2.1
  have hl3 := h3.1
  refine calls_of (args := [_]) 58 [.cell 2 27] τok Tryd.func12 rfl rfl rfl (Nat.le_of_ble_eq_true rfl) ?_
  refine new fun b1 w1 hb1 hB1 hs1 hk1 => ?_
  refine new fun b2 w2 hb2 hB2 hs2 hk2 => ?_
  have hB1 : Bk w2.heap b1 [.slice a1 p.funs.length c1, .slice a2 p.bodies.length c2, .slice a3 p.main.length c3] 27 := Bk.kp hB1 hk2 (by simp)
  have hk02 := hk1.tr hk2
  refine fill [] rfl ?_
  refine new fun b6 w3 hb6 hB6 hs6 hk6 => ?_
  have hk03 := hk02.tr hk6
  refine ld ((hB1.kp hk6 (by simp)).cl rfl).cell ?_
  have hO6 : Own rNd 47 w2.heap.size w3 (.slice (some ⟨b6, 0, none⟩) 0 0) [] := Own.empty rNd hB6 (by omega)
  refine hO6.apF τok rfl rfl (by decide) flatNd (hS.tr hk03) p.main h3 (by simp; omega) (by simp [maxLen]; omega) fun v4 w4 hO4 hk4 _ => ?_
  have hk24 : Kp [] w2 w4 := hk6.own hk4 hO6
  rw [List.nil_append] at hO4
  obtain ⟨am, cm, hvm, hcm, hsm⟩ := hO4.denc hl3
  subst hvm
  refine new fun b3 w5 hb3 hB3 hs5 hk5 => ?_
  refine stN (vs := [.slice none 0 0, .slice none 0 0, .slice am p.main.length cm]) hB3 rfl (by simp [Value.oneCell']) fun w6 hB3 hs6' hk6' => ?_
  have hk46 : Kp [] w4 w6 := hk5.newSt hb3 hk6'
  have hk26 := hk24.tr hk46
  have hB1 := hB1.kp hk26 (by simp)
  have hB2 := Bk.kp hB2 hk26 (by simp)
  have hk06 := hk02.tr hk26
  have hz1 := hk1.size
  have hz24 := hk24.size
  have hb1l : b1 < w2.heap.size := by omega
  have hb2l : b2 < w2.heap.size := by omega
  have hb3l : b3 < w6.heap.size := hB3.lt
  have hb3g : w2.heap.size ≤ b3 := by omega
  have hsm : Sl rNd (fun b o t => w2.heap.size ≤ b ∧ b ≠ b3 ∧ Cu w6.heap b o t) am p.main := hsm.mono fun b o t ht => ⟨ht.1, fun e => by have := ht.2.lt; omega, ht.2.kp hk46 (by simp)⟩
  clear hk5 hk6' hs5 hs6' hk6 hk4 hO4 hO6 hB6 hs6 hb6
  -- functions
  refine lp τok (σ := Nat × Value) (fun q => [(1, .pointer (some ⟨b1, 0, none⟩)), (2, .pointer (some ⟨b2, 0, none⟩)), (3, .pointer (some ⟨b3, 0, none⟩)), (4, .int .i64 q.1)])
    (fun q u => q.1 ≤ p.funs.length ∧ Kp [b3] w6 u ∧ Bk u.heap b3 [q.2, .slice none 0 0, .slice am p.main.length cm] 27 ∧ Own rFfn 55 w6.heap.size u q.2 (p.funs.take q.1)) (fun q => p.funs.length - q.1) (0, .slice none 0 0) rfl
    ⟨rfl, rfl, rfl, rfl, trivial⟩ ⟨Nat.zero_le _, Kp.refl _ _, hB3, Own.nil _ _ (Nat.le_refl _)⟩ ?_
  rintro ⟨k, v0⟩ u ⟨hk, hkp, hB3, hO⟩
  simp only at hk hB3 hO
  have hB1u := hB1.kp hkp (by simp; omega)
  have k0u : Kp [] w u := hk06.trans hkp (fun x hx hl => by simp at hx; omega)
  have hSu := hS.tr k0u
  refine ld (hB1u.cl rfl).cell ?_
  refine br_dec (fun g1 => ?_) (fun g1 => ?_)
  · have hkl : k < p.funs.length := by omega
    obtain ⟨x, hx, _⟩ := drop_get hkl
    obtain ⟨bx, ox, hax, ax, cx, hsx, hxc, hc0, hc1, hcap⟩ := sl_ffn h1 hx
    subst hax
    have hxl := hsx.1
    have htl : (p.funs.take k).length = k := by simp; omega
    refine drawG τok (fun z => Bk z.heap b3 [v0, .slice none 0 0, .slice am p.main.length cm] 27 ∧ Bk z.heap b1 [.slice (some ⟨bx, ox, none⟩) p.funs.length c1, .slice a2 p.bodies.length c2, .slice a3 p.main.length c3] 27 ∧ Sub C z) ?_
    refine readsG τok [0, 1, 2, 3, 4, 5, 6, 7, 9, 10, 11, 12, 13, 14] 7 #[true, true, true, true, true, true, true, true, false, true, true, true, true, true, true, false, false, false, false, false, false] rfl rfl (by kernel_rfl) (by kernel_rfl) (by kernel_rfl) ⟨hB3, hB1u, (by exact fun b o v hc => hSu b o v hc)⟩ ?_
    refine ldQ (fun z hz => hz.1.cl rfl) ?_
    refine ldQ (fun z hz => hz.2.1.cl rfl) ?_
    refine ix k rfl hkl ?_
    refine ldQ (fun z hz => hz.2.2 _ _ _ hc0) ?_
    refine ldQ (fun z hz => hz.2.1.cl rfl) ?_
    refine ix k rfl hkl ?_
    refine ldQ (fun z hz => hz.2.2 _ _ _ hc1) ?_
    refine nextG τok 8 6 #[true, true, true, true, true, true, true, true, true, true, true, true, true, true, true, false, false, false, false, false, false] rfl rfl rfl (by kernel_rfl) ?_
    refine fill [] rfl ?_
    refine new fun b5 u1 hb5 hB5 hs5 hk5 => ?_
    have hk5 : Kp [] u u1 := hk5.rd
    have hb5 : b5 = u.heap.size := hb5
    refine ⟨.inl ⟨hB3.kp hk5 (by simp), hB1u.kp hk5 (by simp), hSu.tr hk5⟩, ?_⟩
    refine nextG τok 15 5 #[true, true, true, true, true, true, true, true, true, true, true, true, true, true, true, true, false, false, false, false, false] rfl rfl rfl (by kernel_rfl) ?_
    have hO5 : Own rNd 47 u.heap.size u1 (.slice (some ⟨b5, 0, none⟩) 0 0) [] := Own.empty rNd hB5 (by omega)
    refine hO5.apF τok rfl rfl (by decide) flatNd (hSu.tr hk5) x.body hsx (by simp; omega) (by simp [maxLen]; omega) fun v6 u2 hO6 hk6 _ => ?_
    have hk02' : Kp [] u u2 := hk5.own hk6 hO5
    rw [List.nil_append] at hO6
    obtain ⟨a6, c6, hv6, hc6, hs6⟩ := hO6.denc (by omega)
    subst hv6
    refine ⟨.inl ⟨hB3.kp hk02' (by simp), hB1u.kp hk02' (by simp), hSu.tr hk02'⟩, ?_⟩
    refine nextG τok 16 4 #[true, true, true, true, true, true, true, true, true, true, true, true, true, true, true, true, true, false, false, false, false] rfl rfl rfl (by kernel_rfl) ?_
    refine ⟨.inl ⟨hB3.kp hk02' (by simp), hB1u.kp hk02' (by simp), hSu.tr hk02'⟩, ?_⟩
    refine nextG τok 17 3 #[true, true, true, true, true, true, true, true, true, true, true, true, true, true, true, true, true, true, false, false, false] rfl rfl rfl (by kernel_rfl) ?_
    refine fill [.int .i64 x.caps, .slice a6 x.body.length c6] rfl ?_
    refine new fun b7 u3 hb7 hB7 hs7 hk7 => ?_
    have hk03' := hk02'.tr hk7
    refine ⟨.inl ⟨hB3.kp hk03' (by simp), hB1u.kp hk03' (by simp), hSu.tr hk03'⟩, ?_⟩
    refine nextG τok 18 2 #[true, true, true, true, true, true, true, true, true, true, true, true, true, true, true, true, true, true, true, false, false] rfl rfl rfl (by kernel_rfl) ?_
    have hblk := hO.block
    refine (hO.kp hk03').ap1 τok rfl rfl (by decide) x [.int .i64 x.caps, .slice a6 x.body.length c6] ⟨a6, c6, rfl, hs6.mono (new_dn hO hk7), hxc, hc6⟩ (fun j t hj => by rw [Nat.zero_add]; exact hB7.cl hj) (by rw [htl]; omega) (by rw [htl]; simp only [maxLen]; omega) fun v8 u4 hO8 hk8 _ => ?_
    have hX : ∀ g ∈ v0.ownBlock.toList, w6.heap.size ≤ g := fun g hg => (hblk g (by simpa using hg)).1
    have hB34 := (hB3.kp hk03' (by simp)).kp hk8 (fun hx => by have := hX _ hx; omega)
    have hB14 := (hB1u.kp hk03' (by simp)).kp hk8 (fun hx => by have := hX _ hx; have := hk26.size; omega)
    have hS4 : Sub C u4 := (hSu.tr hk03').kp hk8 fun b o v hc hx => by have := hX _ hx; have := hS.lt b o v hc; have := hk06.size; omega
    refine ⟨.inl ⟨hB34, hB14, hS4⟩, ?_⟩
    refine nextG τok 19 1 #[true, true, true, true, true, true, true, true, true, true, true, true, true, true, true, true, true, true, true, true, false] rfl rfl rfl (by kernel_rfl) ?_
    refine ⟨.inl ⟨hB34, hB14, hS4⟩, ?_⟩
    refine nextG τok 20 0 #[true, true, true, true, true, true, true, true, true, true, true, true, true, true, true, true, true, true, true, true, true] rfl rfl rfl (by kernel_rfl) ?_
    obtain ⟨aw, cw, hvw⟩ := hO8.len
    refine st hB34 (by simp) (by rw [hvw]; rfl) fun u5 hB35 hs9 hk9 => ?_
    refine ⟨.inr (by kernel_rfl), ?_⟩
    refine doneG (by kernel_rfl) ?_
    refine int64 (by (try simp only); omega) (by (try simp only); omega) ?_
    refine ⟨(k + 1, v8), by simp only; omega, rfl, ⟨rfl, rfl, rfl, rfl, trivial⟩, hkl, ((hkp.tr hk03').ownX hk8 (hO.kp hk03')).trans hk9 (fun x hx _ => hx), hB35, ?_⟩
    simp only
    rw [take_get hx]
    exact hO8.kpl hk9 (by simp; omega)
  rw [List.take_of_length_le (by omega)] at hO
  obtain ⟨afn, cfn, hvf, hSf⟩ := hO.den (by omega)
  subst hvf
  clear hk g1
  -- bodies
  obtain ⟨uF, huF⟩ : ∃ z, u = z := ⟨_, rfl⟩
  rw [huF] at hB3 hkp hB1u k0u hSu hSf
  rw [huF]
  clear hO huF u
  have hzF := hkp.size
  have hz26 := hk26.size
  have hz02 := hk02.size
  refine lp τok (σ := Nat × Value) (fun q => [(1, .pointer (some ⟨b1, 0, none⟩)), (2, .pointer (some ⟨b2, 0, none⟩)), (3, .pointer (some ⟨b3, 0, none⟩)), (5, .int .i64 q.1)])
    (fun q u => q.1 ≤ p.bodies.length ∧ Kp [b3] uF u ∧ Bk u.heap b3 [.slice afn p.funs.length cfn, q.2, .slice am p.main.length cm] 27 ∧ Own (rSk rNd) 25 uF.heap.size u q.2 (p.bodies.take q.1)) (fun q => p.bodies.length - q.1) (0, .slice none 0 0) rfl
    ⟨rfl, rfl, rfl, rfl, trivial⟩ ⟨Nat.zero_le _, Kp.refl _ _, hB3, Own.nil _ _ (Nat.le_refl _)⟩ ?_
  clear hB3
  rintro ⟨k, v0⟩ u ⟨hk, hkq, hB3, hO⟩
  simp only at hk hB3 hO
  have hB1u := hB1u.kp hkq (by simp; omega)
  have k0z : Kp [] w u := k0u.trans hkq (fun x hx hl => by simp at hx; omega)
  have hSu := hS.tr k0z
  refine ld (hB1u.cl rfl).cell ?_
  refine br_dec (fun g1 => ?_) (fun g1 => ?_)
  · have hkl : k < p.bodies.length := by omega
    obtain ⟨x, hx, _⟩ := drop_get hkl
    obtain ⟨bx, ox, hax, ax, cx, hcx, hcap, hsx⟩ := h2.sk hx
    subst hax
    have hxl := hsx.1
    have htl : (p.bodies.take k).length = k := by simp; omega
    refine drawG τok (fun z => Bk z.heap b3 [.slice afn p.funs.length cfn, v0, .slice am p.main.length cm] 27 ∧ Bk z.heap b1 [.slice a1 p.funs.length c1, .slice (some ⟨bx, ox, none⟩) p.bodies.length c2, .slice a3 p.main.length c3] 27 ∧ Sub C z) ?_
    refine readsG τok [0, 1, 3, 4, 5, 6, 7] 6 #[true, true, false, true, true, true, true, true, false, false, false, false, false] rfl rfl (by kernel_rfl) (by kernel_rfl) (by kernel_rfl) ⟨hB3, hB1u, (by exact fun b o v hc => hSu b o v hc)⟩ ?_
    refine ldQ (fun z hz => hz.1.cl rfl) ?_
    refine ldQ (fun z hz => hz.2.1.cl rfl) ?_
    refine ix k rfl hkl ?_
    refine ldQ (fun z hz => hz.2.2 _ _ _ hcx) ?_
    refine nextG τok 2 5 #[true, true, true, true, true, true, true, true, false, false, false, false, false] rfl rfl rfl (by kernel_rfl) ?_
    refine fill [] rfl ?_
    refine new fun b5 u1 hb5 hB5 hs5 hk5 => ?_
    have hk5 : Kp [] u u1 := hk5.rd
    have hb5 : b5 = u.heap.size := hb5
    refine ⟨.inl ⟨hB3.kp hk5 (by simp), hB1u.kp hk5 (by simp), hSu.tr hk5⟩, ?_⟩
    refine nextG τok 8 4 #[true, true, true, true, true, true, true, true, true, false, false, false, false] rfl rfl rfl (by kernel_rfl) ?_
    have hO5 : Own rNd 47 u.heap.size u1 (.slice (some ⟨b5, 0, none⟩) 0 0) [] := Own.empty rNd hB5 (by omega)
    refine hO5.apF τok rfl rfl (by decide) flatNd (hSu.tr hk5) x hsx (by simp; omega) (by simp [maxLen]; omega) fun v6 u2 hO6 hk6 _ => ?_
    have hk02' : Kp [] u u2 := hk5.own hk6 hO5
    rw [List.nil_append] at hO6
    obtain ⟨a6, c6, hv6, hc6, hs6⟩ := hO6.denc (by omega)
    subst hv6
    refine ⟨.inl ⟨hB3.kp hk02' (by simp), hB1u.kp hk02' (by simp), hSu.tr hk02'⟩, ?_⟩
    refine nextG τok 9 3 #[true, true, true, true, true, true, true, true, true, true, false, false, false] rfl rfl rfl (by kernel_rfl) ?_
    refine fill [.slice a6 x.length c6] rfl ?_
    refine new fun b7 u3 hb7 hB7 hs7 hk7 => ?_
    have hk03' := hk02'.tr hk7
    refine ⟨.inl ⟨hB3.kp hk03' (by simp), hB1u.kp hk03' (by simp), hSu.tr hk03'⟩, ?_⟩
    refine nextG τok 10 2 #[true, true, true, true, true, true, true, true, true, true, true, false, false] rfl rfl rfl (by kernel_rfl) ?_
    have hblk := hO.block
    refine (hO.kp hk03').ap1 τok rfl rfl (by decide) x [.slice a6 x.length c6] ⟨a6, c6, rfl, hc6, hs6.mono (new_dn hO hk7)⟩ (fun j t hj => by rw [Nat.zero_add]; exact hB7.cl hj) (by rw [htl]; omega) (by rw [htl]; simp only [maxLen]; omega) fun v8 u4 hO8 hk8 _ => ?_
    have hX : ∀ g ∈ v0.ownBlock.toList, uF.heap.size ≤ g := fun g hg => (hblk g (by simpa using hg)).1
    have hB34 := (hB3.kp hk03' (by simp)).kp hk8 (fun hx => by have := hX _ hx; omega)
    have hB14 := (hB1u.kp hk03' (by simp)).kp hk8 (fun hx => by have := hX _ hx; omega)
    have hS4 : Sub C u4 := (hSu.tr hk03').kp hk8 fun b o v hc hx => by have := hX _ hx; have := hS.lt b o v hc; omega
    refine ⟨.inl ⟨hB34, hB14, hS4⟩, ?_⟩
    refine nextG τok 11 1 #[true, true, true, true, true, true, true, true, true, true, true, true, false] rfl rfl rfl (by kernel_rfl) ?_
    refine ⟨.inl ⟨hB34, hB14, hS4⟩, ?_⟩
    refine nextG τok 12 0 #[true, true, true, true, true, true, true, true, true, true, true, true, true] rfl rfl rfl (by kernel_rfl) ?_
    obtain ⟨aw, cw, hvw⟩ := hO8.len
    refine st hB34 (by simp) (by rw [hvw]; rfl) fun u5 hB35 hs9 hk9 => ?_
    refine ⟨.inr (by kernel_rfl), ?_⟩
    refine doneG (by kernel_rfl) ?_
    refine int64 (by (try simp only); omega) (by (try simp only); omega) ?_
    refine ⟨(k + 1, v8), by simp only; omega, rfl, ⟨rfl, rfl, rfl, rfl, trivial⟩, hkl, ((hkq.tr hk03').ownX hk8 (hO.kp hk03')).trans hk9 (fun x hx _ => hx), hB35, ?_⟩
    simp only
    rw [take_get hx]
    exact hO8.kpl hk9 (by simp; omega)
  rw [List.take_of_length_le (by omega)] at hO
  obtain ⟨abd, cbd, hvb, hSb⟩ := hO.den (by omega)
  subst hvb
  have hk6u : Kp [b3] w6 u := hkp.trans hkq (fun x hx _ => hx)
  have hB2u := Bk.kp hB2 hk6u (by simp; omega)
  refine ldN [.slice afn p.funs.length cfn, .slice abd p.bodies.length cbd, .slice am p.main.length cm] rfl (fun j v hj => by rw [Nat.zero_add]; exact hB3.cl hj) ?_
  refine stN (vs := [.slice afn p.funs.length cfn, .slice abd p.bodies.length cbd, .slice am p.main.length cm]) hB2u rfl (by simp [Value.oneCell']) fun w7 hB7 hs7 hk7 => ?_
  refine resN τok rfl [.slice afn p.funs.length cfn, .slice abd p.bodies.length cbd, .slice am p.main.length cm] rfl (fun j v hj => hB7.cl hj) ?_
  refine ⟨_, rfl, ⟨afn, cfn, abd, cbd, am, cm, rfl, ?_, ?_, ?_, hcm⟩, k0z.trans hk7 fun x hx hl => by simp at hx; omega⟩
  · exact hSf.mono fun b o v hv => ⟨by have := hv.1; omega, (hv.2.kp hkq (by have := hv.1; simp; omega)).kp hk7 (by have := hv.1; simp; omega)⟩
  · exact hSb.mono fun b o v hv => ⟨by have := hv.1; omega, hv.2.kp hk7 (by have := hv.1; simp; omega)⟩
  · exact hsm.mono fun b o v hv => ⟨by have := hv.1; omega, (hv.2.2.kp hk6u (by simpa using hv.2.1)).kp hk7 (by have := hv.1; simp; omega)⟩
end Go.Proofs.YtjpdkcejkogciaaDoor

/-
  Package emit, in plain Lean: the same program with another Main.
-/
set_option linter.unusedSimpArgs false
set_option linter.unusedVariables false
namespace Cd
open Go Go.Wx
def boxF (p : Flt) : Flt := ⟨p.funs, p.bodies, [⟨62, 0, 0⟩]⟩
theorem glen_pos {p : Flt} : ∀ (f : Nat) (x : Tr) (tk : Int), tsize x ≤ f → okT (cntF p) nxF x (tk, false) → 1 ≤ glen x
  | 0, x, tk, hf, _ => by have := tsize_pos x; omega
  | f + 1, .mk n ks, tk, hf, hok => by
    obtain ⟨h70, c, hc, hcl⟩ := ok_ndF hok
    have h70 : ¬ n.op = 70 := by simpa using h70
    simp only [glen]
    by_cases o1 : n.op = 61
    · rw [if_pos o1]; omega
    rw [if_neg o1]
    by_cases o2 : n.op = 67
    · rw [if_pos o2]; omega
    rw [if_neg o2]
    by_cases o3 : n.op = 72
    · rw [if_pos o3]; omega
    rw [if_neg o3]
    by_cases o4 : n.op = 69
    · rw [if_pos o4]
      obtain ⟨v, arms, rfl, hb, h1, h2⟩ := ok_sw hok o4
      have := glen_pos f v tk (by simp only [tsize, tsizes] at hf; omega) h1
      simp only [glens]
      omega
    rw [if_neg o4, if_neg h70]
    omega
theorem codeBox (p : Flt) : wholeF (boxF p) (boxF p).main 0 = true ∧ codeE (boxF p) (boxF p).main 0 = [ins0 1 0 0, ins0 6 0 0] := by
  have hok : okT (cntF (boxF p)) nxF (.mk ⟨62, 0, 0⟩ []) (((0 : Nat) : Int), false) := ⟨rfl, trivial⟩
  have ht := treeOf_of hok
  have hr : row (.mk ⟨62, 0, 0⟩ []) = (boxF p).main := rfl
  rw [hr] at ht
  refine ⟨?_, ?_⟩
  · unfold wholeF
    rw [show ((0 : Int), false) = (((0 : Nat) : Int), false) from rfl, ht]
    rfl
  · unfold codeE treeF
    rw [ht]
    rfl
theorem foldS {α : Type} (f : Bool × Int → α → Bool × Int) (hf : ∀ s s' x, (s.1 = true → s'.1 = true) → s'.2 ≤ max s.2 1 → ((f s x).1 = true → (f s' x).1 = true) ∧ (f s' x).2 ≤ max (f s x).2 1) :
    ∀ (l : List α) (s s' : Bool × Int), (s.1 = true → s'.1 = true) → s'.2 ≤ max s.2 1 → ((l.foldl f s).1 = true → (l.foldl f s').1 = true) ∧ (l.foldl f s').2 ≤ max (l.foldl f s).2 1
  | [], s, s', h1, h2 => ⟨h1, h2⟩
  | x :: l, s, s', h1, h2 => foldS f hf l _ _ (hf s s' x h1 h2).1 (hf s s' x h1 h2).2
theorem stepB_ok (c : Cod) (code : List Ins) (fl : Int) (s s' : Bool × Int) (h1 : s.1 = true → s'.1 = true) (h2 : s'.2 ≤ max s.2 1) : ((stepB c s code fl).1 = true → (stepB c s' code fl).1 = true) ∧ (stepB c s' code fl).2 ≤ max (stepB c s code fl).2 1 := by
  refine ⟨fun h => ?_, ?_⟩
  · simp only [stepB, Bool.and_eq_true] at h ⊢
    exact ⟨h1 h.1, h.2⟩
  · simp only [stepB]
    omega
theorem oneM_main (c : Cod) (m : List Ins) : oneM { c with main := m } = oneM c := rfl
theorem blkM_main (c : Cod) (m : List Ins) (len : Nat) (fl : Int) : ∀ (l : List Ins) (i : Nat) (s : List Int × Int), blkM { c with main := m } len fl i l s = blkM c len fl i l s
  | [], _, _ => rfl
  | n :: r, i, s => by
    simp only [blkM]
    rw [oneM_main]
    split
    · rfl
    · congr 1
      funext t
      exact blkM_main c m len fl r (i + 1) t
theorem blockM_main (c : Cod) (m code : List Ins) (fl : Int) : blockM { c with main := m } code fl = blockM c code fl := by
  unfold blockM
  split
  · rfl
  · exact blkM_main c m _ fl code 0 _
theorem stepB_main (c : Cod) (m : List Ins) : stepB { c with main := m } = stepB c := by
  funext s code fl
  unfold stepB
  rw [blockM_main]
theorem blocksM_main (c : Cod) (m : List Ins) : blocksM { c with main := m } = c.bodies.foldl (stepY c) (c.funs.foldl (stepF c) ((blockM c m 0).isSome, (blockM c m 0).getD 0)) := by
  unfold blocksM
  rw [blockM_main]
  have e1 : stepF { c with main := m } = stepF c := by
    funext s f
    unfold stepF
    rw [stepB_main]
  have e2 : stepY { c with main := m } = stepY c := by
    funext s b
    unfold stepY
    rw [stepB_main]
  rw [e1, e2]
/-- code stays good with the shortest Main -/
theorem check_main {c : Cod} (h : checkM c = 0) (h2 : 2 ≤ c.main.length) : checkM { c with main := [ins0 1 0 0, ins0 6 0 0] } = 0 := by
  obtain ⟨c', hc'⟩ : ∃ x, ({ c with main := [ins0 1 0 0, ins0 6 0 0] } : Cod) = x := ⟨_, rfl⟩
  unfold checkM at h
  split at h
  · omega
  rename_i g1
  split at h
  · omega
  rename_i g2
  split at h
  · omega
  rename_i g3
  split at h
  · omega
  rename_i g4
  split at h
  · omega
  rename_i g5
  have hb : blockM { c with main := [ins0 1 0 0, ins0 6 0 0] } [ins0 1 0 0, ins0 6 0 0] 0 = some 1 := rfl
  have hfold := foldS (stepY c) (fun s s' x k1 k2 => by
    unfold stepY
    split
    · exact stepB_ok c x 0 s s' k1 k2
    · exact ⟨k1, k2⟩) c.bodies (c.funs.foldl (stepF c) ((blockM c c.main 0).isSome, (blockM c c.main 0).getD 0)) (c.funs.foldl (stepF c) (true, 1))
  have hfun := foldS (stepF c) (fun s s' x k1 k2 => stepB_ok c x.code (x.caps + 1) s s' k1 k2) c.funs ((blockM c c.main 0).isSome, (blockM c c.main 0).getD 0) (true, 1) (fun _ => rfl) (by simp only; omega)
  have hall := hfold hfun.1 hfun.2
  have hbl : blocksM { c with main := [ins0 1 0 0, ins0 6 0 0] } = c.bodies.foldl (stepY c) (c.funs.foldl (stepF c) (true, 1)) := by
    rw [blocksM_main, ← blockM_main c [ins0 1 0 0, ins0 6 0 0], hb]
    rfl
  have hbl0 : blocksM c = c.bodies.foldl (stepY c) (c.funs.foldl (stepF c) ((blockM c c.main 0).isSome, (blockM c c.main 0).getD 0)) := rfl
  rw [← hbl, ← hbl0] at hall
  unfold checkM
  refine (if_neg ?_).trans ((if_neg ?_).trans ((if_neg ?_).trans ((if_neg ?_).trans (if_neg ?_))))
  · simp only [sizeM] at g1 ⊢
    simp only [List.length_cons, List.length_nil]
    omega
  · exact g2
  · exact g3
  · have := hall.1 (by simpa using g4)
    rw [this]
    decide
  · omega
theorem cntF_box (p : Flt) : cntF (boxF p) = cntF p := rfl
theorem wholeF_box (p : Flt) (t : List Nd) (tk : Int) : wholeF (boxF p) t tk = wholeF p t tk := by
  unfold wholeF
  rw [cntF_box]
theorem codeE_box (p : Flt) (t : List Nd) (m : Nat) : codeE (boxF p) t m = codeE p t m := by
  unfold codeE treeF
  rw [cntF_box]
theorem rightF_box {p : Flt} (h : rightF p = 0) : rightF (boxF p) = 0 := by
  have hb := (codeBox p).1
  unfold rightF at h ⊢
  split at h
  · omega
  rename_i g1
  split at h
  · omega
  rename_i g2
  split at h
  · omega
  rename_i g3
  split at h
  · omega
  rename_i g4
  refine (if_neg ?_).trans ((if_neg ?_).trans ((if_neg ?_).trans ((if_neg ?_).trans (if_neg ?_))))
  · exact g1
  · exact g2
  · simp only [wholeF_box]
    exact g3
  · simp only [wholeF_box]
    exact g4
  · rw [hb]
    decide
theorem makeM_all {p : Flt} {q : Brd} (h : (makeM p q).2 = 0) : rightF p = 0 ∧ rightB q = 0 ∧ p.bodies.length = q.bodies.length ∧ difM p.bodies q.bodies = false ∧ checkM (codeM p q) = 0 := by
  unfold makeM at h
  by_cases h1 : rightF p ≠ 0
  · rw [if_pos h1] at h
    exact absurd h h1
  rw [if_neg h1] at h
  by_cases h2 : rightB q ≠ 0
  · rw [if_pos h2] at h
    exact absurd h h2
  rw [if_neg h2] at h
  by_cases h3 : p.bodies.length ≠ q.bodies.length
  · rw [if_pos h3] at h
    cases h
  rw [if_neg h3] at h
  by_cases h4 : difM p.bodies q.bodies = true
  · rw [if_pos h4] at h
    cases h
  rw [if_neg h4] at h
  by_cases h5 : checkM (codeM p q) ≠ 0
  · rw [if_pos h5] at h
    exact absurd h h5
  exact ⟨by omega, by omega, by omega, by simpa using h4, by omega⟩
theorem codeM_box (p : Flt) (q : Brd) : codeM (boxF p) q = { codeM p q with main := [ins0 1 0 0, ins0 6 0 0] } := by
  have e1 : fnE (boxF p) = fnE p := by
    funext f
    unfold fnE
    rw [codeE_box]
  have e2 : bodyE (boxF p) = bodyE p := by
    funext b
    unfold bodyE
    rw [codeE_box]
  unfold codeM
  rw [e1, e2, (codeBox p).2]
  rfl
theorem make_box {p : Flt} {q : Brd} (h : (makeM p q).2 = 0) : makeM (boxF p) q = ({ codeM p q with main := [ins0 1 0 0, ins0 6 0 0] }, 0) := by
  obtain ⟨h1, h2, h3, h4, h5⟩ := makeM_all h
  have hf := fok_of h1
  obtain ⟨t1, t2⟩ := whole_tree (m := 0) hf.main
  have hgp := glen_pos _ _ 0 (Nat.le_refl _) t2
  have hgl := gen_len _ _ t2 ((0 : Nat) : Int) (rng 0 0) 0
  have hm : 2 ≤ (codeM p q).main.length := by
    show 2 ≤ (codeE p p.main 0).length
    unfold codeE blockE
    simp only [List.length_append, List.length_cons, List.length_nil]
    omega
  have hc := check_main h5 hm
  unfold makeM
  rw [codeM_box, if_neg (by rw [rightF_box h1]; decide), if_neg (by omega), if_neg (show ¬ (boxF p).bodies.length ≠ q.bodies.length by simp only [boxF]; omega), if_neg (show ¬ difM (boxF p).bodies q.bodies = true by simp only [boxF]; rw [h4]; decide), if_neg (by rw [hc]; decide)]
end Cd

/-
  Package emit: EmitParts.
-/
set_option linter.unusedSimpArgs false
set_option linter.unusedVariables false
namespace Go.Proofs.YtjpdkcejkogciaaDoor
open Go.Wx Cd
section
variable {C : Mem} {w : World}
theorem weight_box {p : Flt} (h : weightF p < 5000) (h0 : 0 < p.main.length) : weightF (boxF p) < 5000 := by
  unfold weightF at h ⊢
  simp only [boxF, List.length_cons, List.length_nil]
  omega
set_option maxHeartbeats 2000000 in
theorem emitParts_ct (hS : Sub C w) (hT : Tab C) {p : Flt} {q : Brd} {cf cg : List Value} (hp : rFlt.den C cf p) (hq : rBrd.den C cg q) :
    CallOk Tryd.prog 5 ∧ Calls Tryd.prog 5 #[.agg cf.toArray, .agg cg.toArray] w (fun e w' => e = .returned (.bool true) ∧ Kp [] w w') := by
  refine ⟨⟨_, Tryd.func5, rfl, by decide⟩, ?_⟩
  have hp0 := hp
  have hq0 := hq
  obtain ⟨a1, c1, a2, c2, a3, c3, rfl, h1, h2, h3, h4⟩ := hp
  obtain ⟨d1, e1, d2, e2, d3, e3, d4, e4, rfl, _⟩ := hq
  have hl1 := h1.1
  refine calls_of (args := [_, _]) 88 [.tmp 4] τok Tryd.func5 rfl rfl rfl (Nat.le_of_ble_eq_true rfl) ?_
  refine new fun b2 w1 hb2 hB2 hs1 hk1 => ?_
  refine new fun b3 w2 hb3 hB3 hs2 hk2 => ?_
  have hB2 := hB2.kp hk2 (by simp)
  have hk02 := hk1.tr hk2
  refine ev_call (awake_ct (hS.tr hk02) hT) ?_
  rintro e w3 ⟨rfl, hk3⟩
  have hB2 := hB2.kp hk3 (by simp)
  have hB3 := hB3.kp hk3 (by simp)
  have hk03 := hk02.tr hk3
  refine ldN _ rfl (fun j v hj => by rw [Nat.zero_add]; exact hB2.cl hj) ?_
  refine ldN _ rfl (fun j v hj => by rw [Nat.zero_add]; exact hB3.cl hj) ?_
  refine ev_call (heavy_ct (hS.tr hk03) hp0 hq0) ?_
  rintro e w4 ⟨b, rfl, hw, hk4⟩
  have hB2 := hB2.kp hk4 (by simp)
  have hB3 := hB3.kp hk4 (by simp)
  have hk04 := hk03.tr hk4
  refine br (fun g => ?_) (fun g => ?_)
  · exact ⟨rfl, hk04⟩
  have hw := hw g
  refine ldN _ rfl (fun j v hj => by rw [Nat.zero_add]; exact hB2.cl hj) ?_
  refine ldN _ rfl (fun j v hj => by rw [Nat.zero_add]; exact hB3.cl hj) ?_
  obtain ⟨M, hM⟩ : ∃ m, makeM p q = m := ⟨_, rfl⟩
  refine ev_call (make_ct (hS.tr hk04) hT hp0 hq0 hw) ?_
  rw [hM]
  rintro e w5 ⟨cs, rfl, hc, hk5⟩
  obtain ⟨x1, y1, x2, y2, x3, y3, x4, y4, hcs, _, hsf, _, _, _⟩ := hc
  subst hcs
  have hB2 := hB2.kp hk5 (by simp)
  have hB3 := hB3.kp hk5 (by simp)
  refine new fun b5 w6 hb5 hB5 hs6 hk6 => ?_
  refine stN (vs := [.int .i64 M.1.nat, .slice x1 M.1.shapes.length y1, .slice x2 M.1.funs.length y2, .slice x3 M.1.bodies.length y3, .slice x4 M.1.main.length y4]) hB5 rfl (by simp [Value.oneCell']) fun w7 hB5 hs7 hk7 => ?_
  have hk57 : Kp [] w5 w7 := hk6.newSt hb5 hk7
  have hB2 := hB2.kp hk57 (by simp)
  have hB3 := hB3.kp hk57 (by simp)
  have hk07 := (hk04.tr hk5).tr hk57
  refine br_dec (fun g5 => ?_) (fun g5 => ?_)
  · exact ⟨rfl, hk07⟩
  have hM2 : M.2 = 0 := by omega
  obtain ⟨hy1, hy2⟩ := makeM_yes (p := p) (q := q) (by rw [hM]; exact hM2)
  have hbox := make_box (p := p) (q := q) (by rw [hM]; exact hM2)
  rw [hM] at hy1
  refine ldN _ rfl (fun j v hj => by rw [Nat.zero_add]; exact hB2.cl hj) ?_
  refine ev_call (copyFlat_ct (hS.tr hk07) hp0) ?_
  rintro e w8 ⟨cf', rfl, hcf, hk8⟩
  obtain ⟨u1, t1, u2, t2, u3, t3, rfl, f1, f2, f3, f4⟩ := hcf
  have hmp : 0 < p.main.length := by
    obtain ⟨t1', _⟩ := whole_tree (m := 0) (fok_of hy2).main
    rw [t1']
    exact row_pos _
  have hB3 := hB3.kp hk8 (by simp)
  have hB2 := hB2.kp hk8 (by simp)
  have hB5 := hB5.kp hk8 (by simp)
  have hk08 := hk07.tr hk8
  refine new fun b7 w9 hb7 hB7 hs9 hk9 => ?_
  refine stN (vs := [.slice u1 p.funs.length t1, .slice u2 p.bodies.length t2, .slice u3 p.main.length t3]) hB7 rfl (by simp [Value.oneCell']) fun w10 hB7 hs10 hk10 => ?_
  have hk810 : Kp [] w8 w10 := hk9.newSt hb7 hk10
  refine fill [.int .i64 62, .int .i64 0, .int .i64 0] rfl ?_
  refine new fun b8 w11 hb8 hB8 hs11 hk11 => ?_
  have hB7l := hB7.lt
  have hB7 := hB7.kp hk11 (by simp)
  refine st hB7 (by simp) rfl fun w12 hB7 hs12 hk12 => ?_
  have hk811 := hk810.tr hk11
  have hb7g : b7 = w8.heap.size := hb7
  have hk812 : Kp [] w8 w12 := hk811.trans hk12 fun x hx hl => by simp at hx; omega
  have hz8 := hk08.size
  have hB3 := hB3.kp hk812 (by simp)
  have hB8 := hB8.kp hk12 (by simp; omega)
  have hk012 := hk08.tr hk812
  have hB5 := hB5.kp hk812 (by simp)
  have hsm1 : Sl rNd (New w.heap.size w12) (some ⟨b8, 0, none⟩) (boxF p).main := sl_nds hB8 (by have := hk811.size; omega) (by simp [boxF]) (by unfold I64; simp [boxF])
  have hdp : rFlt.den (orM C (New w.heap.size w12)) [.slice u1 p.funs.length t1, .slice u2 p.bodies.length t2, .slice (some ⟨b8, 0, none⟩) 1 1] (boxF p) :=
    ⟨u1, t1, u2, t2, some ⟨b8, 0, none⟩, 1, rfl, f1.mono fun b o v hv => .inr ⟨Nat.le_trans hk07.size hv.1, hv.2.kp hk812 (by simp)⟩, f2.mono fun b o v hv => .inr ⟨Nat.le_trans hk07.size hv.1, hv.2.kp hk812 (by simp)⟩, hsm1.mono fun b o v hv => .inr hv, by simp [boxF]⟩
  refine ldN _ rfl (fun j v hj => by rw [Nat.zero_add]; exact hB7.cl hj) ?_
  refine ldN _ rfl (fun j v hj => by rw [Nat.zero_add]; exact hB3.cl hj) ?_
  have call := make_ct (orM_sub (hS.tr hk012) (New.sub w.heap.size w12)) hT.or hdp (rBrd.mono (fun b o v hv => .inl hv) hq0) (weight_box hw hmp)
  rw [hbox] at call
  refine ev_call call ?_
  rintro e w13 ⟨cs2, rfl, hc2, hk13⟩
  obtain ⟨z1, n1, z2, n2, z3, n3, z4, n4, hcs2, _, hsf2, _, _, _⟩ := hc2
  subst hcs2
  have hB5 := hB5.kp hk13 (by simp)
  refine new fun b9 w14 hb9 hB9 hs14 hk14 => ?_
  refine stN (vs := [.int .i64 (codeM p q).nat, .slice z1 (codeM p q).shapes.length n1, .slice z2 (codeM p q).funs.length n2, .slice z3 (codeM p q).bodies.length n3, .slice z4 2 n4]) hB9 rfl (by simp [Value.oneCell']) fun w15 hB9 hs15 hk15 => ?_
  have hk1315 : Kp [] w13 w15 := hk14.newSt hb9 hk15
  have hB5 := hB5.kp hk1315 (by simp)
  have hB2 := (hB2.kp hk812 (by simp)).kp (hk13.tr hk1315) (by simp)
  have hk015 := (hk012.tr hk13).tr hk1315
  rw [hy1] at hB5 hsf
  obtain ⟨nf, hnf⟩ : ∃ n, (codeM p q).funs.length = n := ⟨_, rfl⟩
  have hnfp : nf = p.funs.length := by rw [← hnf]; simp [codeM]
  rw [hnf] at hB5 hB9
  have hsf : Sl rFn (New w4.heap.size w15) x2 (codeM p q).funs := hsf.mono fun b o v hv => ⟨hv.1, (((hv.2.kp hk57 (by simp)).kp hk8 (by simp)).kp hk812 (by simp)).kp (hk13.tr hk1315) (by simp)⟩
  have hsf2 : Sl rFn (New w12.heap.size w15) z2 (codeM p q).funs := hsf2.mono fun b o v hv => ⟨hv.1, hv.2.kp hk1315 (by simp)⟩
  have hS15 := hS.tr hk015
  refine ld (hB9.cl rfl).cell ?_
  refine ld (hB5.cl rfl).cell ?_
  refine br_no (by omega) ?_
  refine ld (hB9.cl rfl).cell ?_
  refine lp τok (σ := Nat) (fun k => [(2, .pointer (some ⟨b2, 0, none⟩)), (5, .pointer (some ⟨b5, 0, none⟩)), (8, .pointer (some ⟨b9, 0, none⟩)), (10, .int .i64 k)]) (fun k u => Kp [] w15 u) (fun k => nf - k) 0 rfl ⟨rfl, rfl, rfl, rfl, trivial⟩ (Kp.refl _ _) ?_
  rintro k u hku
  have hB5u := hB5.kp hku (by simp)
  have hB9u := hB9.kp hku (by simp)
  have hB2u := hB2.kp hku (by simp)
  refine ld (hB5u.cl rfl).cell ?_
  refine br_dec (fun h => ?_) (fun h => ?_)
  · have hlt : k < nf := by omega
    obtain ⟨x, hx, _⟩ := drop_get (l := p.funs) (k := k) (by omega)
    have hxf : (codeM p q).funs[k]? = some (fnE p x) := by simp [codeM, hx]
    obtain ⟨bx, ox, hax, ax, cx, _, _, hc0, _, _⟩ := sl_ffn h1 hx
    obtain ⟨b, o, hb, af, cf, hcode, _, hcp, hcc⟩ := sl_fn hsf hxf
    obtain ⟨b', o', hb', af', cf', hcode', _, hcp', hcc'⟩ := sl_fn hsf2 hxf
    subst hax hb hb'
    refine drawQ τok (fun w' => Kp [] u w') (by kernel_rfl) ((Kp.refl [] u).dr _) ?_
    refine ldK (hB5u.cl rfl) ?_
    refine ix k rfl hlt ?_
    refine ldK (hcp.2.kp hku (by simp)).cl ?_
    refine ldK (hB2u.cl rfl) ?_
    refine ix k rfl (by omega) ?_
    refine ldK ((hS15.tr hku) _ _ _ hc0) ?_
    refine br_dec (fun hc => ?_) (fun _ => ?_)
    · exact absurd rfl hc
    refine ldK (hB5u.cl rfl) ?_
    refine ix k rfl hlt ?_
    refine ldK (hcc.2.kp hku (by simp)).cl ?_
    refine ldK (hB9u.cl rfl) ?_
    refine ix k rfl hlt ?_
    refine ldK (hcc'.2.kp hku (by simp)).cl ?_
    refine callK (v := .bool true) (fun w' hk' => sameBlock_ct ((New.sub w4.heap.size w15).tr (hku.tr hk')) ((New.sub w12.heap.size w15).tr (hku.tr hk')) (fnE p x).code af af' cf cf' hcode hcode') ?_
    intro w7' hk7'
    refine int64 (by omega) (by omega) ?_
    exact ⟨k + 1, by omega, rfl, ⟨rfl, rfl, rfl, rfl, trivial⟩, hku.tr hk7'⟩
  · exact ⟨rfl, hk015.tr hku⟩
end
end Go.Proofs.YtjpdkcejkogciaaDoor

