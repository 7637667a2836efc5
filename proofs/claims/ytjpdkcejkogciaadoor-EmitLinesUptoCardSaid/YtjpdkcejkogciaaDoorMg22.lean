/-
  Own texts put together: EmBa, EmBb.
-/
import Derived.Test.YtjpdkcejkogciaaDoorMg21
/-
  Package emit: rows without switch and peel: one instruction a node; EmitLines.
-/
set_option linter.unusedSimpArgs false
set_option linter.unusedVariables false
namespace Cd
open Go Go.Wx
def is14 (i : Ins) : Bool := decide (i.op = 14)
def is67 (n : Nd) : Bool := decide (n.op = 67)
def Lin (l : List Ins) (r : List Nd) : Prop := (∀ i ∈ l, i.to = []) ∧ l.countP is14 = r.countP is67 ∧ l.length = r.length
theorem Lin.app {l l' : List Ins} {r r' : List Nd} (h : Lin l r) (h' : Lin l' r') : Lin (l ++ l') (r ++ r') := by
  obtain ⟨h1, h2, h3⟩ := h
  obtain ⟨g1, g2, g3⟩ := h'
  refine ⟨fun i hi => ?_, by rw [List.countP_append, List.countP_append, h2, g2], by simp [h3, g3]⟩
  rcases List.mem_append.1 hi with hi | hi
  · exact h1 i hi
  · exact g1 i hi
theorem doneOp_14 (op : Int) : doneOp op ≠ 14 := by
  unfold doneOp
  repeat' split
  all_goals omega
section
variable {p : Flt}
mutual
theorem gen_lines : ∀ (x : Tr) (tk : Int), okT (cntF p) nxF x (tk, false) → (∀ n ∈ row x, n.op ≠ 69 ∧ n.op ≠ 72) → ∀ (h : Int) (ps : List Int) (b : Nat), Lin (gen x h ps b) (row x)
  | .mk n ks, tk, hok, hno, h, ps, b => by
    obtain ⟨h70, c, hc, hcl⟩ := ok_ndF hok
    have h70 : ¬ n.op = 70 := by simpa using h70
    have hn := hno n (by simp [row])
    have hk : ∀ m ∈ rows ks, m.op ≠ 69 ∧ m.op ≠ 72 := fun m hm => hno m (by simp [row, hm])
    simp only [gen]
    by_cases o1 : n.op = 61
    · rw [if_pos o1]
      have hks : ks = [] := by
        unfold ndF at hc
        simp [o1] at hc
        exact List.length_eq_zero_iff.1 (by omega)
      subst hks
      simp [row, rows, Lin, ins0, is14, is67, o1]
    rw [if_neg o1]
    by_cases o2 : n.op = 67
    · rw [if_pos o2]
      obtain ⟨v, x, rfl, h1, h2⟩ := ok_let hok o2
      have e1 := gen_lines v _ h1 (fun m hm => hk m (by simp [rows, hm])) h ps b
      have e2 := gen_lines x _ h2 (fun m hm => hk m (by simp [rows, hm])) (h + 1) (ps ++ rng h 1) (b + (gen v h ps b).length)
      have e3 := e1.app e2
      obtain ⟨f1, f2, f3⟩ := e3
      simp only [genLet, underG, row, rows, List.append_nil]
      rw [show slides 1 = [ins0 14 1 0] from rfl, ← List.append_assoc]
      refine ⟨fun i hi => ?_, ?_, ?_⟩
      · rcases List.mem_append.1 hi with hi | hi
        · exact f1 i hi
        · simp at hi
          subst hi
          rfl
      · rw [List.countP_append, List.countP_cons]
        rw [show ((1 : Int)).toNat = 1 from rfl, f2]
        simp [is14, is67, o2, ins0]
      · simp only [List.length_append, List.length_cons, List.length_nil] at f3 ⊢
        rw [show ((1 : Int)).toNat = 1 from rfl]
        omega
    rw [if_neg o2, if_neg hn.2, if_neg hn.1, if_neg h70]
    have e := genAll_lines ks tk (ok_all hok o2 hn.2 hn.1 h70) hk h ps b
    obtain ⟨f1, f2, f3⟩ := e
    simp only [row]
    refine ⟨fun i hi => ?_, ?_, ?_⟩
    · rcases List.mem_append.1 hi with hi | hi
      · exact f1 i hi
      · simp at hi
        subst hi
        rfl
    · rw [List.countP_append, f2]
      simp [is14, is67, o2, ins0, doneOp_14]
    · simp [f3]
theorem genAll_lines : ∀ (l : List Tr) (tk : Int), (∀ x ∈ l, okT (cntF p) nxF x (tk, false)) → (∀ n ∈ rows l, n.op ≠ 69 ∧ n.op ≠ 72) → ∀ (h : Int) (ps : List Int) (b : Nat), Lin (genAll l h ps b) (rows l)
  | [], _, _, _, _, _, _ => ⟨by simp [genAll], rfl, rfl⟩
  | x :: r, tk, hok, hno, h, ps, b => by
    simp only [genAll, rows]
    exact (gen_lines x tk (hok x (by simp)) (fun m hm => hno m (by simp [rows, hm])) h ps b).app (genAll_lines r tk (fun y hy => hok y (by simp [hy])) (fun m hm => hno m (by simp [rows, hm])) _ _ _)
end
/-- the code of such a row: one line a node, and the last one -/
theorem code_lines {t : List Nd} {m : Nat} (hok : wholeF p t (m : Int) = true) (hno : ∀ n ∈ t, n.op ≠ 69 ∧ n.op ≠ 72) : ∃ l, codeE p t m = l ++ [ins0 6 0 0] ∧ Lin l t := by
  obtain ⟨h1, h2⟩ := whole_tree hok
  refine ⟨gen (treeF p t m) m (rng 0 m) 0, rfl, ?_⟩
  have := gen_lines (treeF p t m) m h2 (by rw [← h1]; exact hno) m (rng 0 m) 0
  rwa [← h1] at this
end
end Cd

/-
  Package emit: EmitLines.
-/
set_option linter.unusedSimpArgs false
set_option linter.unusedVariables false
namespace Cd
open Go Go.Wx
theorem makeM_no {p : Flt} {q : Brd} (h : (makeM p q).2 ≠ 0) : (makeM p q).1 = codZ := by
  unfold makeM at h ⊢
  repeat' split
  all_goals first | rfl | skip
  rename_i h1 h2 h3 h4 h5
  rw [if_neg h1, if_neg h2, if_neg h3, if_neg h4, if_neg h5] at h
  exact absurd rfl h
theorem makeM_yes {p : Flt} {q : Brd} (h : (makeM p q).2 = 0) : (makeM p q).1 = codeM p q ∧ rightF p = 0 := by
  unfold makeM at h ⊢
  by_cases h1 : rightF p ≠ 0
  · rw [if_pos h1] at h
    exact absurd h h1
  rw [if_neg h1] at h ⊢
  by_cases h2 : rightB q ≠ 0
  · rw [if_pos h2] at h
    exact absurd h h2
  rw [if_neg h2] at h ⊢
  by_cases h3 : p.bodies.length ≠ q.bodies.length
  · rw [if_pos h3] at h
    cases h
  rw [if_neg h3] at h ⊢
  by_cases h4 : difM p.bodies q.bodies = true
  · rw [if_pos h4] at h
    cases h
  rw [if_neg h4] at h ⊢
  by_cases h5 : checkM (codeM p q) ≠ 0
  · rw [if_pos h5] at h
    exact absurd h h5
  rw [if_neg h5]
  exact ⟨rfl, by simpa using h1⟩
theorem countP_step {α : Type} {f : α → Bool} {l : List α} {k : Nat} {x : α} (h : l[k]? = some x) : (l.take (k + 1)).countP f = (l.take k).countP f + (if f x then 1 else 0) := by
  rw [take_get h, List.countP_append, List.countP_cons]
  simp
end Cd
namespace Go.Proofs.YtjpdkcejkogciaaDoor
open Go.Wx Cd
section
variable {C : Mem} {w : World}
set_option maxHeartbeats 2000000 in
theorem emitLines_ct (hS : Sub C w) (hT : Tab C) {p : Flt} {q : Brd} {cf cg : List Value} (hp : rFlt.den C cf p) (hq : rBrd.den C cg q) :
    CallOk Tryd.prog 4 ∧ Calls Tryd.prog 4 #[.agg cf.toArray, .agg cg.toArray] w (fun e w' => e = .returned (.bool true) ∧ Kp [] w w') := by
  refine ⟨⟨_, Tryd.func4, rfl, by decide⟩, ?_⟩
  have hp0 := hp
  have hq0 := hq
  obtain ⟨a1, c1, a2, c2, a3, c3, rfl, _, _, h3, _⟩ := hp
  obtain ⟨d1, e1, d2, e2, d3, e3, d4, e4, rfl, _⟩ := hq
  have hl3 := h3.1
  refine calls_of (args := [_, _]) 101 [.tmp 4] τok Tryd.func4 rfl rfl rfl (Nat.le_of_ble_eq_true rfl) ?_
  refine new fun b2 w1 hb2 hB2 hs1 hk1 => ?_
  refine new fun b3 w2 hb3 hB3 hs2 hk2 => ?_
  have hB2 := hB2.kp hk2 (by simp)
  have hk02 := hk1.tr hk2
  refine ev_call (awake_ct (hS.tr hk02) hT) ?_
  rintro e w3 ⟨rfl, hk3⟩
  have hB2 := hB2.kp hk3 (by simp)
  have hB3 := hB3.kp hk3 (by simp)
  have hk03 := hk02.tr hk3
  refine ldN _ rfl (fun j v hj => by rw [Nat.zero_add]; exact hB2.cl hj) ?_
  refine ldN _ rfl (fun j v hj => by rw [Nat.zero_add]; exact hB3.cl hj) ?_
  refine ev_call (heavy_ct (hS.tr hk03) hp0 hq0) ?_
  rintro e w4 ⟨b, rfl, hw, hk4⟩
  have hB2 := hB2.kp hk4 (by simp)
  have hB3 := hB3.kp hk4 (by simp)
  have hk04 := hk03.tr hk4
  have hS4 := hS.tr hk04
  refine br (fun g => ?_) (fun g => ?_)
  · exact ⟨rfl, hk04⟩
  have hw := hw g
  refine lp τok (σ := Nat) (fun i => [(2, .pointer (some ⟨b2, 0, none⟩)), (3, .pointer (some ⟨b3, 0, none⟩)), (5, .int .i64 ((p.main.take i).countP is67 : Nat)), (6, .int .i64 i)])
    (fun i u => u = w4 ∧ i ≤ p.main.length ∧ ∀ n ∈ p.main.take i, n.op ≠ 69 ∧ n.op ≠ 72) (fun i => p.main.length - i) 0 rfl
    ⟨rfl, rfl, rfl, rfl, trivial⟩ ⟨rfl, Nat.zero_le _, by simp⟩ ?_
  rintro i u ⟨rfl, hi, hno⟩
  have hcl : (p.main.take i).countP is67 ≤ i := Nat.le_trans List.countP_le_length (by simp; omega)
  refine ld (Bk.cl hB2 rfl).cell ?_
  refine br_dec (fun g1 => ?_) (fun g1 => ?_)
  · have hil : i < p.main.length := by omega
    obtain ⟨n, hn, _⟩ := drop_get hil
    obtain ⟨bn, on, han, i1, i2, i3, hcells⟩ := sl_nd h3 hn
    have hst := countP_step (f := is67) hn
    refine ld (Bk.cl hB2 rfl).cell ?_
    refine ixE han i rfl hil ?_
    refine ld (hS4 _ _ _ (hcells 0 _ rfl)).cell ?_
    refine br_dec (fun g2 => ?_) (fun g2 => ?_)
    · exact ⟨rfl, hk04⟩
    refine br_dec (fun g3 => ?_) (fun g3 => ?_)
    · exact ⟨rfl, hk04⟩
    have hno' : ∀ m ∈ p.main.take (i + 1), m.op ≠ 69 ∧ m.op ≠ 72 := fun m hm => by
      rw [take_get hn] at hm
      rcases List.mem_append.1 hm with hm | hm
      · exact hno m hm
      · simp at hm
        subst hm
        exact ⟨g2, g3⟩
    refine br_dec (fun g4 => ?_) (fun g4 => ?_)
    · rw [if_pos (by simpa [is67] using g4)] at hst
      refine int64 (by omega) (by omega) ?_
      refine int64 (by omega) (by omega) ?_
      exact ⟨i + 1, by omega, rfl, ⟨rfl, rfl, eqI (by rw [hst]; rfl), rfl, trivial⟩, rfl, hil, hno'⟩
    · rw [if_neg (by simpa [is67] using g4)] at hst
      refine int64 (by omega) (by omega) ?_
      exact ⟨i + 1, by omega, rfl, ⟨rfl, rfl, eqI (by rw [hst]; rfl), rfl, trivial⟩, rfl, hil, hno'⟩
  rw [List.take_of_length_le (by omega)] at hno hcl
  have hte : (p.main.take i) = p.main := List.take_of_length_le (by omega)
  rw [hte]
  refine ldN _ rfl (fun j v hj => by rw [Nat.zero_add]; exact Bk.cl hB2 hj) ?_
  refine ldN _ rfl (fun j v hj => by rw [Nat.zero_add]; exact Bk.cl hB3 hj) ?_
  obtain ⟨M, hM⟩ : ∃ m, makeM p q = m := ⟨_, rfl⟩
  refine ev_call (make_ct hS4 hT hp0 hq0 hw) ?_
  rw [hM]
  rintro e w5 ⟨cs, rfl, hc, hk5⟩
  obtain ⟨x1, y1, x2, y2, x3, y3, x4, y4, hcs, _, _, _, hsm, _⟩ := hc
  have hB2 := Bk.kp hB2 hk5 (by simp)
  have hk05 := hk04.tr hk5
  subst hcs
  refine new fun b5 w6 hb5 hB5 hs6 hk6 => ?_
  refine stN (vs := [.int .i64 M.1.nat, .slice x1 M.1.shapes.length y1, .slice x2 M.1.funs.length y2, .slice x3 M.1.bodies.length y3, .slice x4 M.1.main.length y4]) hB5 rfl (by simp [Value.oneCell']) fun w7 hB5 hs7 hk7 => ?_
  have hk57 : Kp [] w5 w7 := hk6.newSt hb5 hk7
  have hB2 := Bk.kp hB2 hk57 (by simp)
  have hk07 := hk05.tr hk57
  have hsm := hsm.mono fun b o v (hv : New u.heap.size w5 b o v) => (⟨hv.1, hv.2.kp hk57 (by simp)⟩ : New u.heap.size w7 b o v)
  have hml := hsm.1
  refine br_dec (fun g5 => ?_) (fun g5 => ?_)
  · have hz : M.1 = codZ := by rw [← hM] at g5 ⊢; exact makeM_no g5
    refine ld (Bk.cl hB5 rfl).cell ?_
    refine ⟨?_, hk07⟩
    rw [hz]
    rfl
  obtain ⟨hy1, hy2⟩ := makeM_yes (p := p) (q := q) (by rw [hM]; omega)
  rw [hM] at hy1
  obtain ⟨l, hl, hL1, hL2, hL3⟩ := code_lines (m := 0) (fok_of hy2).main hno
  have hmain : M.1.main = l ++ [ins0 6 0 0] := by rw [hy1]; exact hl
  obtain ⟨cm, hcm⟩ : ∃ c, M.1.main = c := ⟨_, rfl⟩
  rw [hcm] at hsm hml hmain
  have hto : ∀ x ∈ cm, x.to = [] := fun x hx => by
    rw [hmain] at hx
    rcases List.mem_append.1 hx with hx | hx
    · exact hL1 x hx
    · simp at hx
      subst hx
      rfl
  have hcml : cm.length = p.main.length + 1 := by rw [hmain]; simp [hL3]
  have hcnt : cm.countP is14 = p.main.countP is67 := by rw [hmain, List.countP_append, hL2]; simp [is14, ins0]
  rw [hcm] at hB5
  refine lp τok (σ := Nat) (fun j => [(2, .pointer (some ⟨b2, 0, none⟩)), (5, .int .i64 (p.main.countP is67 : Nat)), (8, .pointer (some ⟨b5, 0, none⟩)), (10, .int .i64 ((cm.take j).countP is14 : Nat)), (11, .int .i64 j)])
    (fun j z => z = w7 ∧ j ≤ cm.length) (fun j => cm.length - j) 0 rfl
    ⟨rfl, rfl, rfl, rfl, rfl, trivial⟩ ⟨rfl, Nat.zero_le _⟩ ?_
  rintro j z ⟨rfl, hj⟩
  have hcl2 : (cm.take j).countP is14 ≤ j := Nat.le_trans List.countP_le_length (by simp; omega)
  refine ld (Bk.cl hB5 rfl).cell ?_
  refine br_dec (fun g6 => ?_) (fun g6 => ?_)
  · have hjl : j < cm.length := by omega
    obtain ⟨x, hx, _⟩ := drop_get hjl
    obtain ⟨bx, ox, hax, at', ct, _, _, _, _, hcells⟩ := sl_ins hsm hx
    have hxt := hto x (List.mem_of_getElem? hx)
    have hst := countP_step (f := is14) hx
    refine ld (Bk.cl hB5 rfl).cell ?_
    refine ixE hax j rfl hjl ?_
    refine ld (hcells 3 _ rfl).2.cl.cell ?_
    refine br_no (by rw [hxt]; simp) ?_
    refine ld (Bk.cl hB5 rfl).cell ?_
    refine ixE hax j rfl hjl ?_
    refine ld (hcells 0 _ rfl).2.cl.cell ?_
    refine br_dec (fun g7 => ?_) (fun g7 => ?_)
    · rw [if_pos (by simpa [is14] using g7)] at hst
      refine int64 (by omega) (by omega) ?_
      refine int64 (by omega) (by omega) ?_
      exact ⟨j + 1, by omega, rfl, ⟨rfl, rfl, rfl, eqI (by rw [hst]; rfl), rfl, trivial⟩, rfl, hjl⟩
    · rw [if_neg (by simpa [is14] using g7)] at hst
      refine int64 (by omega) (by omega) ?_
      exact ⟨j + 1, by omega, rfl, ⟨rfl, rfl, rfl, eqI (by rw [hst]; rfl), rfl, trivial⟩, rfl, hjl⟩
  have hte2 : cm.take j = cm := List.take_of_length_le (by omega)
  rw [hte2]
  refine ld (Bk.cl hB5 rfl).cell ?_
  refine ld (Bk.cl hB2 rfl).cell ?_
  refine int64 (by omega) (by omega) ?_
  refine br_yes (by omega) ?_
  refine br_yes (by rw [hcnt]) ?_
  obtain ⟨bx, ox, hax, at', ct, _, _, _, _, hcells⟩ := sl_ins hsm (i := p.main.length) (x := ins0 6 0 0) (by rw [hmain, List.getElem?_append_right (by omega), hL3]; simp)
  refine ld (Bk.cl hB5 rfl).cell ?_
  refine ld (Bk.cl hB5 rfl).cell ?_
  refine int64 (by omega) (by omega) ?_
  refine ixE hax p.main.length (by omega) (by omega) ?_
  refine ld (hcells 0 _ rfl).2.cl.cell ?_
  exact ⟨rfl, hk07⟩
end
end Go.Proofs.YtjpdkcejkogciaaDoor

