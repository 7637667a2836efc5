/-
  Levels: 'awake', and the statement on Under.
-/
import Derived.Test.YtbgiljognlbkhaaLvZ
set_option linter.unusedSimpArgs false
set_option linter.unusedVariables false
namespace Go.Proofs.Ytbgiljognlbkhaa
open Go.Wx Lv

def cellsO (l : List Order) : List Value := l.flatMap fun o => [.int .i64 o.low, .int .i64 o.add, .int .i64 o.high]
def cellsA (l : List Atom) : List Value := l.flatMap fun o => [.int .i64 o.var, .int .i64 o.add]

theorem cellsO_at : ∀ (l : List Order) (i j : Nat), i < l.length → j < 3 → (cellsO l)[i * 3 + j]? = some (.int .i64 (if j = 0 then (l.getD i default).low else if j = 1 then (l.getD i default).add else (l.getD i default).high))
  | [], i, j, h, _ => by simp at h
  | o :: l, 0, j, _, hj => by
    match j, hj with
    | 0, _ => simp [cellsO]
    | 1, _ => simp [cellsO]
    | 2, _ => simp [cellsO]
  | o :: l, i + 1, j, h, hj => by
    have := cellsO_at l i j (by simpa using h) hj
    rw [show (i + 1) * 3 + j = (i * 3 + j) + 3 by omega]
    simpa [cellsO] using this
theorem cellsA_at : ∀ (l : List Atom) (i j : Nat), i < l.length → j < 2 → (cellsA l)[i * 2 + j]? = some (.int .i64 (if j = 0 then (l.getD i default).var else (l.getD i default).add))
  | [], i, j, h, _ => by simp at h
  | o :: l, 0, j, _, hj => by
    match j, hj with
    | 0, _ => simp [cellsA]
    | 1, _ => simp [cellsA]
  | o :: l, i + 1, j, h, hj => by
    have := cellsA_at l i j (by simpa using h) hj
    rw [show (i + 1) * 2 + j = (i * 2 + j) + 2 by omega]
    simpa [cellsA] using this

theorem orders_bk {h : Array Obj} {b : Nat} {l : List Order} {T : TypeId} (hb : Bk h b (cellsO l) T) (hr : ∀ x ∈ l, I64 x.low ∧ I64 x.add ∧ I64 x.high) : Orders h.size h (some ⟨b, 0, none⟩) l :=
  ⟨.inr ⟨b, 0, rfl, hb.lt, fun i j hi hj => hb.cl (by rw [Nat.zero_add]; exact cellsO_at l i j hi hj)⟩, hr⟩
theorem atoms_bk {h : Array Obj} {b : Nat} {l : List Atom} {T : TypeId} (hb : Bk h b (cellsA l) T) (hr : ∀ x ∈ l, I64 x.var ∧ I64 x.add) : Atoms h.size h (some ⟨b, 0, none⟩) l :=
  ⟨.inr ⟨b, 0, rfl, hb.lt, fun i j hi hj => hb.cl (by rw [Nat.zero_add]; exact cellsA_at l i j hi hj)⟩, hr⟩

theorem fr0 : fromF 3 [⟨1, 1, 2⟩] 0 = some [0, 0, 1] := by
  simp [fromF, fromGo, round, rng, zStep, oStep, non, List.replicate]
theorem fr1 : fromF 3 [⟨1, 1, 2⟩] 1 = some [non, 0, 1] := by
  simp [fromF, fromGo, round, rng, zStep, oStep, non, List.replicate]
theorem fr2 : fromF 3 [⟨1, 1, 2⟩] 2 = some [non, non, 0] := by
  simp [fromF, fromGo, round, rng, zStep, oStep, non, List.replicate]
theorem chk1 : checkR 2 [⟨1, 1, 2⟩] = 0 := by
  simp [checkR, fr0, fr1, fr2, badOrd, List.range, List.range.loop]
theorem gap12 : gapF 2 [⟨1, 1, 2⟩] 1 2 = (1, true) := by rw [gap_eq]; simp [gapR, chk1, fr1, gt, non]
theorem gap21 : gapF 2 [⟨1, 1, 2⟩] 2 1 = (0, false) := by rw [gap_eq]; simp [gapR, chk1, fr2, gt, non]
theorem und1 : underF 2 [⟨1, 1, 2⟩] [⟨1, 3⟩] [⟨2, 2⟩] = true := by rw [under_eq]; simp [underR, chk1, fr1, gt, non, okR, rightF, rightGo]
theorem und2 : underF 2 [⟨1, 1, 2⟩] [⟨2, 0⟩] [⟨1, 5⟩] = false := by rw [under_eq]; simp [underR, chk1, fr2, gt, non, okR, rightF, rightGo]

theorem awake_ct (w : World) : CallOk Try.prog 11 ∧ Calls Try.prog 11 #[] w (fun e w' => e = .returned (.bool true) ∧ Kp [] w w') := by
  refine ⟨⟨_, Try.func11, rfl, by decide⟩, ?_⟩
  refine calls_of (args := []) 44 [.tmp 0] τok Try.func11 rfl rfl rfl (Nat.le_of_ble_eq_true rfl) ?_
  refine fill (cellsO [⟨1, 1, 2⟩]) rfl ?_
  refine new fun bo w1 hbo hB1 hs1 hk1 => ?_
  have ho1 : Orders w1.heap.size w1.heap (some ⟨bo, 0, none⟩) [⟨1, 1, 2⟩] := orders_bk (l := [⟨1, 1, 2⟩]) hB1 (by simp [I64])
  have f0 := gap_ct 2 [⟨1, 1, 2⟩] 1 2 _ 1 w1 ho1
  rw [gap12] at f0
  refine ev_call f0 ?_
  rintro e w2 ⟨rfl, hk2⟩
  have f1 := gap_ct 2 [⟨1, 1, 2⟩] 2 1 _ 1 w2 (ho1.kp hk2 hk2.size)
  rw [gap21] at f1
  refine ev_call f1 ?_
  rintro e w3 ⟨rfl, hk3⟩
  refine fill (cellsA [⟨1, 3⟩]) rfl ?_
  refine new fun b4 w4 hb4 hB4 hs4 hk4 => ?_
  refine fill (cellsA [⟨2, 2⟩]) rfl ?_
  refine new fun b5 w5 hb5 hB5 hs5 hk5 => ?_
  have k15 := ((hk2.tr hk3).tr hk4).tr hk5
  have f2 := under_ct 2 [⟨1, 1, 2⟩] [⟨1, 3⟩] [⟨2, 2⟩] _ _ _ 1 1 1 w5 (ho1.kp k15 k15.size) (Atoms.kp (w := w4) (atoms_bk (l := [⟨1, 3⟩]) hB4 (by simp [I64])) hk5 hk5.size) (atoms_bk (l := [⟨2, 2⟩]) hB5 (by simp [I64]))
  rw [und1] at f2
  refine ev_call f2 ?_
  rintro e w6 ⟨rfl, hk6⟩
  refine fill (cellsA [⟨2, 0⟩]) rfl ?_
  refine new fun b7 w7 hb7 hB7 hs7 hk7 => ?_
  refine fill (cellsA [⟨1, 5⟩]) rfl ?_
  refine new fun b8 w8 hb8 hB8 hs8 hk8 => ?_
  have k18 := ((k15.tr hk6).tr hk7).tr hk8
  have f3 := under_ct 2 [⟨1, 1, 2⟩] [⟨2, 0⟩] [⟨1, 5⟩] _ _ _ 1 1 1 w8 (ho1.kp k18 k18.size) (Atoms.kp (w := w7) (atoms_bk (l := [⟨2, 0⟩]) hB7 (by simp [I64])) hk8 hk8.size) (atoms_bk (l := [⟨1, 5⟩]) hB8 (by simp [I64]))
  rw [und2] at f3
  refine ev_call f3 ?_
  rintro e w9 ⟨rfl, hk9⟩
  exact ⟨rfl, hk1.tr (k18.tr hk9)⟩

/-! ### LevelUnder -/
/-- what the statements' variables, orders and values are -/
structure Ord5 where
  vars : Int
  list : List Order
  vals : List Int
  low : Int
  high : Int

theorem levelUnder_ct (x : Ord5) (la lb : List Atom) (ao av aa ab : Option Addr) (co cv ca cb : Nat) (w : World) (ho : Orders w.heap.size w.heap ao x.list) (ha : Atoms w.heap.size w.heap aa la) (hb : Atoms w.heap.size w.heap ab lb) :
    Calls Try.prog 3 #[.agg #[.int .i64 x.vars, .slice ao x.list.length co, .slice av x.vals.length cv, .int .i64 x.low, .int .i64 x.high], .slice aa la.length ca, .slice ab lb.length cb] w (fun e w' => e = .returned (.bool true) ∧ Kp [] w w') := by
  refine calls_of (args := [_, _, _]) 38 [.tmp 6] τok Try.func3 rfl rfl rfl (Nat.le_of_ble_eq_true rfl) ?_
  refine new fun b1 w1 hb1 hB1 hs1 hk1 => ?_
  refine ev_call (awake_ct w1) ?_
  rintro e w2 ⟨rfl, hk2⟩
  have hk12 := hk1.tr hk2
  have hc0 : Cl w2.heap b1 0 (.int .i64 x.vars) := (hB1.cl rfl).kp hk2 (by simp)
  have hc1 : Cl w2.heap b1 1 (.slice ao x.list.length co) := (hB1.cl rfl).kp hk2 (by simp)
  refine ld hc1.cell ?_
  refine br_dec (fun h1 => ?_) (fun h1 => ?_)
  · exact ⟨rfl, hk12⟩
  refine br_dec (fun h2 => ?_) (fun h2 => ?_)
  · exact ⟨rfl, hk12⟩
  refine br_dec (fun h3 => ?_) (fun h3 => ?_)
  · exact ⟨rfl, hk12⟩
  refine drawQ τok (fun w' => Kp [] w2 w') (by kernel_rfl) ((Kp.refl [] w2).dr _) ?_
  refine ldK hc0 ?_
  refine ldK hc1 ?_
  refine callK (v := .bool (underF x.vars x.list la lb)) (fun w' hk' => under_ct x.vars x.list la lb ao aa ab co ca cb w' (ho.kp (hk12.tr hk') (hk12.tr hk').size) (ha.kp (hk12.tr hk') (hk12.tr hk').size) (hb.kp (hk12.tr hk') (hk12.tr hk').size)) ?_
  refine ldK hc0 ?_
  refine ldK hc1 ?_
  refine callK (v := .bool (underR x.vars x.list la lb)) (fun w' hk' => underR_ct x.vars x.list la lb ao aa ab co ca cb w' (ho.kp (hk12.tr hk') (hk12.tr hk').size) (ha.kp (hk12.tr hk') (hk12.tr hk').size) (hb.kp (hk12.tr hk') (hk12.tr hk').size)) ?_
  intro w' hk'
  refine ⟨?_, hk12.tr hk'⟩
  rw [under_eq]
  simp [one]
end Go.Proofs.Ytbgiljognlbkhaa
