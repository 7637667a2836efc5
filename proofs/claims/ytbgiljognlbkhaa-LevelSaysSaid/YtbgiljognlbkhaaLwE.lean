/-
  Levels: LevelSays.
-/
import Derived.Test.YtbgiljognlbkhaaLwD
import Derived.Test.YtbgiljognlbkhaaLvU
import Derived.Test.YtbgiljognlbkhaaLvO
set_option linter.unusedSimpArgs false
set_option linter.unusedVariables false
set_option maxRecDepth 100000
namespace Go.Proofs.Ytbgiljognlbkhaa
open Go.Wx Lv Go.ChangeShapes Go.WideShapes Go.ChangeAt Go.RowKit

section
variable {H : Type} {enc : TypeId × Value → H} {w : World} {spare : Nat → Bool} {held : Bool}
theorem open_two {r : Reach} {b0 : Nat} {v : Value} {d : DataW H} {ps : List MemPlace} (hval : Value.okWide Try.prog w r b0 56 v) (h : DataW.Trod enc Try.prog w 0 spare held 56 v d ps) :
    ∃ (la lb : List Atom) (by' : Int) (vals : List Int) (aa ab av : Option Addr) (ca cb cv : Nat), v = .agg #[.slice aa la.length ca, .slice ab lb.length cb, .int .i64 by', .slice av vals.length cv] ∧ Atoms w.heap.size w.heap aa la ∧ Atoms w.heap.size w.heap ab lb ∧ I64 by' ∧ Ints w.heap.size w.heap av vals := by
  obtain ⟨cs, rfl, hs⟩ := okWide_struct Try.underlying56 hval
  obtain ⟨fuel, hf0⟩ := h
  obtain ⟨xs, m, rfl, hx, hl, hxl, hf⟩ := DataW.trod_struct Try.underlying56 hf0
  have hsz : cs.size = 4 := by rw [hs]; kernel_rfl
  obtain ⟨cs⟩ := cs
  match cs, hsz, xs, hxl with
  | [c0, c1, c2, c3], _, [x0, x1, x2, x3], _ =>
    have g0 := hf 0 _ rfl
    have g1 := hf 1 _ rfl
    have g2 := hf 2 _ rfl
    have g3 := hf 3 _ rfl
    simp [Value.cells, show Try.prog.cellsOf 3 = 1 by kernel_rfl, show Try.prog.cellsOf 27 = 1 by kernel_rfl, show Try.prog.cellsOf 23 = 1 by kernel_rfl] at g0 g1 g2 g3
    obtain ⟨aa, la, ca, rfl, h0, _⟩ := open_atoms g0
    obtain ⟨ab, lb, cb, rfl, h1, _⟩ := open_atoms g1
    obtain ⟨z, e2, _, w2⟩ := DataW.trod_int Try.underlying3 g2
    obtain ⟨av, vals, cv, rfl, h3, _⟩ := open_ints' g3
    simp at e2
    subst e2
    exact ⟨la, lb, z, vals, aa, ab, av, ca, cb, cv, rfl, h0, h1, i64_wf w2, h3⟩
end

theorem longT_ct (la lb : List Atom) (by' : Int) (vals : List Int) (aa ab av : Option Addr) (ca cb cv : Nat) (w : World) :
    CallOk Try.prog 30 ∧ Calls Try.prog 30 #[.agg #[.slice aa la.length ca, .slice ab lb.length cb, .int .i64 by', .slice av vals.length cv]] w (fun e w' => ∃ b, e = .returned (.bool b) ∧ (b = false → la.length ≤ 50 ∧ lb.length ≤ 50 ∧ vals.length ≤ 50) ∧ Kp [] w w') := by
  refine ⟨⟨_, Try.func30, rfl, by decide⟩, ?_⟩
  refine calls_of (args := [_]) 19 [.tmp 2] τok Try.func30 rfl rfl rfl (Nat.le_of_ble_eq_true rfl) ?_
  refine new fun b1 w1 hb1 hB1 hs1 hk1 => ?_
  have hB1 : Bk w1.heap b1 [.slice aa la.length ca, .slice ab lb.length cb, .int .i64 by', .slice av vals.length cv] 56 := hB1
  refine ld (hB1.cl rfl).cell ?_
  refine br_dec (fun g1 => ?_) (fun g1 => ?_)
  · exact ⟨true, rfl, (fun h => by cases h), hk1⟩
  refine ld (hB1.cl rfl).cell ?_
  refine br_dec (fun g2 => ?_) (fun g2 => ?_)
  · exact ⟨true, rfl, (fun h => by cases h), hk1⟩
  refine ld (hB1.cl rfl).cell ?_
  refine ⟨_, rfl, fun h => ?_, hk1⟩
  have h : ¬ (50 : Int) < vals.length := of_decide_eq_false h
  omega

theorem levelSays_ct (la lb : List Atom) (by' vars : Int) (vals : List Int) (aa ab av : Option Addr) (ca cb cv : Nat) (w : World) (ha : Atoms w.heap.size w.heap aa la) (hb : Atoms w.heap.size w.heap ab lb) (hby : I64 by') (hv : Ints w.heap.size w.heap av vals) :
    Calls Try.prog 10 #[.agg #[.slice aa la.length ca, .slice ab lb.length cb, .int .i64 by', .slice av vals.length cv], .int .i64 vars] w (fun e w' => e = .returned (.bool true) ∧ Kp [] w w') := by
  refine calls_of (args := [_, _]) 91 [.tmp 4] τok Try.func10 rfl rfl rfl (Nat.le_of_ble_eq_true rfl) ?_
  refine new fun b1 w1 hb1 hB1 hs1 hk1 => ?_
  have hB1 : Bk w1.heap b1 [.slice aa la.length ca, .slice ab lb.length cb, .int .i64 by', .slice av vals.length cv] 56 := hB1
  refine ev_call (awake_ct w1) ?_
  rintro e w2 ⟨rfl, hk2⟩
  have k02 := hk1.tr hk2
  have hB1 := hB1.kp hk2 (by simp)
  refine ldN [.slice aa la.length ca, .slice ab lb.length cb, .int .i64 by', .slice av vals.length cv] rfl (fun j v hj => by rw [Nat.zero_add]; exact hB1.cl hj) ?_
  refine ev_call (longT_ct la lb by' vals aa ab av ca cb cv w2) ?_
  rintro e w3 ⟨bl, rfl, hbl, hk3⟩
  have k03 := k02.tr hk3
  have hB1 := hB1.kp hk3 (by simp)
  refine br (fun g1 => ?_) (fun g1 => ?_)
  · exact ⟨rfl, k03⟩
  obtain ⟨l1, l2, l3⟩ := hbl g1
  have hSa := Atoms.sl ha (by omega)
  have hSb := Atoms.sl hb (by omega)
  have hS := Old.sub w
  refine ld (hB1.cl rfl).cell ?_
  refine ld (hB1.cl rfl).cell ?_
  refine ev_call (max_ct (hS.tr k03) la lb aa ab ca cb hSa hSb) ?_
  rintro e w4 ⟨am, cm, rfl, hm, hk4⟩
  have k04 := k03.tr hk4
  have hB1 := hB1.kp hk4 (by simp)
  refine ld (hB1.cl rfl).cell ?_
  refine ld (hB1.cl rfl).cell ?_
  refine ev_call (maxRef_ct (hS.tr k04) la lb aa ab ca cb hSa hSb) ?_
  rintro e w5 ⟨an, cn, rfl, hn, hk5⟩
  have k05 := k04.tr hk5
  have hB1 := hB1.kp hk5 (by simp)
  refine ld (hB1.cl rfl).cell ?_
  refine ld (hB1.cl rfl).cell ?_
  refine ev_call (up_ct (hS.tr k05) la by' aa ca hSa hby) ?_
  rintro e w6 ⟨au, cu, rfl, hu, hk6⟩
  have k06 := k05.tr hk6
  have hB1 := hB1.kp hk6 (by simp)
  refine ld (hB1.cl rfl).cell ?_
  refine ld (hB1.cl rfl).cell ?_
  refine ev_call (upR_ct (hS.tr k06) la by' aa ca hSa hby) ?_
  rintro e w7 ⟨aw, cw, rfl, hw, hk7⟩
  have k07 := k06.tr hk7
  have hB1 := hB1.kp hk7 (by simp)
  generalize maxE la lb = E1 at *
  generalize upE la by' = E2 at *
  generalize maxR la lb = M at *
  generalize upR la by' = U at *
  obtain ⟨R, hR⟩ : ∃ r, rightF la vars = r := ⟨_, rfl⟩
  obtain ⟨V, hV⟩ : ∃ r, valueF la vals = r := ⟨_, rfl⟩
  refine drawQ τok (fun w' => Kp [] w7 w') (by kernel_rfl) ((Kp.refl [] w7).dr _) ?_
  refine ldK (hB1.cl rfl) ?_
  refine callK (v := .bool R) (fun w' hk' => by rw [← hR]; exact right_ct la aa ca vars w' (ha.kp (k07.tr hk') (Nat.le_refl _))) ?_
  refine ldK (hB1.cl rfl) ?_
  refine callK (v := .bool R) (fun w' hk' => by rw [← hR]; exact rightR_ct la aa ca vars w' (ha.kp (k07.tr hk') (Nat.le_refl _))) ?_
  refine br (fun g2 => ?_) (fun g2 => ?_)
  rotate_left
  · exact absurd g2 (by simp)
  refine br_dec (fun g3 => ?_) (fun g3 => ?_)
  rotate_left
  · exact absurd rfl g3
  refine br_dec (fun g4 => ?_) (fun g4 => ?_)
  rotate_left
  · exact absurd rfl g4
  refine callK (v := .bool true) (fun w' hk' => by
    have h := same_at (((New.sub _ w4).tr ((hk5.tr hk6).tr hk7)).tr hk') (((New.sub _ w5).tr (hk6.tr hk7)).tr hk') M M am an cm cn hm hn
    rw [decide_eq_true rfl] at h
    exact h) ?_
  refine callK (v := .bool true) (fun w' hk' => by
    have h := same_at (((New.sub _ w6).tr hk7).tr hk') ((New.sub _ w7).tr hk') U U au aw cu cw hu hw
    rw [decide_eq_true rfl] at h
    exact h) ?_
  refine ldK (hB1.cl rfl) ?_
  refine ldK (hB1.cl rfl) ?_
  refine callK (v := .int .i64 V) (fun w' hk' => by rw [← hV]; exact value_ct la vals aa av ca cv w' 0 (ha.kp (k07.tr hk') (k07.tr hk').size) (hv.kp (k07.tr hk') (k07.tr hk').size) (by omega)) ?_
  refine ldK (hB1.cl rfl) ?_
  refine ldK (hB1.cl rfl) ?_
  refine callK (v := .int .i64 V) (fun w' hk' => by rw [← hV]; exact valueR_ct la vals aa av ca cv w' (hSa.mono ((Old.sub w).tr (k07.tr hk'))) (hv.kp (k07.tr hk') (k07.tr hk').size)) ?_
  intro w8 hk8
  exact ⟨by simp [Go.Wx.one], k07.tr hk8⟩
end Go.Proofs.Ytbgiljognlbkhaa
