/-
  Code: the reference's within and Size; long; code and functions opened.
-/
import Derived.Test.YtjogpbiilokldaaCdV
set_option linter.unusedSimpArgs false
set_option linter.unusedVariables false
set_option maxRecDepth 100000
namespace Cd
instance : Inhabited Ins := ⟨⟨0, 0, 0, []⟩⟩
instance : Inhabited Shp := ⟨⟨0, []⟩⟩
instance : Inhabited Cd.Fn := ⟨⟨0, []⟩⟩
end Cd
namespace Go.Proofs.Ytjogpbiilokldaa
open Go.Wx Cd Go.ChangeShapes Go.WideShapes Go.ChangeAt Go.RowKit

theorem within20_ct (n lo hi : Int) (w : World) : CallOk Try.prog 28 ∧ Calls Try.prog 28 #[.int .i64 n, .int .i64 lo, .int .i64 hi] w (fun e w' => e = .returned (.bool (inM n lo hi)) ∧ Kp [] w w') := by
  refine ⟨⟨_, Try.func28, rfl, by decide⟩, ?_⟩
  refine calls_of (args := [_, _, _]) 15 [.tmp 6] τok Try.func28 rfl rfl rfl (Nat.le_of_ble_eq_true rfl) ?_
  refine br_dec (fun h => ?_) (fun h => ?_)
  · exact ⟨by simp [one, inM, h], Kp.refl _ _⟩
  · exact ⟨by simp [one, inM, h], Kp.refl _ _⟩

theorem drop_sum {l : List Nat} {k x : Nat} (h : l[k]? = some x) : (l.drop k).sum = x + (l.drop (k + 1)).sum := by
  have hk := get_lt h
  rw [List.drop_eq_getElem_cons hk]
  have : l[k] = x := by rw [List.getElem?_eq_getElem hk] at h; exact Option.some.inj h
  simp [this]

theorem size20_ct {C : Mem} {w : World} (hS : Sub C w) {cs : List Value} {c : Cod} (hc : rCod.den C cs c) (lid : Nat) (hlid : lid ≤ 1048576) :
    CallOk Try.prog 21 ∧ Calls Try.prog 21 #[.agg cs.toArray, .int .i64 (lid : Int)] w (fun e w' => ∃ n : Nat, e = .returned (.int .i64 (n : Int)) ∧ n ≤ 2199023255552 ∧ (lid < n ↔ lid < sizeM c) ∧ Kp [] w w') := by
  obtain ⟨a1, c1, a2, c2, a3, c3, a4, c4, rfl, h1, h2, h3, h4, h5⟩ := hc
  have hml := h4.1
  have hfl := h2.1
  have hbl := h3.1
  refine ⟨⟨_, Try.func21, rfl, by decide⟩, ?_⟩
  refine calls_of (args := [_, _]) 53 [.tmp 4] τok Try.func21 rfl rfl rfl (Nat.le_of_ble_eq_true rfl) ?_
  refine new fun b1 w1 hb1 hB1 hs1 hk1 => ?_
  have hB1 : Bk w1.heap b1 [.int .i64 c.nat, .slice a1 c.shapes.length c1, .slice a2 c.funs.length c2, .slice a3 c.bodies.length c3, .slice a4 c.main.length c4] 28 := hB1
  have hS1 := hS.tr hk1
  refine ld (hB1.cl rfl).cell ?_
  obtain ⟨FL, hFL⟩ : ∃ l, l = c.funs.map fun f => f.code.length := ⟨_, rfl⟩
  obtain ⟨BL, hBL⟩ : ∃ l, l = c.bodies.map List.length := ⟨_, rfl⟩
  have hFl : FL.length = c.funs.length := by rw [hFL]; simp
  have hBl : BL.length = c.bodies.length := by rw [hBL]; simp
  have hsz : sizeM c = c.main.length + FL.sum + BL.sum := by rw [hFL, hBL]; rfl
  refine lp τok (σ := Nat × Nat) (fun q => [(1, .int .i64 (lid : Int)), (2, .pointer (some ⟨b1, 0, none⟩)), (5, .int .i64 q.2), (6, .int .i64 q.1)])
    (fun q w' => q.1 ≤ FL.length ∧ Kp [] w1 w' ∧ q.2 + (FL.drop q.1).sum = c.main.length + FL.sum ∧ q.2 ≤ 2199023255552) (fun q => FL.length - q.1) (0, c.main.length) rfl
    ⟨rfl, rfl, rfl, rfl, trivial⟩ ⟨Nat.zero_le _, Kp.refl _ _, rfl, by simp only; omega⟩ ?_
  rintro ⟨k, n⟩ w2 ⟨hk, hkp, hr, hn⟩
  simp only at hk hr hn
  have hB2 := hB1.kp hkp (by simp)
  have hS2 := hS1.tr hkp
  (repeat first | refine ldC ‹Sub _ _› (by assumption) ?_ | refine ld (Cl.cell (by first | assumption | exact Bk.cl (by assumption) rfl)) ?_ | refine ldK (by first | assumption | exact Bk.cl (by assumption) rfl | exact ‹Sub _ _› _ _ _ (by assumption)) ?_)
  refine br_dec (fun g1 => ?_) (fun g1 => ?_)
  · have hlt : k < c.funs.length := by omega
    refine br_dec (fun g2 => ?_) (fun g2 => ?_)
    · have g2 : (n : Int) ≤ (lid : Int) := g2
      obtain ⟨f, hf, hd⟩ := drop_get hlt
      have hfk : FL[k]? = some f.code.length := by rw [hFL, List.getElem?_map, hf]; rfl
      rw [drop_sum hfk] at hr
      obtain ⟨b, o, rfl, a', cap, hcode, _, hcp, hcc⟩ := sl_fn h2 hf
      have hcl := hcode.1
      (repeat first | refine ldC ‹Sub _ _› (by assumption) ?_ | refine ld (Cl.cell (by first | assumption | exact Bk.cl (by assumption) rfl)) ?_ | refine ldK (by first | assumption | exact Bk.cl (by assumption) rfl | exact ‹Sub _ _› _ _ _ (by assumption)) ?_)
      refine ix k rfl hlt ?_
      (repeat first | refine ldC ‹Sub _ _› (by assumption) ?_ | refine ld (Cl.cell (by first | assumption | exact Bk.cl (by assumption) rfl)) ?_ | refine ldK (by first | assumption | exact Bk.cl (by assumption) rfl | exact ‹Sub _ _› _ _ _ (by assumption)) ?_)
      refine int64 (by simp only; omega) (by simp only; omega) ?_
      refine int64 (by simp only; omega) (by simp only; omega) ?_
      exact ⟨(k + 1, n + f.code.length), by simp only; omega, rfl, ⟨rfl, rfl, rfl, rfl, trivial⟩, by simp only; omega, hkp, by simp only; omega, by simp only; omega⟩
    · have g2 : ¬ (n : Int) ≤ (lid : Int) := g2
      have hle : n + (FL.drop k).sum = c.main.length + FL.sum := hr
      refine lp τok (σ := Nat × Nat) (fun q => [(1, .int .i64 (lid : Int)), (2, .pointer (some ⟨b1, 0, none⟩)), (5, .int .i64 q.2), (7, .int .i64 q.1)])
        (fun q w' => q.1 ≤ BL.length ∧ Kp [] w1 w' ∧ q.2 + (BL.drop q.1).sum ≤ sizeM c ∧ (q.2 + (BL.drop q.1).sum = sizeM c ∨ lid < q.2) ∧ q.2 ≤ 2199023255552) (fun q => BL.length - q.1) (0, n) rfl
        ⟨rfl, rfl, rfl, rfl, trivial⟩ ⟨Nat.zero_le _, hkp, by simp only [List.drop_zero]; omega, by simp only; omega, hn⟩ ?_
      rintro ⟨k, n⟩ w3 ⟨hk, hkp, hr1, hr2, hn⟩
      simp only at hk hr1 hr2 hn
      have hB3 := hB1.kp hkp (by simp)
      have hS3 := hS1.tr hkp
      (repeat first | refine ldC ‹Sub _ _› (by assumption) ?_ | refine ld (Cl.cell (by first | assumption | exact Bk.cl (by assumption) rfl)) ?_ | refine ldK (by first | assumption | exact Bk.cl (by assumption) rfl | exact ‹Sub _ _› _ _ _ (by assumption)) ?_)
      refine br_dec (fun g3 => ?_) (fun g3 => ?_)
      · have hltb : k < c.bodies.length := by have : (k : Int) < c.bodies.length := g3
                                              omega
        refine br_dec (fun g4 => ?_) (fun g4 => ?_)
        · have g4 : (n : Int) ≤ (lid : Int) := g4
          obtain ⟨f, hf, hd⟩ := drop_get hltb
          have hfk : BL[k]? = some f.length := by rw [hBL, List.getElem?_map, hf]; rfl
          rw [drop_sum hfk] at hr1 hr2
          obtain ⟨b, o, rfl, a', cap, hcell, hcode⟩ := h3.sl hf
          have hcl := hcode.1
          (repeat first | refine ldC ‹Sub _ _› (by assumption) ?_ | refine ld (Cl.cell (by first | assumption | exact Bk.cl (by assumption) rfl)) ?_ | refine ldK (by first | assumption | exact Bk.cl (by assumption) rfl | exact ‹Sub _ _› _ _ _ (by assumption)) ?_)
          refine ix k rfl hltb ?_
          (repeat first | refine ldC ‹Sub _ _› (by assumption) ?_ | refine ld (Cl.cell (by first | assumption | exact Bk.cl (by assumption) rfl)) ?_ | refine ldK (by first | assumption | exact Bk.cl (by assumption) rfl | exact ‹Sub _ _› _ _ _ (by assumption)) ?_)
          refine int64 (by simp only; omega) (by simp only; omega) ?_
          refine int64 (by simp only; omega) (by simp only; omega) ?_
          exact ⟨(k + 1, n + f.length), by simp only; omega, rfl, ⟨rfl, rfl, rfl, rfl, trivial⟩, by simp only; omega, hkp, by simp only; omega, by simp only; omega, by simp only; omega⟩
        · have g4 : ¬ (n : Int) ≤ (lid : Int) := g4
          exact ⟨n, rfl, hn, by omega, hk1.tr hkp⟩
      · have g3 : ¬ (k : Int) < c.bodies.length := g3
        have hke : BL.drop k = [] := List.drop_eq_nil_of_le (by omega)
        rw [hke] at hr1 hr2
        simp only [List.sum_nil, Nat.add_zero] at hr1 hr2
        exact ⟨n, rfl, hn, by omega, hk1.tr hkp⟩
  · have hke : FL.drop k = [] := List.drop_eq_nil_of_le (by omega)
    rw [hke] at hr
    have hr : n = c.main.length + FL.sum := by simpa using hr
    refine lp τok (σ := Nat × Nat) (fun q => [(1, .int .i64 (lid : Int)), (2, .pointer (some ⟨b1, 0, none⟩)), (5, .int .i64 q.2), (7, .int .i64 q.1)])
      (fun q w' => q.1 ≤ BL.length ∧ Kp [] w1 w' ∧ q.2 + (BL.drop q.1).sum ≤ sizeM c ∧ (q.2 + (BL.drop q.1).sum = sizeM c ∨ lid < q.2) ∧ q.2 ≤ 2199023255552) (fun q => BL.length - q.1) (0, n) rfl
      ⟨rfl, rfl, rfl, rfl, trivial⟩ ⟨Nat.zero_le _, hkp, by simp only [List.drop_zero]; omega, by simp only [List.drop_zero]; omega, hn⟩ ?_
    rintro ⟨k, n⟩ w3 ⟨hk, hkp, hr1, hr2, hn⟩
    simp only at hk hr1 hr2 hn
    have hB3 := hB1.kp hkp (by simp)
    have hS3 := hS1.tr hkp
    (repeat first | refine ldC ‹Sub _ _› (by assumption) ?_ | refine ld (Cl.cell (by first | assumption | exact Bk.cl (by assumption) rfl)) ?_ | refine ldK (by first | assumption | exact Bk.cl (by assumption) rfl | exact ‹Sub _ _› _ _ _ (by assumption)) ?_)
    refine br_dec (fun g3 => ?_) (fun g3 => ?_)
    · have hltb : k < c.bodies.length := by have : (k : Int) < c.bodies.length := g3
                                            omega
      refine br_dec (fun g4 => ?_) (fun g4 => ?_)
      · have g4 : (n : Int) ≤ (lid : Int) := g4
        obtain ⟨f, hf, hd⟩ := drop_get hltb
        have hfk : BL[k]? = some f.length := by rw [hBL, List.getElem?_map, hf]; rfl
        rw [drop_sum hfk] at hr1 hr2
        obtain ⟨b, o, rfl, a', cap, hcell, hcode⟩ := h3.sl hf
        have hcl := hcode.1
        (repeat first | refine ldC ‹Sub _ _› (by assumption) ?_ | refine ld (Cl.cell (by first | assumption | exact Bk.cl (by assumption) rfl)) ?_ | refine ldK (by first | assumption | exact Bk.cl (by assumption) rfl | exact ‹Sub _ _› _ _ _ (by assumption)) ?_)
        refine ix k rfl hltb ?_
        (repeat first | refine ldC ‹Sub _ _› (by assumption) ?_ | refine ld (Cl.cell (by first | assumption | exact Bk.cl (by assumption) rfl)) ?_ | refine ldK (by first | assumption | exact Bk.cl (by assumption) rfl | exact ‹Sub _ _› _ _ _ (by assumption)) ?_)
        refine int64 (by simp only; omega) (by simp only; omega) ?_
        refine int64 (by simp only; omega) (by simp only; omega) ?_
        exact ⟨(k + 1, n + f.length), by simp only; omega, rfl, ⟨rfl, rfl, rfl, rfl, trivial⟩, by simp only; omega, hkp, by simp only; omega, by simp only; omega, by simp only; omega⟩
      · have g4 : ¬ (n : Int) ≤ (lid : Int) := g4
        exact ⟨n, rfl, hn, by omega, hk1.tr hkp⟩
    · have g3 : ¬ (k : Int) < c.bodies.length := g3
      have hke : BL.drop k = [] := List.drop_eq_nil_of_le (by omega)
      rw [hke] at hr1 hr2
      simp only [List.sum_nil, Nat.add_zero] at hr1 hr2
      exact ⟨n, rfl, hn, by omega, hk1.tr hkp⟩

theorem long_ct {C : Mem} {w : World} (hS : Sub C w) {cs : List Value} {c : Cod} (hc : rCod.den C cs c) :
    CallOk Try.prog 10 ∧ Calls Try.prog 10 #[.agg cs.toArray] w (fun e w' => ∃ b, e = .returned (.bool b) ∧ Kp [] w w') := by
  have hc0 := hc
  obtain ⟨a1, c1, a2, c2, a3, c3, a4, c4, rfl, h1, h2, h3, h4, h5⟩ := hc
  have hsl := h1.1
  refine ⟨⟨_, Try.func10, rfl, by decide⟩, ?_⟩
  refine calls_of (args := [_]) 37 [.tmp 2] τok Try.func10 rfl rfl rfl (Nat.le_of_ble_eq_true rfl) ?_
  refine new fun b1 w1 hb1 hB1 hs1 hk1 => ?_
  have hB1 : Bk w1.heap b1 [.int .i64 c.nat, .slice a1 c.shapes.length c1, .slice a2 c.funs.length c2, .slice a3 c.bodies.length c3, .slice a4 c.main.length c4] 28 := hB1
  have hS1 := hS.tr hk1
  refine drawH τok (fun w' => Kp [] w1 w') ?_
  refine any_reads τok [0, 2, 3, 4] 3 #[true, false, true, true, true, false, false] rfl rfl (by kernel_rfl) (by kernel_rfl) (by kernel_rfl) ((Kp.refl _ _).dr _) ?_
  refine ldNK [.int .i64 c.nat, .slice a1 c.shapes.length c1, .slice a2 c.funs.length c2, .slice a3 c.bodies.length c3, .slice a4 c.main.length c4] rfl (fun j v hj => by rw [Nat.zero_add]; exact hB1.cl hj) ?_
  refine ldK (hB1.cl rfl) ?_
  refine any_next τok 1 2 #[true, true, true, true, true, false, false] rfl rfl rfl (by kernel_rfl) ?_
  refine ev_call (size20_ct (hS1.dr _) hc0 6000 (by omega)) ?_
  rintro e w2 ⟨n, rfl, hn, _, hk2⟩
  have hk2 : Kp [] w1 w2 := hk2.rd
  refine ⟨hk2, ?_⟩
  refine any_next τok 5 1 #[true, true, true, true, true, true, false] rfl rfl rfl (by kernel_rfl) ?_
  refine int64 (by omega) (by omega) ?_
  refine ⟨hk2, ?_⟩
  refine any_next τok 6 0 #[true, true, true, true, true, true, true] rfl rfl rfl (by kernel_rfl) ?_
  refine ⟨hk2, ?_⟩
  refine any_done (by kernel_rfl) ?_
  refine lp τok (σ := Nat × Nat) (fun q => [(1, .pointer (some ⟨b1, 0, none⟩)), (3, .int .i64 (q.2 : Int)), (4, .int .i64 (q.1 : Int))]) (fun q w' => Kp [] w1 w' ∧ q.1 ≤ 100 ∧ q.2 ≤ 4398046511104 + q.1 * 1099511627776) (fun q => 100 - q.1) (0, n + c.shapes.length) rfl ⟨rfl, rfl, rfl, trivial⟩ ⟨hk2, by simp, by simp only; omega⟩ ?_
  rintro ⟨k, m⟩ w3 ⟨hkp, hk, hm⟩
  simp only at hk hm
  have hB3 := hB1.kp hkp (by simp)
  have hS3 := hS1.tr hkp
  have fin : ∀ (b : Bool) w', Kp [] w1 w' → ∃ b', Ending.returned (one [.bool b]) = .returned (.bool b') ∧ Kp [] w w' := fun b w' h => ⟨b, rfl, hk1.tr h⟩
  (repeat first | refine ldC ‹Sub _ _› (by assumption) ?_ | refine ld (Cl.cell (by first | assumption | exact Bk.cl (by assumption) rfl)) ?_ | refine ldK (by first | assumption | exact Bk.cl (by assumption) rfl | exact ‹Sub _ _› _ _ _ (by assumption)) ?_)
  refine br_dec (fun g1 => ?_) (fun g1 => ?_)
  · refine br_dec (fun g2 => ?_) (fun g2 => ?_)
    · have g2 : (k : Int) < 100 := g2
      have hlt : k < c.shapes.length := by have : (k : Int) < c.shapes.length := g1; omega
      obtain ⟨s, hs, _⟩ := drop_get hlt
      obtain ⟨b, o, rfl, ak, ck, hkept, _, hcp, hck⟩ := sl_shp h1 hs
      have hkl := hkept.1
      (repeat first | refine ldC ‹Sub _ _› (by assumption) ?_ | refine ld (Cl.cell (by first | assumption | exact Bk.cl (by assumption) rfl)) ?_ | refine ldK (by first | assumption | exact Bk.cl (by assumption) rfl | exact ‹Sub _ _› _ _ _ (by assumption)) ?_)
      refine ix k rfl hlt ?_
      (repeat first | refine ldC ‹Sub _ _› (by assumption) ?_ | refine ld (Cl.cell (by first | assumption | exact Bk.cl (by assumption) rfl)) ?_ | refine ldK (by first | assumption | exact Bk.cl (by assumption) rfl | exact ‹Sub _ _› _ _ _ (by assumption)) ?_)
      refine int64 (by simp only; omega) (by simp only; omega) ?_
      refine int64 (by simp only; omega) (by simp only; omega) ?_
      exact ⟨(k + 1, m + s.kept.length), by simp only; omega, rfl, ⟨rfl, rfl, rfl, trivial⟩, hkp, by simp only; omega, by simp only; omega⟩
    · refine br_dec (fun g3 => ?_) (fun g3 => ?_)
      · exact fin _ _ hkp
      · exact fin _ _ hkp
  · refine br_dec (fun g3 => ?_) (fun g3 => ?_)
    · exact fin _ _ hkp
    · exact fin _ _ hkp

/-! ### opening -/
section
variable {H : Type} {enc : TypeId × Value → H} {w : World} {spare : Nat → Bool} {held : Bool}

theorem open_sl {α : Type} [Inhabited α] {t e : TypeId} (R : Rd α) (hk : 0 < R.sz) (ht : Try.prog.underlying t = some (.slice e)) (hc : Try.prog.cellsOf e = R.sz)
    (one : ∀ (cs : List Value) (n : Nat) (y : DataW H × List MemPlace), cs.length = R.sz → DataW.trod enc Try.prog w 0 spare held n e cs = some y → Rows.uptoBulk y.1 ≤ 1048576 → ∃ x : α, R.den (Old w) cs x)
    {fuel : Nat} {v : Value} {x : DataW H × List MemPlace} (h : DataW.trod enc Try.prog w 0 spare held fuel t [v] = some x) (hB : Rows.uptoBulk x.1 ≤ 1048576) : ∃ l, (rSl R).den (Old w) [v] l := by
  obtain ⟨a, l, cap, h1, h2, h3⟩ := open_row R hk ht hc (fun d => Rows.uptoBulk d ≤ 1048576) one h (fun es sp e d hd => by
    rw [e] at hB
    have := bulk_part hd
    simp only [Rows.uptoBulk] at hB
    omega)
  refine ⟨l, a, cap, by rw [h1], h2 ?_⟩
  rcases h3 with h3 | ⟨es, sp, e, hl⟩
  · omega
  · rw [e] at hB
    have := bulk_len es
    simp only [Rows.uptoBulk] at hB
    omega

theorem open_i {n : Nat} {cs : List Value} {y : DataW H × List MemPlace} (hn : DataW.trod enc Try.prog w 0 spare held n 3 cs = some y) : ∃ x, rInt.den (Old w) cs x := by
  obtain ⟨z, rfl, rfl, hw⟩ := DataW.trod_int Try.underlying3 hn
  exact ⟨z, rfl, i64_of hw⟩
theorem open_ints {n : Nat} {v : Value} {y : DataW H × List MemPlace} (hn : DataW.trod enc Try.prog w 0 spare held n 43 [v] = some y) (hB : Rows.uptoBulk y.1 ≤ 1048576) : ∃ l, (rSl rInt).den (Old w) [v] l :=
  open_sl rInt Nat.one_pos Try.underlying43 (by kernel_rfl) (fun cs n y hl hn _ => open_i hn) hn hB
theorem open_bools {n : Nat} {v : Value} {y : DataW H × List MemPlace} (hn : DataW.trod enc Try.prog w 0 spare held n 99 [v] = some y) (hB : Rows.uptoBulk y.1 ≤ 1048576) : ∃ l, (rSl rBool).den (Old w) [v] l :=
  open_sl rBool Nat.one_pos Try.underlying99 (by kernel_rfl) (fun cs n y hl hn _ => by
    obtain ⟨b, rfl, rfl⟩ := DataW.trod_bool Try.underlying4 hn
    exact ⟨b, rfl⟩) hn hB

theorem agg_part {H : Type} {xs : List (DataW H × List MemPlace)} {x : DataW H × List MemPlace} (hx : x ∈ xs) (hB : Rows.uptoBulk (.agg (xs.map (·.1))) ≤ 1048576) : Rows.uptoBulk x.1 ≤ 1048576 := by
  have := bulk_part (List.mem_map_of_mem (f := (·.1)) hx)
  simp only [Rows.uptoBulk] at hB
  omega

theorem open_ins {n : Nat} {cs : List Value} {y : DataW H × List MemPlace} (hl : cs.length = 4) (hn : DataW.trod enc Try.prog w 0 spare held n 45 cs = some y) (hB : Rows.uptoBulk y.1 ≤ 1048576) : ∃ x, rIns.den (Old w) cs x := by
  obtain ⟨xs, m, rfl, rfl, _, hxl, hf⟩ := DataW.trod_struct Try.underlying45 hn
  match cs, hl, xs, hxl with
  | [c0, c1, c2, c3], _, [x0, x1, x2, x3], _ =>
    have g0 := hf 0 _ rfl
    have g1 := hf 1 _ rfl
    have g2 := hf 2 _ rfl
    have g3 := hf 3 _ rfl
    simp [show Try.prog.cellsOf 3 = 1 by kernel_rfl, show Try.prog.cellsOf 43 = 1 by kernel_rfl] at g0 g1 g2 g3
    obtain ⟨z0, e0, w0⟩ := open_i g0
    obtain ⟨z1, e1, w1⟩ := open_i g1
    obtain ⟨z2, e2, w2⟩ := open_i g2
    obtain ⟨l, a, cap, e3, hs⟩ := open_ints g3 (agg_part (x := x3) (by simp) hB)
    simp at e0 e1 e2 e3
    subst e0 e1 e2 e3
    exact ⟨⟨z0, z1, z2, l⟩, a, cap, rfl, hs, w0, w1, w2⟩
theorem open_block {n : Nat} {v : Value} {y : DataW H × List MemPlace} (hn : DataW.trod enc Try.prog w 0 spare held n 26 [v] = some y) (hB : Rows.uptoBulk y.1 ≤ 1048576) : ∃ l, (rSl rIns).den (Old w) [v] l :=
  open_sl rIns (by decide) Try.underlying26 (by kernel_rfl) (fun cs n y hl hn hb => open_ins hl hn hb) hn hB
theorem open_shp {n : Nat} {cs : List Value} {y : DataW H × List MemPlace} (hl : cs.length = 2) (hn : DataW.trod enc Try.prog w 0 spare held n 56 cs = some y) (hB : Rows.uptoBulk y.1 ≤ 1048576) : ∃ x, rShp.den (Old w) cs x := by
  obtain ⟨xs, m, rfl, rfl, _, hxl, hf⟩ := DataW.trod_struct Try.underlying56 hn
  match cs, hl, xs, hxl with
  | [c0, c1], _, [x0, x1], _ =>
    have g0 := hf 0 _ rfl
    have g1 := hf 1 _ rfl
    simp [show Try.prog.cellsOf 3 = 1 by kernel_rfl, show Try.prog.cellsOf 54 = 1 by kernel_rfl] at g0 g1
    obtain ⟨z0, e0, w0⟩ := open_i g0
    obtain ⟨l, a, cap, e3, hs⟩ := open_sl (rSl rBool) Nat.one_pos Try.underlying54 (by kernel_rfl) (fun cs n y hl hn hb => by
      match cs, hl with
      | [c], _ => exact open_bools hn hb) g1 (agg_part (x := x1) (by simp) hB)
    simp at e0 e3
    subst e0 e3
    exact ⟨⟨z0, l⟩, a, cap, rfl, hs, w0⟩
theorem open_f {n : Nat} {cs : List Value} {y : DataW H × List MemPlace} (hl : cs.length = 2) (hn : DataW.trod enc Try.prog w 0 spare held n 48 cs = some y) (hB : Rows.uptoBulk y.1 ≤ 1048576) : ∃ x, rFn.den (Old w) cs x := by
  obtain ⟨xs, m, rfl, rfl, _, hxl, hf⟩ := DataW.trod_struct Try.underlying48 hn
  match cs, hl, xs, hxl with
  | [c0, c1], _, [x0, x1], _ =>
    have g0 := hf 0 _ rfl
    have g1 := hf 1 _ rfl
    simp [show Try.prog.cellsOf 3 = 1 by kernel_rfl, show Try.prog.cellsOf 26 = 1 by kernel_rfl] at g0 g1
    obtain ⟨z0, e0, w0⟩ := open_i g0
    obtain ⟨l, a, cap, e3, hs⟩ := open_block g1 (agg_part (x := x1) (by simp) hB)
    simp at e0 e3
    subst e0 e3
    exact ⟨⟨z0, l⟩, a, cap, rfl, hs, w0⟩
theorem open_fn {v : Value} {r : Reach} {b0 : Nat} {d : DataW H} {ps : List MemPlace} (hval : Value.okWide Try.prog w r b0 48 v) (h : DataW.Trod enc Try.prog w 0 spare held 48 v d ps) (hB : Rows.uptoBulk d ≤ 1048576) :
    ∃ (cs : List Value) (x : Cd.Fn), v = .agg cs.toArray ∧ rFn.den (Old w) cs x := by
  obtain ⟨cs, rfl, hs⟩ := okWide_struct Try.underlying48 hval
  obtain ⟨fuel, hf0⟩ := h
  have hsz : cs.size = 2 := by rw [hs]; kernel_rfl
  obtain ⟨x, hx⟩ := open_f (cs := cs.toList) (by simpa using hsz) hf0 hB
  exact ⟨cs.toList, x, rfl, hx⟩
theorem open_cod {v : Value} {r : Reach} {b0 : Nat} {d : DataW H} {ps : List MemPlace} (hval : Value.okWide Try.prog w r b0 28 v) (h : DataW.Trod enc Try.prog w 0 spare held 28 v d ps) (hB : Rows.uptoBulk d ≤ 1048576) :
    ∃ (cs : List Value) (x : Cod), v = .agg cs.toArray ∧ rCod.den (Old w) cs x := by
  obtain ⟨cs, rfl, hs⟩ := okWide_struct Try.underlying28 hval
  obtain ⟨fuel, hf0⟩ := h
  obtain ⟨xs, m, rfl, hx, hl, hxl, hf⟩ := DataW.trod_struct Try.underlying28 hf0
  have hsz : cs.size = 5 := by rw [hs]; kernel_rfl
  obtain ⟨cs⟩ := cs
  match cs, hsz, xs, hxl with
  | [c0, c1, c2, c3, c4], _, [x0, x1, x2, x3, x4], _ =>
    have hd : d = .agg ([x0, x1, x2, x3, x4].map (·.1)) := (Prod.mk.injEq .. ▸ hx).1
    rw [hd] at hB
    have g0 := hf 0 _ rfl
    have g1 := hf 1 _ rfl
    have g2 := hf 2 _ rfl
    have g3 := hf 3 _ rfl
    have g4 := hf 4 _ rfl
    simp [Value.cells, show Try.prog.cellsOf 3 = 1 by kernel_rfl, show Try.prog.cellsOf 22 = 1 by kernel_rfl, show Try.prog.cellsOf 23 = 1 by kernel_rfl, show Try.prog.cellsOf 24 = 1 by kernel_rfl, show Try.prog.cellsOf 26 = 1 by kernel_rfl] at g0 g1 g2 g3 g4
    obtain ⟨z0, e0, w0⟩ := open_i g0
    obtain ⟨l1, a1, c1', e1, s1⟩ := open_sl rShp (by decide) Try.underlying22 (by kernel_rfl) (fun cs n y hl hn hb => open_shp hl hn hb) g1 (agg_part (x := x1) (by simp) hB)
    obtain ⟨l2, a2, c2', e2, s2⟩ := open_sl rFn (by decide) Try.underlying23 (by kernel_rfl) (fun cs n y hl hn hb => open_f hl hn hb) g2 (agg_part (x := x2) (by simp) hB)
    obtain ⟨l3, a3, c3', e3, s3⟩ := open_sl (rSl rIns) Nat.one_pos Try.underlying24 (by kernel_rfl) (fun cs n y hl hn hb => by
      match cs, hl with
      | [c], _ => exact open_block hn hb) g3 (agg_part (x := x3) (by simp) hB)
    obtain ⟨l4, a4, c4', e4, s4⟩ := open_block g4 (agg_part (x := x4) (by simp) hB)
    simp at e0 e1 e2 e3 e4
    subst e0 e1 e2 e3 e4
    exact ⟨_, ⟨z0, l1, l2, l3, l4⟩, rfl, a1, c1', a2, c2', a3, c3', a4, c4', rfl, s1, s2, s3, s4, w0⟩
end
theorem bulk_app {H : Type} (l r : List (DataW H)) : Rows.uptoBulkAll (l ++ r) = Rows.uptoBulkAll l + Rows.uptoBulkAll r := by
  induction l with
  | nil => simp [Rows.uptoBulkAll]
  | cons x l ih => simp only [List.cons_append, Rows.uptoBulkAll, ih]; omega
end Go.Proofs.Ytjogpbiilokldaa
