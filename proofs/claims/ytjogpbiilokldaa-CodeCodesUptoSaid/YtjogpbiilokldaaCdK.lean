/-
  Code: Check.
-/
import Derived.Test.YtjogpbiilokldaaCdJ
set_option linter.unusedSimpArgs false
set_option linter.unusedVariables false
namespace Go.Proofs.Ytjogpbiilokldaa
open Go.Wx Cd

theorem check1_ct (f : Cd.Fn) (a : Option Addr) (cap : Nat) (w : World) : CallOk Try.prog 24 ∧ Calls Try.prog 24 #[.agg #[.int .i64 f.caps, .slice a f.code.length cap]] w (fun e w' => e = .returned (.bool (!inM f.caps 0 255)) ∧ Kp [] w w') := by
  refine ⟨⟨_, Try.func24, rfl, by decide⟩, ?_⟩
  refine calls_of (args := [_]) 7 [.tmp 2] τok Try.func24 rfl rfl rfl (Nat.le_of_ble_eq_true rfl) ?_
  refine new fun b1 w1 hb1 hB1 hs1 hk1 => ?_
  have hB1 : Bk w1.heap b1 [.int .i64 f.caps, .slice a f.code.length cap] 48 := hB1
  (repeat first | refine ldC ‹Sub _ _› (by assumption) ?_ | refine ld (Cl.cell (by first | assumption | exact Bk.cl (by assumption) rfl)) ?_ | refine ldK (by first | assumption | exact Bk.cl (by assumption) rfl | exact ‹Sub _ _› _ _ _ (by assumption)) ?_)
  refine ev_call (in_ct _ _ _ w1) ?_
  rintro e w2 ⟨rfl, hk2⟩
  exact ⟨rfl, hk1.tr hk2⟩

theorem indexFuns_ct {C : Mem} {w : World} (hS : Sub C w) (l : List Cd.Fn) (a : Option Addr) (cap : Nat) (hl : Sl rFn C a l) :
    CallOk Try.prog 51 ∧ Calls Try.prog 51 #[.slice a l.length cap, .func (.func 24) #[] #[]] w (fun e w' => ∃ i : Int, e = .returned (.int .i64 i) ∧ Kp [] w w' ∧ (l.any (fun f => !inM f.caps 0 255) = decide (0 ≤ i))) := by
  refine ⟨⟨_, Try.func51, rfl, by decide⟩, ?_⟩
  have hlen := hl.1
  refine calls_of (args := [_, _]) 19 [.tmp 4] τok Try.func51 rfl rfl rfl (Nat.le_of_ble_eq_true rfl) ?_
  refine lp τok (σ := Nat) (fun k => [(0, .slice a l.length cap), (1, .func (.func 24) #[] #[]), (7, .int .i64 l.length), (8, .int .i64 k)]) (fun k w' => k ≤ l.length ∧ Kp [] w w' ∧ l.any (fun f => !inM f.caps 0 255) = (l.drop k).any (fun f => !inM f.caps 0 255)) (fun k => l.length - k) 0 rfl
    ⟨rfl, rfl, rfl, rfl, trivial⟩ ⟨Nat.zero_le _, Kp.refl _ _, rfl⟩ ?_
  rintro k w1 ⟨hk, hkp, hr⟩
  refine br_dec (fun h => ?_) (fun h => ?_)
  · have hlt : k < l.length := by omega
    obtain ⟨x, hx, hd⟩ := drop_get hlt
    rw [hd, List.any_cons] at hr
    obtain ⟨b, o, rfl, a', c', hcode, _, hcp, hcc⟩ := sl_fn hl hx
    have hS1 := hS.tr hkp
    refine ix k rfl hlt ?_
    refine ldN [.int .i64 x.caps, .slice a' x.code.length c'] rfl (fun j v hj => ?_) ?_
    · match j with
      | 0 => simp at hj; subst hj; exact hS1 _ _ _ hcp
      | 1 => simp at hj; subst hj; exact hS1 _ _ _ hcc
      | j + 2 => simp at hj
    refine ev_call (check1_ct x a' c' w1) ?_
    rintro e w2 ⟨rfl, hk2⟩
    have hkp2 := hkp.tr hk2
    refine br (fun hc => ?_) (fun hc => ?_)
    · refine ⟨(k : Int), rfl, hkp2, ?_⟩
      rw [hr, hc, decide_eq_true (by omega)]
      rfl
    · refine int64 (by omega) (by omega) ?_
      refine ⟨k + 1, by omega, rfl, ⟨rfl, rfl, rfl, rfl, trivial⟩, hlt, hkp2, ?_⟩
      rw [hr, hc, Bool.false_or]
  · refine ⟨-1, rfl, hkp, ?_⟩
    rw [hr, List.drop_eq_nil_of_le (by omega)]
    rfl

theorem containsFuns_ct {C : Mem} {w : World} (hS : Sub C w) (l : List Cd.Fn) (a : Option Addr) (cap : Nat) (hl : Sl rFn C a l) :
    CallOk Try.prog 23 ∧ Calls Try.prog 23 #[.slice a l.length cap, .func (.func 24) #[] #[]] w (fun e w' => e = .returned (.bool (l.any fun f => !inM f.caps 0 255)) ∧ Kp [] w w') := by
  refine ⟨⟨_, Try.func23, rfl, by decide⟩, ?_⟩
  refine calls_of (args := [_, _]) 9 [.tmp 4] τok Try.func23 rfl rfl rfl (Nat.le_of_ble_eq_true rfl) ?_
  refine ev_call (indexFuns_ct hS l a cap hl) ?_
  rintro e w1 ⟨i, rfl, hk1, hi⟩
  refine ⟨?_, hk1⟩
  rw [hi]
  rfl

theorem kept_le {C : Mem} {a : Option Addr} {l : List Shp} (h : Sl rShp C a l) : ∀ s ∈ l, ∀ k ∈ s.kept, k.length ≤ 1099511627776 := fun s hs k hk => by
  obtain ⟨i, hi⟩ := List.getElem?_of_mem hs
  obtain ⟨b, o, _, a', cap, hkept, _⟩ := sl_shp h hi
  exact sl_len hkept k hk

/-- what Check asks, for the blocks to be looked at -/
theorem codOk_of {C : Mem} {cs : List Value} {c : Cod} (hc : rCod.den C cs c) (hf : c.funs.any (fun f => !inM f.caps 0 255) = false) (hr : rightM (boxes c) c.shapes c.nat = true) : CodOk c := by
  obtain ⟨a1, c1, a2, c2, a3, c3, a4, c4, _, h1, h2, h3, h4, h5⟩ := hc
  refine ⟨fun f hf' => ?_, ?_, kept_le h1⟩
  · rw [List.any_eq_false] at hf
    have := hf f hf'
    simpa [inM] using this
  · simp only [rightM, Bool.and_eq_true, decide_eq_true_eq, boxes, List.length_map] at hr
    exact hr.1

theorem size_mem {c : Cod} (h : sizeM c ≤ 16384) : c.main.length ≤ 16384 ∧ (∀ f ∈ c.funs, f.code.length ≤ 16384) ∧ ∀ b ∈ c.bodies, b.length ≤ 16384 := by
  unfold sizeM at h
  refine ⟨by omega, fun f hf => ?_, fun b hb => ?_⟩
  · have := le_sum (List.mem_map_of_mem (f := fun f : Cd.Fn => f.code.length) hf)
    omega
  · have := le_sum (List.mem_map_of_mem (f := List.length) hb)
    omega

theorem check_ct {C : Mem} {w : World} (hS : Sub C w) {cs : List Value} {c : Cod} (hc : rCod.den C cs c) :
    CallOk Try.prog 11 ∧ Calls Try.prog 11 #[.agg cs.toArray] w (fun e w' => e = .returned (.int .i64 (checkM c)) ∧ Kp [] w w') := by
  have hc0 := hc
  obtain ⟨a1, c1, a2, c2, a3, c3, a4, c4, rfl, h1, h2, h3, h4, h5⟩ := hc
  obtain ⟨RES, hRES⟩ : ∃ r, checkM c = r := ⟨_, rfl⟩
  rw [hRES]
  refine ⟨⟨_, Try.func11, rfl, by decide⟩, ?_⟩
  refine calls_of (args := [_]) 99 [.tmp 2] τok Try.func11 rfl rfl rfl (Nat.le_of_ble_eq_true rfl) ?_
  refine new fun b1 w1 hb1 hB1 hs1 hk1 => ?_
  have hB1 : Bk w1.heap b1 [.int .i64 c.nat, .slice a1 c.shapes.length c1, .slice a2 c.funs.length c2, .slice a3 c.bodies.length c3, .slice a4 c.main.length c4] 28 := hB1
  have hS1 := hS.tr hk1
  have ret : ∀ n w', Kp [] w w' → RES = n → Ending.returned (one [.int .i64 n]) = .returned (.int .i64 RES) ∧ Kp [] w w' := fun n w' h e => ⟨by rw [e]; rfl, h⟩
  (repeat first | refine ldC ‹Sub _ _› (by assumption) ?_ | refine ld (Cl.cell (by first | assumption | exact Bk.cl (by assumption) rfl)) ?_ | refine ldK (by first | assumption | exact Bk.cl (by assumption) rfl | exact ‹Sub _ _› _ _ _ (by assumption)) ?_)
  refine br_dec (fun g1 => ?_) (fun g1 => ?_)
  · exact ret _ _ hk1 (by rw [← hRES]; unfold checkM; rw [if_pos (.inl (by omega))])
  (repeat first | refine ldC ‹Sub _ _› (by assumption) ?_ | refine ld (Cl.cell (by first | assumption | exact Bk.cl (by assumption) rfl)) ?_ | refine ldK (by first | assumption | exact Bk.cl (by assumption) rfl | exact ‹Sub _ _› _ _ _ (by assumption)) ?_)
  refine br_dec (fun g2 => ?_) (fun g2 => ?_)
  · exact ret _ _ hk1 (by rw [← hRES]; unfold checkM; rw [if_pos (.inr (.inl (by omega)))])
  (repeat first | refine ldC ‹Sub _ _› (by assumption) ?_ | refine ld (Cl.cell (by first | assumption | exact Bk.cl (by assumption) rfl)) ?_ | refine ldK (by first | assumption | exact Bk.cl (by assumption) rfl | exact ‹Sub _ _› _ _ _ (by assumption)) ?_)
  refine br_dec (fun g3 => ?_) (fun g3 => ?_)
  · exact ret _ _ hk1 (by rw [← hRES]; unfold checkM; rw [if_pos (.inr (.inr (.inl (by omega))))])
  refine ldN [.int .i64 c.nat, .slice a1 c.shapes.length c1, .slice a2 c.funs.length c2, .slice a3 c.bodies.length c3, .slice a4 c.main.length c4] rfl (fun j v hj => by rw [Nat.zero_add]; exact hB1.cl hj) ?_
  refine ev_call (size_ct hS1 hc0 (by omega) (by omega)) ?_
  rintro e w2 ⟨rfl, hk2⟩
  have hk12 := hk1.tr hk2
  refine br_dec (fun g4 => ?_) (fun g4 => ?_)
  · exact ret _ _ hk12 (by rw [← hRES]; unfold checkM; rw [if_pos (.inr (.inr (.inr (by omega))))])
  have hsz : sizeM c ≤ 16384 := by omega
  have e1 : RES = if c.funs.any (fun f => !inM f.caps 0 255) then 5 else if rightM (boxes c) c.shapes c.nat = false then 27 else if (blocksM c).1 = false then 27 else if 4096 < (blocksM c).2 then 5 else 0 := by
    rw [← hRES]; unfold checkM; rw [if_neg (by omega)]
  have hB2 := hB1.kp hk2 (by simp)
  have hS2 := hS1.tr hk2
  refine ld (hB2.cl rfl).cell ?_
  refine ev_call (containsFuns_ct hS2 c.funs a2 c2 h2) ?_
  rintro e w3 ⟨rfl, hk3⟩
  have hk13 := hk12.tr hk3
  refine br (fun g5 => ?_) (fun g5 => ?_)
  · exact ret _ _ hk13 (by rw [e1, if_pos g5])
  rw [if_neg (by rw [g5]; simp)] at e1
  have hB3 := hB2.kp hk3 (by simp)
  have hS3 := hS2.tr hk3
  refine ldN [.int .i64 c.nat, .slice a1 c.shapes.length c1, .slice a2 c.funs.length c2, .slice a3 c.bodies.length c3, .slice a4 c.main.length c4] rfl (fun j v hj => by rw [Nat.zero_add]; exact hB3.cl hj) ?_
  refine ev_call (shaped_ct hS3 hc0 (by omega) (by omega)) ?_
  rintro e w4 ⟨rfl, hk4⟩
  have hk14 := hk13.tr hk4
  refine br (fun g6 => ?_) (fun g6 => ?_)
  · exact ret _ _ hk14 (by rw [e1, if_pos (by simpa using g6)])
  have g6 : rightM (boxes c) c.shapes c.nat = true := by simpa using g6
  rw [if_neg (by rw [g6]; simp)] at e1
  have hco := codOk_of hc0 g5 g6
  obtain ⟨hml, hfl, hbl⟩ := size_mem hsz
  have hB4 := hB3.kp hk4 (by simp)
  -- the memory with the code's own block
  obtain ⟨C1, hC1⟩ : ∃ C1, C1 = addB C b1 [.int .i64 c.nat, .slice a1 c.shapes.length c1, .slice a2 c.funs.length c2, .slice a3 c.bodies.length c3, .slice a4 c.main.length c4] := ⟨_, rfl⟩
  have hC : Sub C1 w4 := by rw [hC1]; exact addB_sub (hS3.tr hk4) hB4
  have hmono : ∀ b o v, C b o v → C1 b o v := by rw [hC1]; exact addB_l
  have hcod : rCod.At C1 b1 0 c := ⟨_, rCod.mono hmono hc0, fun j v hj => by rw [hC1, Nat.zero_add]; exact addB_r hj⟩
  refine ld (hB4.cl rfl).cell ?_
  refine ev_call (block_ct c.main hC hcod (h4.mono hmono) hco (by omega) (by omega)) ?_
  rintro e w5 ⟨rfl, hk5⟩
  have hB5 := hB4.kp hk5 (by simp)
  have hk15 := hk14.tr hk5
  refine ld (hB5.cl rfl).cell ?_
  refine lp τok (σ := Nat × Bool × Int) (fun q => [(1, .pointer (some ⟨b1, 0, none⟩)), (3, .int .i64 q.2.2), (4, .bool q.2.1), (47, .slice a2 c.funs.length c2), (48, .int .i64 c.funs.length), (49, .int .i64 q.1)])
    (fun q w' => q.1 ≤ c.funs.length ∧ Kp [] w5 w' ∧ blocksM c = c.bodies.foldl (stepY c) ((c.funs.drop q.1).foldl (stepF c) q.2)) (fun q => c.funs.length - q.1) (0, (blockM c c.main 0).isSome, (blockM c c.main 0).getD 0) rfl
    ⟨rfl, rfl, rfl, rfl, rfl, rfl, trivial⟩ ⟨Nat.zero_le _, Kp.refl _ _, rfl⟩ ?_
  rintro ⟨k, ok, most⟩ w6 ⟨hk, hkp, hr⟩
  simp only at hk hr
  have hC6 := (hC.tr hk5).tr hkp
  have hB6 := hB5.kp hkp (by simp)
  refine br_dec (fun g7 => ?_) (fun g7 => ?_)
  · have hlt : k < c.funs.length := by omega
    obtain ⟨f, hf, hd⟩ := drop_get hlt
    rw [hd, List.foldl_cons] at hr
    have hfm := List.mem_of_getElem? hf
    have hcap := hco.caps f hfm
    obtain ⟨b, o, rfl, a', cap, hcode, _, hcp, hcc⟩ := sl_fn h2 hf
    refine ix k rfl hlt ?_
    refine ldN [.int .i64 f.caps, .slice a' f.code.length cap] rfl (fun j v hj => ?_) ?_
    · match j with
      | 0 => simp at hj; subst hj; exact hC6 _ _ _ (hmono _ _ _ hcp)
      | 1 => simp at hj; subst hj; exact hC6 _ _ _ (hmono _ _ _ hcc)
      | j + 2 => simp at hj
    refine new fun b7 w7 hb7 hB7 hs7 hk7 => ?_
    refine stN hB7 rfl (by simp [Value.oneCell']) fun w8 hB8 hs8 hk8 => ?_
    have hk68 : Kp [] w6 w8 := hk7.newSt hb7 hk8
    refine ld (hB8.cl rfl).cell ?_
    refine ld (hB8.cl rfl).cell ?_
    refine int64 (by omega) (by omega) ?_
    refine ev_call (block_ct f.code (hC6.tr hk68) hcod (hcode.mono hmono) hco (by have := hfl f hfm; omega) (by omega)) ?_
    rintro e w9 ⟨rfl, hk9⟩
    have hkp9 := (hkp.tr hk68).tr hk9
    refine br (fun g8 => ?_) (fun g8 => ?_)
    · refine max64 ?_
      refine int64 (by omega) (by omega) ?_
      refine ⟨(k + 1, stepF c (ok, most) f), by simp only; omega, rfl, ⟨rfl, rfl, ?_, rfl, rfl, rfl, trivial⟩, hlt, hkp9, hr⟩
      have g8 : ok = true := g8
      show some _ = some _
      simp [stepF, stepB, g8]
    · refine max64 ?_
      refine int64 (by omega) (by omega) ?_
      refine ⟨(k + 1, stepF c (ok, most) f), by simp only; omega, rfl, ⟨rfl, rfl, ?_, rfl, rfl, rfl, trivial⟩, hlt, hkp9, hr⟩
      have g8 : ok = false := g8
      show some _ = some _
      simp [stepF, stepB, g8]
  rw [List.drop_eq_nil_of_le (by omega)] at hr
  have hr : blocksM c = c.bodies.foldl (stepY c) (ok, most) := hr
  refine ld (hB6.cl rfl).cell ?_
  refine lp τok (σ := Nat × Bool × Int) (fun q => [(1, .pointer (some ⟨b1, 0, none⟩)), (3, .int .i64 q.2.2), (4, .bool q.2.1), (71, .slice a3 c.bodies.length c3), (72, .int .i64 c.bodies.length), (73, .int .i64 q.1)])
    (fun q w' => q.1 ≤ c.bodies.length ∧ Kp [] w6 w' ∧ blocksM c = (c.bodies.drop q.1).foldl (stepY c) q.2) (fun q => c.bodies.length - q.1) (0, ok, most) rfl
    ⟨rfl, rfl, rfl, rfl, rfl, rfl, trivial⟩ ⟨Nat.zero_le _, Kp.refl _ _, hr⟩ ?_
  clear hr
  rintro ⟨k', ok', most'⟩ w7 ⟨hk', hkp', hr⟩
  simp only at hk' hr
  have hC7 := hC6.tr hkp'
  refine br_dec (fun g7 => ?_) (fun g7 => ?_)
  · have hlt : k' < c.bodies.length := by omega
    obtain ⟨x, hx, hd⟩ := drop_get hlt
    rw [hd, List.foldl_cons] at hr
    have hxm := List.mem_of_getElem? hx
    obtain ⟨b, o, rfl, a', cap, hcell, hcode⟩ := h3.sl hx
    refine ix k' rfl hlt ?_
    refine ldC hC7 (hmono _ _ _ hcell) ?_
    refine br_dec (fun g8 => ?_) (fun g8 => ?_)
    · refine ev_call (block_ct x hC7 hcod (hcode.mono hmono) hco (by have := hbl x hxm; omega) (by omega)) ?_
      rintro e w9 ⟨rfl, hk9⟩
      have hkp9 := hkp'.tr hk9
      have hst : stepY c (ok', most') x = stepB c (ok', most') x 0 := by unfold stepY; rw [if_pos (by omega)]
      rw [hst] at hr
      refine br (fun g9 => ?_) (fun g9 => ?_)
      · refine max64 ?_
        refine int64 (by omega) (by omega) ?_
        refine ⟨(k' + 1, stepB c (ok', most') x 0), by simp only; omega, rfl, ⟨rfl, rfl, ?_, rfl, rfl, rfl, trivial⟩, hlt, hkp9, hr⟩
        have g9 : ok' = true := g9
        show some _ = some _
        simp [stepB, g9]
      · refine max64 ?_
        refine int64 (by omega) (by omega) ?_
        refine ⟨(k' + 1, stepB c (ok', most') x 0), by simp only; omega, rfl, ⟨rfl, rfl, ?_, rfl, rfl, rfl, trivial⟩, hlt, hkp9, hr⟩
        have g9 : ok' = false := g9
        show some _ = some _
        simp [stepB, g9]
    · have hst : stepY c (ok', most') x = (ok', most') := by unfold stepY; rw [if_neg (by omega)]
      rw [hst] at hr
      refine int64 (by omega) (by omega) ?_
      exact ⟨(k' + 1, ok', most'), by simp only; omega, rfl, ⟨rfl, rfl, rfl, rfl, rfl, rfl, trivial⟩, hlt, hkp', hr⟩
  · rw [List.drop_eq_nil_of_le (by omega)] at hr
    have hr : blocksM c = (ok', most') := hr
    rw [hr] at e1
    simp only at e1
    have hk17 := (hk15.tr hkp).tr hkp'
    refine br (fun g9 => ?_) (fun g9 => ?_)
    · exact ret _ _ hk17 (by rw [e1, if_pos (by simpa using g9)])
    rw [if_neg (by simpa using g9)] at e1
    refine br_dec (fun g10 => ?_) (fun g10 => ?_)
    · exact ret _ _ hk17 (by rw [e1, if_pos g10])
    · exact ret _ _ hk17 (by rw [e1, if_neg g10])
end Go.Proofs.Ytjogpbiilokldaa
