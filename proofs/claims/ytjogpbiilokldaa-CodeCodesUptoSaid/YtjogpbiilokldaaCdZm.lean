/-
  Code: the reference's Check; CodeChecks.
-/
import Derived.Test.YtjogpbiilokldaaCdZl
set_option linter.unusedSimpArgs false
set_option linter.unusedVariables false
namespace Go.Proofs.Ytjogpbiilokldaa
open Go.Wx Cd

theorem check20_ct {C : Mem} {w : World} (hS : Sub C w) {cs : List Value} {c : Cod} (hc : rCod.den C cs c) :
    CallOk Try.prog 12 ∧ Calls Try.prog 12 #[.agg cs.toArray] w (fun e w' => e = .returned (.int .i64 (checkM c)) ∧ Kp [] w w') := by
  have hc0 := hc
  obtain ⟨a1, c1, a2, c2, a3, c3, a4, c4, rfl, h1, h2, h3, h4, h5⟩ := hc
  obtain ⟨RES, hRES⟩ : ∃ r, checkM c = r := ⟨_, rfl⟩
  rw [hRES]
  refine ⟨⟨_, Try.func12, rfl, by decide⟩, ?_⟩
  refine calls_of (args := [_]) 160 [.tmp 2] τok Try.func12 rfl rfl rfl (Nat.le_of_ble_eq_true rfl) ?_
  refine new fun b1 w1 hb1 hB1 hs1 hk1 => ?_
  have hB1 : Bk w1.heap b1 [.int .i64 c.nat, .slice a1 c.shapes.length c1, .slice a2 c.funs.length c2, .slice a3 c.bodies.length c3, .slice a4 c.main.length c4] 28 := hB1
  have hS1 := hS.tr hk1
  have ret : ∀ n w', Kp [] w w' → RES = n → Ending.returned (one [.int .i64 n]) = .returned (.int .i64 RES) ∧ Kp [] w w' := fun n w' h e => ⟨by rw [e]; rfl, h⟩
  (repeat first | refine ldC ‹Sub _ _› (by assumption) ?_ | refine ld (Cl.cell (by first | assumption | exact Bk.cl (by assumption) rfl)) ?_ | refine ldK (by first | assumption | exact Bk.cl (by assumption) rfl | exact ‹Sub _ _› _ _ _ (by assumption)) ?_)
  refine br_dec (fun g1 => ?_) (fun g1 => ?_)
  · exact ret _ _ hk1 (by rw [← hRES]; unfold checkM; rw [if_pos (.inl (by omega))])
  (repeat first | refine ldC ‹Sub _ _› (by assumption) ?_ | refine ld (Cl.cell (by first | assumption | exact Bk.cl (by assumption) rfl)) ?_ | refine ldK (by first | assumption | exact Bk.cl (by assumption) rfl | exact ‹Sub _ _› _ _ _ (by assumption)) ?_)
  refine br_dec (fun g2 => ?_) (fun g2 => ?_)
  · exact ret _ _ hk1 (by rw [← hRES]; unfold checkM; rw [if_pos (.inr (.inl (by omega)))])
  (repeat first | refine ldC ‹Sub _ _› (by assumption) ?_ | refine ld (Cl.cell (by first | assumption | exact Bk.cl (by assumption) rfl)) ?_ | refine ldK (by first | assumption | exact Bk.cl (by assumption) rfl | exact ‹Sub _ _› _ _ _ (by assumption)) ?_)
  refine br_dec (fun g3 => ?_) (fun g3 => ?_)
  · exact ret _ _ hk1 (by rw [← hRES]; unfold checkM; rw [if_pos (.inr (.inr (.inl (by omega))))])
  refine ldN [.int .i64 c.nat, .slice a1 c.shapes.length c1, .slice a2 c.funs.length c2, .slice a3 c.bodies.length c3, .slice a4 c.main.length c4] rfl (fun j v hj => by rw [Nat.zero_add]; exact hB1.cl hj) ?_
  refine ev_call (size20_ct hS1 hc0 16384 (by omega)) ?_
  rintro e w2 ⟨n, rfl, hn, hnn, hk2⟩
  have hk12 := hk1.tr hk2
  refine br_dec (fun g4 => ?_) (fun g4 => ?_)
  · exact ret _ _ hk12 (by rw [← hRES]; unfold checkM; rw [if_pos (.inr (.inr (.inr (hnn.1 (by omega)))))])
  have hsz : sizeM c ≤ 16384 := by
    have := mt hnn.2 (by omega)
    omega
  have e1 : RES = if c.funs.any (fun f => !inM f.caps 0 255) then 5 else if rightM (boxes c) c.shapes c.nat = false then 27 else if (blocksM c).1 = false then 27 else if 4096 < (blocksM c).2 then 5 else 0 := by
    rw [← hRES]; unfold checkM; rw [if_neg (by omega)]
  have hB2 := hB1.kp hk2 (by simp)
  have hS2 := hS1.tr hk2
  refine lp τok (σ := Nat) (fun k => [(1, .pointer (some ⟨b1, 0, none⟩)), (3, .int .i64 k)])
    (fun k w' => k ≤ c.funs.length ∧ Kp [] w2 w' ∧ c.funs.any (fun f => !inM f.caps 0 255) = (c.funs.drop k).any (fun f => !inM f.caps 0 255)) (fun k => c.funs.length - k) 0 rfl ⟨rfl, rfl, trivial⟩ ⟨Nat.zero_le _, Kp.refl _ _, rfl⟩ ?_
  rintro k w3 ⟨hk, hk3, hany⟩
  have hB3 := hB2.kp hk3 (by simp)
  have hS3 := hS2.tr hk3
  have hk13 := hk12.tr hk3
  refine ld (hB3.cl rfl).cell ?_
  refine br_dec (fun g5 => ?_) (fun g5 => ?_)
  · have hlt : k < c.funs.length := by omega
    obtain ⟨f, hf, hd⟩ := drop_get hlt
    rw [hd, List.any_cons] at hany
    obtain ⟨b, o, rfl, a', cap, hcode, _, hcp, hcc⟩ := sl_fn h2 hf
    refine ld (hB3.cl rfl).cell ?_
    refine ix k rfl hlt ?_
    refine ldC hS3 hcp ?_
    refine ev_call (within20_ct _ _ _ w3) ?_
    rintro e w4 ⟨rfl, hk4⟩
    refine br (fun g6 => ?_) (fun g6 => ?_)
    · exact ret _ _ (hk13.tr hk4) (by rw [e1, if_pos (by rw [hany, g6]; rfl)])
    have g6 : (!inM f.caps 0 255) = false := g6
    rw [g6, Bool.false_or] at hany
    refine int64 (by omega) (by omega) ?_
    exact ⟨k + 1, by omega, rfl, ⟨rfl, rfl, trivial⟩, hlt, hk3.tr hk4, hany⟩
  rw [List.drop_eq_nil_of_le (by omega)] at hany
  have g5 : c.funs.any (fun f => !inM f.caps 0 255) = false := hany
  rw [if_neg (by rw [g5]; simp)] at e1
  clear hany
  (repeat first | refine ldC ‹Sub _ _› (by assumption) ?_ | refine ld (Cl.cell (by first | assumption | exact Bk.cl (by assumption) rfl)) ?_ | refine ldK (by first | assumption | exact Bk.cl (by assumption) rfl | exact ‹Sub _ _› _ _ _ (by assumption)) ?_)
  refine fill [.int .i64 22, .int .i64 0, .int .i64 0] rfl ?_
  refine new fun b12 w4 hb12 hX hs4 hk4 => ?_
  refine new fun b5 w5 hb5 hB5 hs5 hk5 => ?_
  refine stN (vs := [.slice none 0 0, .slice a1 c.shapes.length c1, .slice (some ⟨b12, 0, none⟩) 1 1, .int .i64 c.nat, .slice none 0 0]) hB5 rfl (by simp [Value.oneCell']) fun w6 hP hs6 hk6 => ?_
  have hk46 : Kp [] w4 w6 := hk5.newSt hb5 hk6
  have hk36 : Kp [] w3 w6 := hk4.tr hk46
  have hX6 := hX.kp hk46 (by simp)
  have z1 := hk13.size
  have hbl : (boxes c).length = c.bodies.length := by simp [boxes]
  refine lp τok (σ := Nat × Value) (fun q => [(1, .pointer (some ⟨b1, 0, none⟩)), (4, .pointer (some ⟨b5, 0, none⟩)), (5, .int .i64 q.1)])
    (fun q w' => q.1 ≤ c.bodies.length ∧ Kp [] w3 w' ∧ Bk w'.heap b5 [q.2, .slice a1 c.shapes.length c1, .slice (some ⟨b12, 0, none⟩) 1 1, .int .i64 c.nat, .slice none 0 0] 71 ∧ Bk w'.heap b12 [.int .i64 22, .int .i64 0, .int .i64 0] 65 ∧
      Own (rBx b12) 67 (b5 + 1) w' q.2 ((boxes c).take q.1)) (fun q => c.bodies.length - q.1) (0, .slice none 0 0) rfl
    ⟨rfl, rfl, rfl, trivial⟩ ⟨Nat.zero_le _, hk36, hP, hX6, Own.nil _ _ (by omega)⟩ ?_
  rintro ⟨k5, v⟩ w7 ⟨hk7', hk7, hP7, hX7, hO⟩
  simp only at hk7' hP7 hO
  have hB7 := hB3.kp hk7 (by simp)
  have hS7 := hS3.tr hk7
  refine ld (hB7.cl rfl).cell ?_
  refine br_dec (fun g6 => ?_) (fun g6 => ?_)
  · have hlt : k5 < c.bodies.length := by omega
    obtain ⟨x, hx, hd⟩ := drop_get hlt
    have hbx : (boxes c)[k5]? = some (if x.length = 0 then [] else [Nd.box]) := by simp [boxes, hx]
    obtain ⟨b, o, rfl, a', cap, hcell, _⟩ := h3.sl hx
    refine ld (hB7.cl rfl).cell ?_
    refine ix k5 rfl hlt ?_
    refine ldC hS7 hcell ?_
    have tail : ∀ (cv : Value), (rBx b12).den (Dn (b5 + 1) v w7) [cv] (if x.length = 0 then [] else [Nd.box]) → ∀ (K : Value → World → Prop),
        (∀ v' w', Kp [] w3 w' → Bk w'.heap b5 [v, .slice a1 c.shapes.length c1, .slice (some ⟨b12, 0, none⟩) 1 1, .int .i64 c.nat, .slice none 0 0] 71 → Bk w'.heap b12 [.int .i64 22, .int .i64 0, .int .i64 0] 65 →
          Own (rBx b12) 67 (b5 + 1) w' v' ((boxes c).take (k5 + 1)) → K v' w') → ∀ b6 w6, b6 = w7.heap.size → Bk w6.heap b6 [cv] 67 → Kp [] w7 w6 →
        EvRun Try.prog (Builtin.append_ #[68, 68] 68 #[v, .slice (some ⟨b6, 0, none⟩) 1 1]) w6 K := by
      intro cv hden K hK b6 w8 hb6 hB6 hk8
      have hlen : ((boxes c).take k5).length = k5 := by simp; omega
      refine (hO.kp hk8).ap1 τok rfl rfl Nat.one_pos (if x.length = 0 then [] else [Nd.box]) [cv] hden (fun j u hj => by rw [Nat.zero_add]; exact hB6.cl hj) (by rw [hlen]; omega) (by rw [hlen]; simp only [maxLen]; omega) fun v' w9 hO9 hk9 _ => ?_
      have hg : ∀ g, v.ownBlock = some g → b5 < g := fun g hg => (hO.block g hg).1
      refine hK v' w9 ?_ ?_ ?_ ?_
      · exact (hk7.tr hk8).trans hk9 fun y hy hl => by
          have hy : v.ownBlock = some y := by simpa using hy
          have := hg y hy
          have := hk4.size
          omega
      · exact (hP7.kp hk8 (by simp)).kp hk9 (by
          intro hy
          have hy : v.ownBlock = some b5 := by simpa using hy
          have := hg b5 hy
          omega)
      · exact (hX7.kp hk8 (by simp)).kp hk9 (by
          intro hy
          have hy : v.ownBlock = some b12 := by simpa using hy
          have := hg b12 hy
          omega)
      · rw [take_get hbx]
        exact hO9
    have fin : ∀ v' w7, Kp [] w3 w7 → Bk w7.heap b5 [v, .slice a1 c.shapes.length c1, .slice (some ⟨b12, 0, none⟩) 1 1, .int .i64 c.nat, .slice none 0 0] 71 → Bk w7.heap b12 [.int .i64 22, .int .i64 0, .int .i64 0] 65 →
        Own (rBx b12) 67 (b5 + 1) w7 v' ((boxes c).take (k5 + 1)) → v'.oneCell' = true := fun v' w7 _ _ _ hO7 => by
      obtain ⟨a, cap, rfl⟩ := hO7.len
      rfl
    refine br_dec (fun h7 => ?_) (fun h7 => ?_)
    · refine ld (hP7.cl rfl).cell ?_
      refine ld (hP7.cl rfl).cell ?_
      refine fill [.slice (some ⟨b12, 0, none⟩) 1 1] rfl ?_
      refine new fun b6 w8 hb6 hB6 hs8 hk8 => ?_
      refine tail (.slice (some ⟨b12, 0, none⟩) 1 1) (.inr ⟨by rw [if_neg (by omega)], rfl⟩) _ ?_ b6 w8 hb6 hB6 hk8
      intro v' w9 hk9 hP9 hX9 hO9
      refine st hP9 (by simp) (fin v' w9 hk9 hP9 hX9 hO9) fun w10 hP10 hs10 hk10 => ?_
      refine int64 (by omega) (by omega) ?_
      refine ⟨(k5 + 1, v'), by simp only; omega, rfl, ⟨rfl, rfl, rfl, trivial⟩, hlt, hk9.trans hk10 (fun y hy hl => by have := hk4.size; simp at hy; omega), hP10, hX9.kp hk10 (by simp; omega), ?_⟩
      exact hO9.flat (fun _ _ _ _ h => h) hk10 fun g hg => by have := (hO9.block g hg).1; simp; omega
    · refine ld (hP7.cl rfl).cell ?_
      refine fill [.slice none 0 0] rfl ?_
      refine new fun b6 w8 hb6 hB6 hs8 hk8 => ?_
      refine tail (.slice none 0 0) (.inl ⟨by rw [if_pos (by omega)], rfl⟩) _ ?_ b6 w8 hb6 hB6 hk8
      intro v' w9 hk9 hP9 hX9 hO9
      refine st hP9 (by simp) (fin v' w9 hk9 hP9 hX9 hO9) fun w10 hP10 hs10 hk10 => ?_
      refine int64 (by omega) (by omega) ?_
      refine ⟨(k5 + 1, v'), by simp only; omega, rfl, ⟨rfl, rfl, rfl, trivial⟩, hlt, hk9.trans hk10 (fun y hy hl => by have := hk4.size; simp at hy; omega), hP10, hX9.kp hk10 (by simp; omega), ?_⟩
      exact hO9.flat (fun _ _ _ _ h => h) hk10 fun g hg => by have := (hO9.block g hg).1; simp; omega
  have hke : (boxes c).take k5 = boxes c := List.take_of_length_le (by omega)
  rw [hke] at hO
  obtain ⟨ab, cb, rfl, hSl⟩ := hO.den (by omega)
  obtain ⟨D, hDe⟩ : ∃ D, D = addB (orM C (New (b5 + 1) w7)) b12 [.int .i64 22, .int .i64 0, .int .i64 0] := ⟨_, rfl⟩
  have hD : Sub D w7 := by rw [hDe]; exact addB_sub (orM_sub hS7 (New.sub _ _)) hX7
  have hbox1 : Sl rNd D (some ⟨b12, 0, none⟩) [Nd.box] := ⟨by simp, .inr ⟨b12, 0, rfl, fun i x hi => by
    match i with
    | 0 =>
      simp at hi
      subst hi
      exact ⟨_, ⟨rfl, by simp [I64, Nd.box]⟩, fun j v hj => by rw [hDe]; exact addB_r (by simpa [Nd.box] using hj)⟩
    | i + 1 => simp at hi⟩⟩
  have hbod : Sl (rSl rNd) D ab (boxes c) := by
    refine ⟨hSl.1, ?_⟩
    rcases hSl.2 with h0 | ⟨b, o, ha, hh⟩
    · exact .inl h0
    · refine .inr ⟨b, o, ha, fun i x hi => ?_⟩
      obtain ⟨cs', hden, hcells⟩ := hh i x hi
      refine ⟨cs', ?_, fun j v hj => by rw [hDe]; exact Or.inl (Or.inr (hcells j v hj))⟩
      rcases hden with ⟨rfl, rfl⟩ | ⟨rfl, rfl⟩
      · exact ⟨none, 0, rfl, Sl.nil _ _ _⟩
      · exact ⟨_, 1, rfl, hbox1⟩
  refine ldN [.slice ab (boxes c).length cb, .slice a1 c.shapes.length c1, .slice (some ⟨b12, 0, none⟩) 1 1, .int .i64 c.nat, .slice none 0 0] rfl (fun j v hj => by rw [Nat.zero_add]; exact hP7.cl hj) ?_
  refine ev_call (right15_ct hD (boxes c) c.shapes c.nat ab a1 (some ⟨b12, 0, none⟩) none cb c1 1 0 hbod (h1.mono fun b o v h => by rw [hDe]; exact Or.inl (Or.inl h)) hbox1 (fun b hb => ?_) (by omega) (by omega)) ?_
  · simp only [boxes, List.mem_map] at hb
    obtain ⟨y, _, rfl⟩ := hb
    split
    · exact .inl rfl
    · exact .inr rfl
  rintro e w8 ⟨nn, rfl, hnn, hk8⟩
  have hk18 := (hk13.tr hk7).tr hk8
  have hB8 := hB7.kp hk8 (by simp)
  have hS8 := hS7.tr hk8
  clear hO hSl hD hbox1 hbod hP7 hX7 hX6 hX hB5 hP
  refine br_dec (fun g7 => ?_) (fun g7 => ?_)
  · exact ret _ _ hk18 (by rw [e1, if_pos (by rw [← hnn, decide_eq_false g7])])
  have g7 : rightM (boxes c) c.shapes c.nat = true := by rw [← hnn]; simpa using g7
  rw [if_neg (by rw [g7]; simp)] at e1
  have hco := codOk_of hc0 g5 g7
  obtain ⟨hml, hfl, hbl'⟩ := size_mem hsz
  refine ldN [.int .i64 c.nat, .slice a1 c.shapes.length c1, .slice a2 c.funs.length c2, .slice a3 c.bodies.length c3, .slice a4 c.main.length c4] rfl (fun j v hj => by rw [Nat.zero_add]; exact hB8.cl hj) ?_
  refine ld (hB8.cl rfl).cell ?_
  refine ev_call (block20_ct hS8 hc0 hco c.main a4 c4 h4 (by omega) 0 (by omega)) ?_
  rintro e w9 ⟨rfl, hk9⟩
  have hk19 := hk18.tr hk9
  have hB9 := hB8.kp hk9 (by simp)
  have hS9 := hS8.tr hk9
  refine lp τok (σ := Nat × Bool × Int) (fun q => [(1, .pointer (some ⟨b1, 0, none⟩)), (6, .bool q.2.1), (7, .int .i64 q.2.2), (8, .int .i64 q.1)])
    (fun q w' => q.1 ≤ c.funs.length ∧ Kp [] w9 w' ∧ blocksM c = c.bodies.foldl (stepY c) ((c.funs.drop q.1).foldl (stepF c) q.2)) (fun q => c.funs.length - q.1) (0, (blockM c c.main 0).isSome, (blockM c c.main 0).getD 0) rfl
    ⟨rfl, rfl, rfl, rfl, trivial⟩ ⟨Nat.zero_le _, Kp.refl _ _, rfl⟩ ?_
  rintro ⟨k, ok, most⟩ w10 ⟨hk, hkp, hr⟩
  simp only at hk hr
  have hB10 := hB9.kp hkp (by simp)
  have hS10 := hS9.tr hkp
  refine ld (hB10.cl rfl).cell ?_
  refine br_dec (fun g8 => ?_) (fun g8 => ?_)
  · have hlt : k < c.funs.length := by omega
    obtain ⟨f, hf, hd⟩ := drop_get hlt
    rw [hd, List.foldl_cons] at hr
    have hfm := List.mem_of_getElem? hf
    have hcap := hco.caps f hfm
    obtain ⟨b, o, rfl, a', cap, hcode, _, hcp, hcc⟩ := sl_fn h2 hf
    refine drawQ τok (fun w' => Kp [] w10 w') (by kernel_rfl) ((Kp.refl [] w10).dr _) ?_
    refine ldNK [.int .i64 c.nat, .slice a1 c.shapes.length c1, .slice (some ⟨b, o, none⟩) c.funs.length c2, .slice a3 c.bodies.length c3, .slice a4 c.main.length c4] rfl (fun j v hj => by rw [Nat.zero_add]; exact hB10.cl hj) ?_
    refine ldK (hB10.cl rfl) ?_
    refine ix k rfl hlt ?_
    refine ldK (hS10 _ _ _ hcc) ?_
    refine ldK (hB10.cl rfl) ?_
    refine ix k rfl hlt ?_
    refine ldK (hS10 _ _ _ hcp) ?_
    refine int64 (by omega) (by omega) ?_
    refine callK (fun w' hk' => block20_ct (hS10.tr hk') hc0 hco f.code a' cap hcode (by have := hfl f hfm; omega) (f.caps + 1) (by omega)) ?_
    intro w11 hk11
    have hkp11 := hkp.tr hk11
    refine br (fun g9 => ?_) (fun g9 => ?_)
    · refine max64 ?_
      refine int64 (by omega) (by omega) ?_
      refine ⟨(k + 1, stepF c (ok, most) f), by simp only; omega, rfl, ⟨rfl, ?_, rfl, rfl, trivial⟩, hlt, hkp11, hr⟩
      have g9 : ok = true := g9
      show some _ = some _
      simp [stepF, stepB, g9]
    · refine max64 ?_
      refine int64 (by omega) (by omega) ?_
      refine ⟨(k + 1, stepF c (ok, most) f), by simp only; omega, rfl, ⟨rfl, ?_, rfl, rfl, trivial⟩, hlt, hkp11, hr⟩
      have g9 : ok = false := g9
      show some _ = some _
      simp [stepF, stepB, g9]
  rw [List.drop_eq_nil_of_le (by omega)] at hr
  have hr : blocksM c = c.bodies.foldl (stepY c) (ok, most) := hr
  refine lp τok (σ := Nat × Bool × Int) (fun q => [(1, .pointer (some ⟨b1, 0, none⟩)), (6, .bool q.2.1), (7, .int .i64 q.2.2), (11, .int .i64 q.1)])
    (fun q w' => q.1 ≤ c.bodies.length ∧ Kp [] w10 w' ∧ blocksM c = (c.bodies.drop q.1).foldl (stepY c) q.2) (fun q => c.bodies.length - q.1) (0, ok, most) rfl
    ⟨rfl, rfl, rfl, rfl, trivial⟩ ⟨Nat.zero_le _, Kp.refl _ _, hr⟩ ?_
  clear hr
  rintro ⟨k', ok', most'⟩ w11 ⟨hk', hkp', hr⟩
  simp only at hk' hr
  have hB11 := hB10.kp hkp' (by simp)
  have hS11 := hS10.tr hkp'
  refine ld (hB11.cl rfl).cell ?_
  refine br_dec (fun g9 => ?_) (fun g9 => ?_)
  · have hlt : k' < c.bodies.length := by omega
    obtain ⟨x, hx, hd⟩ := drop_get hlt
    rw [hd, List.foldl_cons] at hr
    have hxm := List.mem_of_getElem? hx
    obtain ⟨b, o, rfl, a', cap, hcell, hcode⟩ := h3.sl hx
    refine ld (hB11.cl rfl).cell ?_
    refine ix k' rfl hlt ?_
    refine ldC hS11 hcell ?_
    refine br_dec (fun g10 => ?_) (fun g10 => ?_)
    · have hst : stepY c (ok', most') x = stepB c (ok', most') x 0 := by unfold stepY; rw [if_pos (by omega)]
      rw [hst] at hr
      refine drawQ τok (fun w' => Kp [] w11 w') (by kernel_rfl) ((Kp.refl [] w11).dr _) ?_
      refine ldNK [.int .i64 c.nat, .slice a1 c.shapes.length c1, .slice a2 c.funs.length c2, .slice (some ⟨b, o, none⟩) c.bodies.length c3, .slice a4 c.main.length c4] rfl (fun j v hj => by rw [Nat.zero_add]; exact hB11.cl hj) ?_
      refine ldK (hB11.cl rfl) ?_
      refine ix k' rfl hlt ?_
      refine ldK (hS11 _ _ _ hcell) ?_
      refine callK (fun w' hk' => block20_ct (hS11.tr hk') hc0 hco x a' cap hcode (by have := hbl' x hxm; omega) 0 (by omega)) ?_
      intro w12 hk12
      have hkp12 := hkp'.tr hk12
      refine br (fun g11 => ?_) (fun g11 => ?_)
      · refine max64 ?_
        refine int64 (by omega) (by omega) ?_
        refine ⟨(k' + 1, stepB c (ok', most') x 0), by simp only; omega, rfl, ⟨rfl, ?_, rfl, rfl, trivial⟩, hlt, hkp12, hr⟩
        have g11 : ok' = true := g11
        show some _ = some _
        simp [stepB, g11]
      · refine max64 ?_
        refine int64 (by omega) (by omega) ?_
        refine ⟨(k' + 1, stepB c (ok', most') x 0), by simp only; omega, rfl, ⟨rfl, ?_, rfl, rfl, trivial⟩, hlt, hkp12, hr⟩
        have g11 : ok' = false := g11
        show some _ = some _
        simp [stepB, g11]
    · have hst : stepY c (ok', most') x = (ok', most') := by unfold stepY; rw [if_neg (by omega)]
      rw [hst] at hr
      refine int64 (by omega) (by omega) ?_
      exact ⟨(k' + 1, ok', most'), by simp only; omega, rfl, ⟨rfl, rfl, rfl, rfl, trivial⟩, hlt, hkp', hr⟩
  · rw [List.drop_eq_nil_of_le (by omega)] at hr
    have hr : blocksM c = (ok', most') := hr
    rw [hr] at e1
    simp only at e1
    have hk17 := (hk19.tr hkp).tr hkp'
    refine br (fun g9 => ?_) (fun g9 => ?_)
    · exact ret _ _ hk17 (by rw [e1, if_pos (by simpa using g9)])
    rw [if_neg (by simpa using g9)] at e1
    refine br_dec (fun g10 => ?_) (fun g10 => ?_)
    · exact ret _ _ hk17 (by rw [e1, if_pos g10])
    · exact ret _ _ hk17 (by rw [e1, if_neg g10])

theorem codeChecks_ct {C : Mem} {w : World} (hS : Sub C w) {cs : List Value} {c : Cod} (hc : rCod.den C cs c) :
    Calls Try.prog 3 #[.agg cs.toArray] w (fun e w' => e = .returned (.bool true) ∧ Kp [] w w') := by
  have hc0 := hc
  obtain ⟨a1, c1, a2, c2, a3, c3, a4, c4, rfl, h1, h2, h3, h4, h5⟩ := hc
  refine calls_of (args := [_]) 12 [.tmp 2] τok Try.func3 rfl rfl rfl (Nat.le_of_ble_eq_true rfl) ?_
  refine new fun b1 w1 hb1 hB1 hs1 hk1 => ?_
  have hB1 : Bk w1.heap b1 [.int .i64 c.nat, .slice a1 c.shapes.length c1, .slice a2 c.funs.length c2, .slice a3 c.bodies.length c3, .slice a4 c.main.length c4] 28 := hB1
  refine ev_call (awake_ct w1) ?_
  rintro e w2 ⟨rfl, hk2⟩
  have k02 := hk1.tr hk2
  have hB1 := hB1.kp hk2 (by simp)
  refine ldN [.int .i64 c.nat, .slice a1 c.shapes.length c1, .slice a2 c.funs.length c2, .slice a3 c.bodies.length c3, .slice a4 c.main.length c4] rfl (fun j v hj => by rw [Nat.zero_add]; exact hB1.cl hj) ?_
  refine ev_call (long_ct (hS.tr k02) hc0) ?_
  rintro e w3 ⟨b, rfl, hk3⟩
  have k03 := k02.tr hk3
  have hB1 := hB1.kp hk3 (by simp)
  refine br (fun g1 => ?_) (fun g1 => ?_)
  · exact ⟨rfl, k03⟩
  obtain ⟨E, hE⟩ : ∃ e, checkM c = e := ⟨_, rfl⟩
  refine drawQ τok (fun w' => Kp [] w3 w') (by kernel_rfl) ((Kp.refl [] w3).dr _) ?_
  refine ldNK [.int .i64 c.nat, .slice a1 c.shapes.length c1, .slice a2 c.funs.length c2, .slice a3 c.bodies.length c3, .slice a4 c.main.length c4] rfl (fun j v hj => by rw [Nat.zero_add]; exact hB1.cl hj) ?_
  refine callK (v := .int .i64 E) (fun w' hk' => by rw [← hE]; exact check_ct ((hS.tr k03).tr hk') hc0) ?_
  refine ldNK [.int .i64 c.nat, .slice a1 c.shapes.length c1, .slice a2 c.funs.length c2, .slice a3 c.bodies.length c3, .slice a4 c.main.length c4] rfl (fun j v hj => by rw [Nat.zero_add]; exact hB1.cl hj) ?_
  refine callK (v := .int .i64 E) (fun w' hk' => by rw [← hE]; exact check20_ct ((hS.tr k03).tr hk') hc0) ?_
  intro w4 hk4
  exact ⟨by simp [one], k03.tr hk4⟩
end Go.Proofs.Ytjogpbiilokldaa
