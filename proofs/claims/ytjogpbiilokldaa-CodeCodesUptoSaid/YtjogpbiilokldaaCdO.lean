/-
  Code: the writer's shape, and Encode.
-/
import Derived.Test.YtjogpbiilokldaaCdN
set_option linter.unusedSimpArgs false
set_option linter.unusedVariables false
namespace Go.Proofs.Ytjogpbiilokldaa
open Go.Wx Cd

theorem bits_small {k : List Bool} : ∀ x ∈ k.map bitI, 0 ≤ x := fun x hx => by
  obtain ⟨b, _, rfl⟩ := List.mem_map.1 hx
  unfold bitI
  split <;> omega

theorem wshape_ct {C : Mem} {w : World} (hS : Sub C w) {p : Nat} {l : List Nat} (h : Wr p l w) (hp : ∀ b o v, C b o v → b ≠ p) (s : Shp) (a : Option Addr) (cap : Nat) (hc : Sl (rSl rBool) C a s.kept) (hok : ShpOk s) (hll : (l ++ shpB s).length ≤ 549755813888) :
    CallOk Try.prog 31 ∧ Calls Try.prog 31 #[.pointer (some ⟨p, 0, none⟩), .agg #[.int .i64 s.params, .slice a s.kept.length cap]] w (fun e w' => e = .returned (.tuple #[]) ∧ Wr p (l ++ shpB s) w' ∧ Kp [p] w w') := by
  refine ⟨⟨_, Try.func31, rfl, by decide⟩, ?_⟩
  have hpl := h.lt
  refine calls_of (args := [_, _]) 42 [] τok Try.func31 rfl rfl rfl (Nat.le_of_ble_eq_true rfl) ?_
  have hkl := hok.kept
  have hpa := hok.params
  have hpre : ∀ k, k ≤ s.kept.length → (l ++ (numsB [s.params, (s.kept.length : Int)] ++ (s.kept.take k).flatMap keptB)).length ≤ 549755813888 := fun k hk => by
    have e : shpB s = numsB [s.params, (s.kept.length : Int)] ++ ((s.kept.take k).flatMap keptB ++ (s.kept.drop k).flatMap keptB) := by
      rw [← List.flatMap_append, List.take_append_drop]; rfl
    rw [e] at hll
    simp only [List.length_append] at hll ⊢
    omega
  refine new fun b0 w0 hb0 hB0 hs0 hk0 => ?_
  have hB0 : Bk w0.heap b0 [.int .i64 s.params, .slice a s.kept.length cap] 56 := hB0
  (repeat first | refine ldC ‹Sub _ _› (by assumption) ?_ | refine ld (Cl.cell (by first | assumption | exact Bk.cl (by assumption) rfl)) ?_ | refine ldK (by first | assumption | exact Bk.cl (by assumption) rfl | exact ‹Sub _ _› _ _ _ (by assumption)) ?_)
  refine fill [.int .i64 s.params, .int .i64 s.kept.length] rfl ?_
  refine new fun b1 w1 hb1 hB1 hs1 hk1 => ?_
  have hk01 := hk0.tr hk1
  refine ev_call (nums_ct (h.kp hk01) (New.sub b1 w1) [s.params, (s.kept.length : Int)] (some ⟨b1, 0, none⟩) 2 (ints_row hB1 (by simp [I64]; omega) (by simp)) (by simp; omega) (by have := hpre 0 (Nat.zero_le _); simpa using this)) ?_
  rintro e w2 ⟨rfl, hW2, hk2⟩
  have hk12 : Kp [p] w w2 := (hk01.weak (by simp)).trans hk2 (fun x hx _ => hx)
  have hB2 := (hB0.kp hk1 (by simp)).kp hk2 (by simp; omega)
  refine ld (hB2.cl rfl).cell ?_
  refine lp τok (σ := Nat) (fun k => [(0, .pointer (some ⟨p, 0, none⟩)), (18, .slice a s.kept.length cap), (19, .int .i64 s.kept.length), (20, .int .i64 k)])
    (fun k w' => k ≤ s.kept.length ∧ Wr p (l ++ (numsB [s.params, (s.kept.length : Int)] ++ (s.kept.take k).flatMap keptB)) w' ∧ Kp [p] w w') (fun k => s.kept.length - k) 0 rfl ⟨rfl, rfl, rfl, rfl, trivial⟩ ⟨Nat.zero_le _, by simpa using hW2, hk12⟩ ?_
  rintro k w3 ⟨hk, hW, hkp⟩
  refine br_dec (fun h1 => ?_) (fun h1 => ?_)
  · have hlt : k < s.kept.length := by omega
    obtain ⟨y, hy, hd⟩ := drop_get hlt
    have hyl := hok.each y (List.mem_of_getElem? hy)
    have htake : (s.kept.take (k + 1)).flatMap keptB = (s.kept.take k).flatMap keptB ++ keptB y := by rw [take_get hy]; simp
    have hS3 := sub_p hS hkp hp
    obtain ⟨b, o, rfl, ay, cy, hcell, hsl⟩ := hc.sl hy
    have hpre1 := hpre (k + 1) hlt
    rw [htake, keptB] at hpre1
    refine ix k rfl hlt ?_
    (repeat first | refine ldC ‹Sub _ _› (by assumption) ?_ | refine ld (Cl.cell (by first | assumption | exact Bk.cl (by assumption) rfl)) ?_ | refine ldK (by first | assumption | exact Bk.cl (by assumption) rfl | exact ‹Sub _ _› _ _ _ (by assumption)) ?_)
    refine fill [.int .i64 y.length] rfl ?_
    refine new fun b4 w4 hb4 hB4 hs4 hk4 => ?_
    refine ev_call (nums_ct (hW.kp hk4) (New.sub b4 w4) [(y.length : Int)] (some ⟨b4, 0, none⟩) 1 (ints_row hB4 (by simp [I64]; omega) (by simp)) (by simp) (by simp only [List.length_append] at hpre1 ⊢; omega)) ?_
    rintro e w5 ⟨rfl, hW5, hk5⟩
    have hk35 : Kp [p] w3 w5 := (hk4.weak (by simp)).trans hk5 (fun x hx _ => hx)
    have hk05 : Kp [p] w w5 := hkp.trans hk35 (fun x hx _ => hx)
    refine lp τok (σ := Nat) (fun j => [(0, .pointer (some ⟨p, 0, none⟩)), (18, .slice (some ⟨b, o, none⟩) s.kept.length cap), (19, .int .i64 s.kept.length), (20, .int .i64 k), (29, .slice ay y.length cy), (30, .int .i64 y.length), (31, .int .i64 j)])
      (fun j w' => j ≤ y.length ∧ Wr p (l ++ (numsB [s.params, (s.kept.length : Int)] ++ (s.kept.take k).flatMap keptB) ++ (numsB [(y.length : Int)] ++ numsB ((y.take j).map bitI))) w' ∧ Kp [p] w w') (fun j => y.length - j) 0 rfl ⟨rfl, rfl, rfl, rfl, rfl, rfl, rfl, trivial⟩
      ⟨Nat.zero_le _, by simpa [numsB, List.append_assoc] using hW5, hk05⟩ ?_
    rintro j w8 ⟨hj, hW8, hkp8⟩
    refine br_dec (fun h2 => ?_) (fun h2 => ?_)
    · have hltj : j < y.length := by omega
      obtain ⟨x, hx, hdx⟩ := drop_get hltj
      have htakej : numsB ((y.take (j + 1)).map bitI) = numsB ((y.take j).map bitI) ++ numsB [bitI x] := by rw [take_get hx]; simp [numsB]
      have hpre2 : (l ++ (numsB [s.params, (s.kept.length : Int)] ++ (s.kept.take k).flatMap keptB) ++ (numsB [(y.length : Int)] ++ (numsB ((y.take j).map bitI) ++ numsB [bitI x]))).length ≤ 549755813888 := by
        have e : numsB (y.map bitI) = numsB ((y.take (j + 1)).map bitI) ++ numsB ((y.drop (j + 1)).map bitI) := by
          unfold numsB
          rw [← List.flatMap_append, ← List.map_append, List.take_append_drop]
        rw [e, htakej] at hpre1
        simp only [List.length_append] at hpre1 ⊢
        omega
      have hS8 := sub_p hS hkp8 hp
      obtain ⟨b', o', rfl, hcell'⟩ := hsl.bool hx
      refine ix j rfl hltj ?_
      (repeat first | refine ldC ‹Sub _ _› (by assumption) ?_ | refine ld (Cl.cell (by first | assumption | exact Bk.cl (by assumption) rfl)) ?_ | refine ldK (by first | assumption | exact Bk.cl (by assumption) rfl | exact ‹Sub _ _› _ _ _ (by assumption)) ?_)
      refine br (fun hb => ?_) (fun hb => ?_)
      · have hbit1 : bitI x = 1 := by have : x = true := hb
                                      rw [this]; rfl
        refine fill [.int .i64 1] rfl ?_
        refine new fun b9 w9 hb9 hB9 hs9 hk9 => ?_
        refine ev_call (nums_ct (hW8.kp hk9) (New.sub b9 w9) [1] (some ⟨b9, 0, none⟩) 1 (ints_row hB9 (by simp [I64]) (by simp)) (by simp) (by rw [hbit1] at hpre2; simp only [List.length_append] at hpre2 ⊢; omega)) ?_
        rintro e w10 ⟨rfl, hW10, hk10⟩
        have hk710 : Kp [p] w8 w10 := (hk9.weak (by simp)).trans hk10 (fun x hx _ => hx)
        refine int64 (by omega) (by omega) ?_
        refine ⟨j + 1, by omega, rfl, ⟨rfl, rfl, rfl, rfl, rfl, rfl, rfl, trivial⟩, hltj, ?_, hkp8.trans hk710 (fun x hx _ => hx)⟩
        rw [htakej, hbit1]
        simpa [List.append_assoc] using hW10
      · have hbit0 : bitI x = 0 := by have : x = false := hb
                                      rw [this]; rfl
        refine fill [.int .i64 0] rfl ?_
        refine new fun b9 w9 hb9 hB9 hs9 hk9 => ?_
        refine ev_call (nums_ct (hW8.kp hk9) (New.sub b9 w9) [0] (some ⟨b9, 0, none⟩) 1 (ints_row hB9 (by simp [I64]) (by simp)) (by simp) (by rw [hbit0] at hpre2; simp only [List.length_append] at hpre2 ⊢; omega)) ?_
        rintro e w10 ⟨rfl, hW10, hk10⟩
        have hk710 : Kp [p] w8 w10 := (hk9.weak (by simp)).trans hk10 (fun x hx _ => hx)
        refine int64 (by omega) (by omega) ?_
        refine ⟨j + 1, by omega, rfl, ⟨rfl, rfl, rfl, rfl, rfl, rfl, rfl, trivial⟩, hltj, ?_, hkp8.trans hk710 (fun x hx _ => hx)⟩
        rw [htakej, hbit0]
        simpa [List.append_assoc] using hW10
    · rw [List.take_of_length_le (l := y) (by omega)] at hW8
      refine int64 (by omega) (by omega) ?_
      refine ⟨k + 1, by omega, rfl, ⟨rfl, rfl, rfl, rfl, trivial⟩, hlt, ?_, hkp8⟩
      rw [htake]
      simpa [keptB, List.append_assoc] using hW8
  · rw [List.take_of_length_le (by omega)] at hW
    exact ⟨rfl, hW, hkp⟩

/-- what Encode answers -/
def EncPost (c : Cod) (w : World) (e : Ending) (w' : World) : Prop :=
  Kp [] w w' ∧ if checkM c ≠ 0 then e = .returned (.tuple #[.slice none 0 0, .int .i64 (checkM c)])
    else if 65536 < (codB c).length then e = .returned (.tuple #[.slice none 0 0, .int .i64 6])
    else ∃ a cap, e = .returned (.tuple #[.slice a (codB c).length cap, .int .i64 0]) ∧ Sl rU8 (New w.heap.size w') a (codB c) ∧ (codB c).length ≤ cap

theorem encode_ct {C : Mem} {w : World} (hS : Sub C w) {cs : List Value} {c : Cod} (hc : rCod.den C cs c) :
    CallOk Try.prog 13 ∧ Calls Try.prog 13 #[.agg cs.toArray] w (EncPost c w) := by
  have hc0 := hc
  obtain ⟨a1, c1, a2, c2, a3, c3, a4, c4, rfl, h1, h2, h3, h4, h5⟩ := hc
  refine ⟨⟨_, Try.func13, rfl, by decide⟩, ?_⟩
  refine calls_of (args := [_]) 93 [.tmp 2, .tmp 3] τok Try.func13 rfl rfl rfl (Nat.le_of_ble_eq_true rfl) ?_
  refine new fun b1 w1 hb1 hB1 hs1 hk1 => ?_
  have hB1 : Bk w1.heap b1 [.int .i64 c.nat, .slice a1 c.shapes.length c1, .slice a2 c.funs.length c2, .slice a3 c.bodies.length c3, .slice a4 c.main.length c4] 28 := hB1
  refine ldN [.int .i64 c.nat, .slice a1 c.shapes.length c1, .slice a2 c.funs.length c2, .slice a3 c.bodies.length c3, .slice a4 c.main.length c4] rfl (fun j v hj => by rw [Nat.zero_add]; exact hB1.cl hj) ?_
  refine ev_call (check_ct (hS.tr hk1) hc0) ?_
  rintro e w2 ⟨rfl, hk2⟩
  have hk12 := hk1.tr hk2
  refine br_dec (fun g1 => ?_) (fun g1 => ?_)
  · refine ⟨hk12, ?_⟩
    rw [if_pos g1]
    rfl
  have hfine : Fine c := fine_of (by simpa using g1)
  have hcl := codB_le hfine
  have sm := hfine.small
  obtain ⟨hml, hfl, hbl⟩ := size_mem hfine.size
  have hna := hfine.nat
  have hsh := sm.shapes
  have hfu := sm.funs
  have hbo := sm.bodies
  have hB2 := hB1.kp hk2 (by simp)
  refine new fun p w3 hpb hP hs3 hk3 => ?_
  have hW3 : Wr p [] w3 := ⟨none, 0, hP, Sl.nil _ _ _, Nat.le_refl _⟩
  have hB3 := hB2.kp hk3 (by simp)
  have hk13 := hk12.tr hk3
  have hsz := hk12.size
  have hpC : ∀ b o v, C b o v → b ≠ p := fun b o v hc => by have := hS.lt b o v hc; omega
  have hpb1 : b1 ≠ p := by have := hk2.size; omega
  have hpre : ∀ q r, codB c = q ++ r → q.length ≤ 549755813888 := fun q r e => by rw [e, List.length_append] at hcl; omega
  (repeat first | refine ldC ‹Sub _ _› (by assumption) ?_ | refine ld (Cl.cell (by first | assumption | exact Bk.cl (by assumption) rfl)) ?_ | refine ldK (by first | assumption | exact Bk.cl (by assumption) rfl | exact ‹Sub _ _› _ _ _ (by assumption)) ?_)
  refine int64 (by omega) (by omega) ?_
  (repeat first | refine ldC ‹Sub _ _› (by assumption) ?_ | refine ld (Cl.cell (by first | assumption | exact Bk.cl (by assumption) rfl)) ?_ | refine ldK (by first | assumption | exact Bk.cl (by assumption) rfl | exact ‹Sub _ _› _ _ _ (by assumption)) ?_)
  refine fill [.int .i64 (c.nat + 1), .int .i64 c.shapes.length] rfl ?_
  refine new fun b4 w4 hb4 hB4 hs4 hk4 => ?_
  refine ev_call (nums_ct (hW3.kp hk4) (New.sub b4 w4) [c.nat + 1, (c.shapes.length : Int)] (some ⟨b4, 0, none⟩) 2 (ints_row hB4 (by simp [I64]; omega) (by simp)) (by simp; omega) (hpre _ (c.shapes.flatMap shpB ++ numsB [(c.funs.length : Int)] ++ c.funs.flatMap fnB ++ numsB [(c.bodies.length : Int)] ++ c.bodies.flatMap blockB ++ blockB c.main) (by simp [codB]))) ?_
  rintro e w5 ⟨rfl, hW5, hk5⟩
  have hk35 : Kp [p] w3 w5 := (hk4.weak (by simp)).trans hk5 (fun x hx _ => hx)
  have hB5 := hB3.kp hk35 (by simpa using hpb1)
  have ownp : ∀ w', Kp [p] w3 w' → Kp [] w w' := fun w' hk => hk13.trans hk (fun x hx hl => by simp at hx; omega)
  refine ld (hB5.cl rfl).cell ?_
  refine lp τok (σ := Nat) (fun k => [(1, .pointer (some ⟨b1, 0, none⟩)), (5, .pointer (some ⟨p, 0, none⟩)), (29, .slice a1 c.shapes.length c1), (30, .int .i64 c.shapes.length), (31, .int .i64 k)])
    (fun k w' => k ≤ c.shapes.length ∧ Wr p (numsB [c.nat + 1, (c.shapes.length : Int)] ++ (c.shapes.take k).flatMap shpB) w' ∧ Kp [p] w3 w') (fun k => c.shapes.length - k) 0 rfl ⟨rfl, rfl, rfl, rfl, rfl, trivial⟩ ⟨Nat.zero_le _, by simpa using hW5, hk35⟩ ?_
  rintro k w6 ⟨hk, hW6, hkp6⟩
  have hS6 := hS.tr (ownp _ hkp6)
  have hB6 := hB3.kp hkp6 (by simpa using hpb1)
  refine br_dec (fun g2 => ?_) (fun g2 => ?_)
  · have hlt : k < c.shapes.length := by omega
    obtain ⟨s, hs, hd⟩ := drop_get hlt
    have htake : (c.shapes.take (k + 1)).flatMap shpB = (c.shapes.take k).flatMap shpB ++ shpB s := by rw [take_get hs]; simp
    obtain ⟨b, o, rfl, ak, ck, hkept, _, hcp, hck⟩ := sl_shp h1 hs
    refine ix k rfl hlt ?_
    refine ldN [.int .i64 s.params, .slice ak s.kept.length ck] rfl (fun j v hj => ?_) ?_
    · match j with
      | 0 => simp at hj; subst hj; exact hS6 _ _ _ hcp
      | 1 => simp at hj; subst hj; exact hS6 _ _ _ hck
      | j + 2 => simp at hj
    refine new fun b7 w7 hb7 hB7 hs7 hk7 => ?_
    refine stN hB7 rfl (by simp [Value.oneCell']) fun w8 hB8 hs8 hk8 => ?_
    have hk68 : Kp [] w6 w8 := hk7.newSt hb7 hk8
    refine ldN [.int .i64 s.params, .slice ak s.kept.length ck] rfl (fun j v hj => by rw [Nat.zero_add]; exact hB8.cl hj) ?_
    refine ev_call (wshape_ct (hS6.tr hk68) (hW6.kp hk68) hpC s ak ck hkept (sm.shp s (List.mem_of_getElem? hs)) ?_) ?_
    · refine hpre _ ((c.shapes.drop (k + 1)).flatMap shpB ++ numsB [(c.funs.length : Int)] ++ c.funs.flatMap fnB ++ numsB [(c.bodies.length : Int)] ++ c.bodies.flatMap blockB ++ blockB c.main) ?_
      have e : c.shapes.flatMap shpB = (c.shapes.take k).flatMap shpB ++ shpB s ++ (c.shapes.drop (k + 1)).flatMap shpB := by
        rw [← htake, ← List.flatMap_append, List.take_append_drop]
      rw [codB, e]
      simp [List.append_assoc]
    rintro e w9 ⟨rfl, hW9, hk9⟩
    refine int64 (by omega) (by omega) ?_
    refine ⟨k + 1, by omega, rfl, ⟨rfl, rfl, rfl, rfl, rfl, trivial⟩, hlt, ?_, (hkp6.tr hk68).trans hk9 (fun x hx _ => hx)⟩
    rw [htake, ← List.append_assoc]
    exact hW9
  rw [List.take_of_length_le (by omega)] at hW6
  refine ld (hB6.cl rfl).cell ?_
  refine fill [.int .i64 c.funs.length] rfl ?_
  refine new fun b7 w7 hb7 hB7 hs7 hk7 => ?_
  refine ev_call (nums_ct (hW6.kp hk7) (New.sub b7 w7) [(c.funs.length : Int)] (some ⟨b7, 0, none⟩) 1 (ints_row hB7 (by simp [I64]; omega) (by simp)) (by simp) (hpre _ (c.funs.flatMap fnB ++ numsB [(c.bodies.length : Int)] ++ c.bodies.flatMap blockB ++ blockB c.main) (by simp [codB]))) ?_
  rintro e w8 ⟨rfl, hW8, hk8⟩
  have hkp8 : Kp [p] w3 w8 := (hkp6.tr hk7).trans hk8 (fun x hx _ => hx)
  have hB8 := hB3.kp hkp8 (by simpa using hpb1)
  clear hW5 hW6 hk5 hk8 hB6 hB5 hk35 hk
  refine ld (hB8.cl rfl).cell ?_
  refine lp τok (σ := Nat) (fun k => [(1, .pointer (some ⟨b1, 0, none⟩)), (5, .pointer (some ⟨p, 0, none⟩)), (46, .slice a2 c.funs.length c2), (47, .int .i64 c.funs.length), (48, .int .i64 k)])
    (fun k w' => k ≤ c.funs.length ∧ Wr p (numsB [c.nat + 1, (c.shapes.length : Int)] ++ c.shapes.flatMap shpB ++ numsB [(c.funs.length : Int)] ++ (c.funs.take k).flatMap fnB) w' ∧ Kp [p] w3 w') (fun k => c.funs.length - k) 0 rfl ⟨rfl, rfl, rfl, rfl, rfl, trivial⟩ ⟨Nat.zero_le _, by simpa using hW8, hkp8⟩ ?_
  rintro k w9 ⟨hk, hW9, hkp9⟩
  have hS9 := hS.tr (ownp _ hkp9)
  have hB9 := hB3.kp hkp9 (by simpa using hpb1)
  refine br_dec (fun g3 => ?_) (fun g3 => ?_)
  · have hlt : k < c.funs.length := by omega
    obtain ⟨f, hf, hd⟩ := drop_get hlt
    have hfm := List.mem_of_getElem? hf
    have hcap := sm.caps f hfm
    have htake : (c.funs.take (k + 1)).flatMap fnB = (c.funs.take k).flatMap fnB ++ fnB f := by rw [take_get hf]; simp
    have hpr : (numsB [c.nat + 1, (c.shapes.length : Int)] ++ c.shapes.flatMap shpB ++ numsB [(c.funs.length : Int)] ++ (c.funs.take k).flatMap fnB ++ (numsB [f.caps] ++ blockB f.code)).length ≤ 549755813888 := by
      refine hpre _ ((c.funs.drop (k + 1)).flatMap fnB ++ numsB [(c.bodies.length : Int)] ++ c.bodies.flatMap blockB ++ blockB c.main) ?_
      have e : c.funs.flatMap fnB = (c.funs.take k).flatMap fnB ++ (numsB [f.caps] ++ blockB f.code) ++ (c.funs.drop (k + 1)).flatMap fnB := by
        have : numsB [f.caps] ++ blockB f.code = fnB f := rfl
        rw [this, ← htake, ← List.flatMap_append, List.take_append_drop]
      rw [codB, e]
      simp [List.append_assoc]
    obtain ⟨b, o, rfl, af, cf, hcode, _, hcp, hcc⟩ := sl_fn h2 hf
    refine ix k rfl hlt ?_
    refine ldN [.int .i64 f.caps, .slice af f.code.length cf] rfl (fun j v hj => ?_) ?_
    · match j with
      | 0 => simp at hj; subst hj; exact hS9 _ _ _ hcp
      | 1 => simp at hj; subst hj; exact hS9 _ _ _ hcc
      | j + 2 => simp at hj
    refine new fun b10 w10 hb10 hB10 hs10 hk10 => ?_
    refine stN hB10 rfl (by simp [Value.oneCell']) fun w11 hB11 hs11 hk11 => ?_
    have hk911 : Kp [] w9 w11 := hk10.newSt hb10 hk11
    refine ld (hB11.cl rfl).cell ?_
    refine fill [.int .i64 f.caps] rfl ?_
    refine new fun b12 w12 hb12 hB12 hs12 hk12' => ?_
    have hplt := hW9.lt
    refine ev_call (nums_ct ((hW9.kp hk911).kp hk12') (New.sub b12 w12) [f.caps] (some ⟨b12, 0, none⟩) 1 (ints_row hB12 (by simp [I64]; omega) (by simp)) (by simp; omega) (by simp only [List.length_append] at hpr ⊢; omega)) ?_
    rintro e w13 ⟨rfl, hW13, hk13'⟩
    have hB13 := (hB11.kp hk12' (by simp)).kp hk13' (by simp; omega)
    have hkp13 : Kp [p] w3 w13 := ((hkp9.tr hk911).tr hk12').trans hk13' (fun x hx _ => hx)
    refine ld (hB13.cl rfl).cell ?_
    refine ev_call (wblock_ct (hS.tr (ownp _ hkp13)) hW13 hpC f.code af cf hcode (hfine.funs f hfm) (hfl f hfm) (by simp only [List.length_append] at hpr ⊢; omega)) ?_
    rintro e w14 ⟨rfl, hW14, hk14⟩
    refine int64 (by omega) (by omega) ?_
    refine ⟨k + 1, by omega, rfl, ⟨rfl, rfl, rfl, rfl, rfl, trivial⟩, hlt, ?_, hkp13.trans hk14 (fun x hx _ => hx)⟩
    rw [htake, fnB]
    simpa [List.append_assoc] using hW14
  rw [List.take_of_length_le (by omega)] at hW9
  refine ld (hB9.cl rfl).cell ?_
  refine fill [.int .i64 c.bodies.length] rfl ?_
  refine new fun b10 w10 hb10 hB10 hs10 hk10 => ?_
  refine ev_call (nums_ct (hW9.kp hk10) (New.sub b10 w10) [(c.bodies.length : Int)] (some ⟨b10, 0, none⟩) 1 (ints_row hB10 (by simp [I64]; omega) (by simp)) (by simp) (hpre _ (c.bodies.flatMap blockB ++ blockB c.main) (by simp [codB]))) ?_
  rintro e w11 ⟨rfl, hW11, hk11⟩
  have hkp11 : Kp [p] w3 w11 := (hkp9.tr hk10).trans hk11 (fun x hx _ => hx)
  have hB11 := hB3.kp hkp11 (by simpa using hpb1)
  clear hW8 hW9 hk11 hB9 hB8 hk
  refine ld (hB11.cl rfl).cell ?_
  refine lp τok (σ := Nat) (fun k => [(1, .pointer (some ⟨b1, 0, none⟩)), (5, .pointer (some ⟨p, 0, none⟩)), (69, .slice a3 c.bodies.length c3), (70, .int .i64 c.bodies.length), (71, .int .i64 k)])
    (fun k w' => k ≤ c.bodies.length ∧ Wr p (numsB [c.nat + 1, (c.shapes.length : Int)] ++ c.shapes.flatMap shpB ++ numsB [(c.funs.length : Int)] ++ c.funs.flatMap fnB ++ numsB [(c.bodies.length : Int)] ++ (c.bodies.take k).flatMap blockB) w' ∧ Kp [p] w3 w') (fun k => c.bodies.length - k) 0 rfl ⟨rfl, rfl, rfl, rfl, rfl, trivial⟩ ⟨Nat.zero_le _, by simpa using hW11, hkp11⟩ ?_
  rintro k w12 ⟨hk, hW12, hkp12⟩
  have hS12 := hS.tr (ownp _ hkp12)
  have hB12 := hB3.kp hkp12 (by simpa using hpb1)
  refine br_dec (fun g4 => ?_) (fun g4 => ?_)
  · have hlt : k < c.bodies.length := by omega
    obtain ⟨x, hx, hd⟩ := drop_get hlt
    have hxm := List.mem_of_getElem? hx
    have htake : (c.bodies.take (k + 1)).flatMap blockB = (c.bodies.take k).flatMap blockB ++ blockB x := by rw [take_get hx]; simp
    obtain ⟨b, o, rfl, ax, cx, hcell, hcode⟩ := h3.sl hx
    refine ix k rfl hlt ?_
    (repeat first | refine ldC ‹Sub _ _› (by assumption) ?_ | refine ld (Cl.cell (by first | assumption | exact Bk.cl (by assumption) rfl)) ?_ | refine ldK (by first | assumption | exact Bk.cl (by assumption) rfl | exact ‹Sub _ _› _ _ _ (by assumption)) ?_)
    refine ev_call (wblock_ct hS12 hW12 hpC x ax cx hcode (hfine.bodies x hxm) (hbl x hxm) ?_) ?_
    · refine hpre _ ((c.bodies.drop (k + 1)).flatMap blockB ++ blockB c.main) ?_
      have e : c.bodies.flatMap blockB = (c.bodies.take k).flatMap blockB ++ blockB x ++ (c.bodies.drop (k + 1)).flatMap blockB := by
        rw [← htake, ← List.flatMap_append, List.take_append_drop]
      rw [codB, e]
      simp [List.append_assoc]
    rintro e w13 ⟨rfl, hW13, hk13'⟩
    refine int64 (by omega) (by omega) ?_
    refine ⟨k + 1, by omega, rfl, ⟨rfl, rfl, rfl, rfl, rfl, trivial⟩, hlt, ?_, hkp12.trans hk13' (fun x hx _ => hx)⟩
    rw [htake]
    simpa [List.append_assoc] using hW13
  rw [List.take_of_length_le (by omega)] at hW12
  refine ld (hB12.cl rfl).cell ?_
  refine ev_call (wblock_ct hS12 hW12 hpC c.main a4 c4 h4 hfine.main hml (hpre _ [] (by simp [codB]))) ?_
  rintro e w13 ⟨rfl, hW13, hk13'⟩
  have hkp13 : Kp [p] w3 w13 := hkp12.trans hk13' (fun x hx _ => hx)
  have hW13 : Wr p (codB c) w13 := hW13
  obtain ⟨a, cap, hP13, hSl, hcap⟩ := hW13
  refine ld (hP13.cl rfl).cell ?_
  have hc00 : ¬ checkM c ≠ 0 := g1
  refine br_dec (fun g5 => ?_) (fun g5 => ?_)
  · refine ⟨ownp _ hkp13, ?_⟩
    rw [if_neg hc00, if_pos (by omega)]
    rfl
  · refine ld (hP13.cl rfl).cell ?_
    refine ⟨ownp _ hkp13, ?_⟩
    rw [if_neg hc00, if_neg (by omega)]
    exact ⟨a, cap, rfl, hSl.mono fun b o u hu => ⟨by have := hu.1; omega, hu.2⟩, hcap⟩
end Go.Proofs.Ytjogpbiilokldaa
