/-
  Code: the reference's Bytes and Encode.
-/
import Derived.Test.YtjogpbiilokldaaCdZn
set_option linter.unusedSimpArgs false
set_option linter.unusedVariables false
namespace Cd
theorem pre_l {X Y T : List Nat} (h : X ++ Y <+: T) : X <+: T := (List.prefix_append X Y).trans h
theorem pre_take {α : Type} {base T : List Nat} {l : List α} {f : α → List Nat} (h : base ++ l.flatMap f <+: T) (k : Nat) : base ++ (l.take k).flatMap f <+: T := by
  have e : l.flatMap f = (l.take k).flatMap f ++ (l.drop k).flatMap f := by rw [← List.flatMap_append, List.take_append_drop]
  rw [e, ← List.append_assoc] at h
  exact pre_l h
theorem pre_next {α : Type} {base T : List Nat} {l : List α} {f : α → List Nat} (h : base ++ l.flatMap f <+: T) {k : Nat} {x : α} (hx : l[k]? = some x) : base ++ (l.take k).flatMap f ++ f x <+: T := by
  have := pre_take h (k + 1)
  rw [Go.Wx.take_get hx] at this
  simpa [List.append_assoc] using this
theorem fm_next {α : Type} {base : List Nat} {l : List α} {f : α → List Nat} {k : Nat} {x : α} (hx : l[k]? = some x) : base ++ (l.take k).flatMap f ++ f x = base ++ (l.take (k + 1)).flatMap f := by
  rw [Go.Wx.take_get hx]
  simp [List.append_assoc]
end Cd

namespace Go.Proofs.Ytjogpbiilokldaa
open Go.Wx Cd

/-- a row of bytes of one's own since w1, apart from the cells C -/
structure Ow (C : Mem) (w1 w : World) (v : Value) (l : List Nat) : Prop where
  own : Own rU8 5 w1.heap.size w v l
  kp : Kp [] w1 w
  sub : Sub C w
  ap : ∀ b o u, C b o u → v.ownBlock ≠ some b
theorem Ow.dr {C : Mem} {w1 w : World} {v : Value} {l : List Nat} (h : Ow C w1 w v l) (m : Nat) : Ow C w1 { w with drawn := m } v l := ⟨h.own.kp ((Kp.refl _ _).dr _), h.kp.dr _, h.sub.dr _, h.ap⟩
theorem Ow.gw {C : Mem} {w1 w w' : World} {v v' : Value} {l l' : List Nat} (h : Ow C w1 w v l) (hO : Own rU8 5 w1.heap.size w' v' l') (g : Gw w v w' v') : Ow C w1 w' v' l' := by
  refine ⟨hO, h.kp.own g.kp h.own, h.sub.kp g.kp fun b o u hu hm => h.ap b o u hu (by simpa using hm), fun b o u hu e => ?_⟩
  rcases g.blk b e with e' | e'
  · exact h.ap b o u hu e'
  · have := h.sub.lt b o u hu
    omega

theorem numO_ct {C : Mem} {w1 w : World} {v : Value} {l T : List Nat} (h : Ow C w1 w v l) (n : Int) (h0 : 0 ≤ n) (hn : n < 9223372036854775808) (hl : l <+: T) (hT : T.length ≤ 549755813888) :
    CallOk Try.prog 58 ∧ Calls Try.prog 58 #[v, .int .i64 n] w (fun e w' => ∃ v', e = .returned v' ∧ Ow C w1 w' v' (l ++ formM n.toNat)) := by
  obtain ⟨h1, h2⟩ := num20_ct h.own n h0 hn (by have := hl.length_le; omega)
  refine ⟨h1, h2.mono ?_⟩
  rintro e w' ⟨v', rfl, hO, hg⟩
  exact ⟨v', rfl, h.gw hO hg⟩

set_option maxRecDepth 20000 in
theorem bytes20_ct {C : Mem} {w : World} (hS : Sub C w) {cs : List Value} {c : Cod} (hc : rCod.den C cs c) (hfine : Fine c) :
    CallOk Try.prog 33 ∧ Calls Try.prog 33 #[.agg cs.toArray] w (fun e w' => ∃ v, e = .returned v ∧ Own rU8 5 w.heap.size w' v (codB c) ∧ Kp [] w w') := by
  obtain ⟨a1, c1, a2, c2, a3, c3, a4, c4, rfl, h1, h2, h3, h4, h5⟩ := hc
  have hcl := codB_le hfine
  have sm := hfine.small
  obtain ⟨hml, hfl, hbl⟩ := size_mem hfine.size
  have hna := hfine.nat
  have hsh := sm.shapes
  have hfu := sm.funs
  have hbo := sm.bodies
  obtain ⟨T, hT⟩ : ∃ T, T = codB c := ⟨_, rfl⟩
  rw [← hT] at hcl ⊢
  refine ⟨⟨_, Try.func33, rfl, by decide⟩, ?_⟩
  refine calls_of (args := [_]) 125 [.tmp 2] τok Try.func33 rfl rfl rfl (Nat.le_of_ble_eq_true rfl) ?_
  refine new fun b1 w1 hb1 hB1 hs1 hk1 => ?_
  have hB1 : Bk w1.heap b1 [.int .i64 c.nat, .slice a1 c.shapes.length c1, .slice a2 c.funs.length c2, .slice a3 c.bodies.length c3, .slice a4 c.main.length c4] 28 := hB1
  obtain ⟨C1, hC1⟩ : ∃ C1, C1 = addB C b1 [.int .i64 c.nat, .slice a1 c.shapes.length c1, .slice a2 c.funs.length c2, .slice a3 c.bodies.length c3, .slice a4 c.main.length c4] := ⟨_, rfl⟩
  have hC : Sub C1 w1 := by rw [hC1]; exact addB_sub (hS.tr hk1) hB1
  have hmono : ∀ b o v, C b o v → C1 b o v := by rw [hC1]; exact addB_l
  have hcb : ∀ j v, [Value.int .i64 c.nat, .slice a1 c.shapes.length c1, .slice a2 c.funs.length c2, .slice a3 c.bodies.length c3, .slice a4 c.main.length c4][j]? = some v → C1 b1 (0 + j) v := fun j v hj => by rw [hC1, Nat.zero_add]; exact addB_r hj
  have hlo : ∀ b o u, C1 b o u → b < w1.heap.size := hC.lt
  have h1 := h1.mono hmono
  have h2 := h2.mono hmono
  have h3 := h3.mono hmono
  have h4 := h4.mono hmono
  clear hC1 hS hB1
  have hTe : T = numsB [c.nat + 1, c.shapes.length] ++ c.shapes.flatMap shpB ++ numsB [(c.funs.length : Int)] ++ c.funs.flatMap fnB ++ numsB [(c.bodies.length : Int)] ++ c.bodies.flatMap blockB ++ blockB c.main := hT
  have p6 : numsB [c.nat + 1, c.shapes.length] ++ c.shapes.flatMap shpB ++ numsB [(c.funs.length : Int)] ++ c.funs.flatMap fnB ++ numsB [(c.bodies.length : Int)] ++ c.bodies.flatMap blockB <+: T := pre_l (by rw [← hTe]; exact List.prefix_refl _)
  have p5 := pre_l p6
  have p4 := pre_l p5
  have p3 := pre_l p4
  have p2 := pre_l p3
  have p1 := pre_l p2
  clear hT
  have hO0 : Ow C1 w1 { w1 with drawn := w1.drawn + 1 } (.slice none 0 0) [] := ⟨Own.nil _ _ (Nat.le_refl _), (Kp.refl _ _).dr _, hC.dr _, fun b o u _ e => by cases e⟩
  refine drawG τok (fun u => Sub C1 u) ?_
  refine readsG τok [0, 1, 2, 4, 5, 6] 3 #[true, true, true, false, true, true, true, false, false] rfl rfl (by kernel_rfl) (by kernel_rfl) (by kernel_rfl) hO0.sub ?_
  refine ldQ (fun u hu => hu _ _ _ (hcb 0 _ rfl)) ?_
  refine int64 (by omega) (by omega) ?_
  refine ldQ (fun u hu => hu _ _ _ (hcb 1 _ rfl)) ?_
  refine nextG τok 3 2 #[true, true, true, true, true, true, true, false, false] rfl rfl rfl (by kernel_rfl) ?_
  refine ev_call (numO_ct (T := T) hO0 (c.nat + 1) (by omega) (by omega) (List.nil_prefix) hcl) ?_
  rintro e w2 ⟨v2, rfl, hO2⟩
  refine ⟨.inl hO2.sub, ?_⟩
  refine nextG τok 7 1 #[true, true, true, true, true, true, true, true, false] rfl rfl rfl (by kernel_rfl) ?_
  refine ev_call (numO_ct hO2 c.shapes.length (by omega) (by omega) (pre_l (Y := formM (c.shapes.length : Int).toNat) (by simpa [numsB] using p1)) hcl) ?_
  rintro e w3 ⟨v3, rfl, hO3⟩
  refine ⟨.inl hO3.sub, ?_⟩
  refine nextG τok 8 0 #[true, true, true, true, true, true, true, true, true] rfl rfl rfl (by kernel_rfl) ?_
  refine ⟨.inl hO3.sub, ?_⟩
  refine doneG (by kernel_rfl) ?_
  have hO3 : Ow C1 w1 w3 v3 (numsB [c.nat + 1, (c.shapes.length : Int)]) := by simpa [numsB] using hO3
  obtain ⟨X1, hX1⟩ : ∃ X, X = numsB [c.nat + 1, (c.shapes.length : Int)] := ⟨_, rfl⟩
  rw [← hX1] at p2 p1 hO3
  refine lp τok (σ := Nat × Value) (fun q => [(1, .pointer (some ⟨b1, 0, none⟩)), (3, q.2), (4, .int .i64 q.1)])
    (fun q w' => q.1 ≤ c.shapes.length ∧ Ow C1 w1 w' q.2 (X1 ++ (c.shapes.take q.1).flatMap shpB)) (fun q => c.shapes.length - q.1) (0, v3) rfl ⟨rfl, rfl, rfl, trivial⟩ ⟨Nat.zero_le _, by simpa using hO3⟩ ?_
  rintro ⟨k, v⟩ w4 ⟨hk, hO⟩
  simp only at hk hO
  refine ldC hO.sub (hcb 1 _ rfl) ?_
  refine br_dec (fun g1 => ?_) (fun g1 => ?_)
  · have hlt : k < c.shapes.length := by omega
    obtain ⟨s, hs, hd⟩ := drop_get hlt
    have hsok := sm.shp s (List.mem_of_getElem? hs)
    have hs1 := hsok.params
    have pk := pre_next p2 hs
    rw [shpB, ← List.append_assoc] at pk
    obtain ⟨Z, hZ⟩ : ∃ Z, Z = X1 ++ (c.shapes.take k).flatMap shpB := ⟨_, rfl⟩
    have hZn : Z ++ shpB s = X1 ++ (c.shapes.take (k + 1)).flatMap shpB := by rw [hZ]; exact fm_next hs
    rw [← hZ] at hO pk
    have pk1 := pre_l pk
    obtain ⟨b, o, ha1, ak, ck, hkept, _, hcp, hck⟩ := sl_shp h1 hs
    subst ha1
    have hkl := hkept.1
    refine ldC hO.sub (hcb 1 _ rfl) ?_
    refine ix k rfl hlt ?_
    refine ldN [.int .i64 s.params, .slice ak s.kept.length ck] rfl (fun j v hj => ?_) ?_
    · match j with
      | 0 => simp at hj; subst hj; exact hO.sub _ _ _ hcp
      | 1 => simp at hj; subst hj; exact hO.sub _ _ _ hck
      | j + 2 => simp at hj
    refine new fun b5 w5 hb5 hB5 hs5 hk5 => ?_
    refine stN (vs := [.int .i64 s.params, .slice ak s.kept.length ck]) hB5 rfl (by simp [Value.oneCell']) fun w6 hB5 hs6 hk6 => ?_
    have hk46 : Kp [] w4 w6 := hk5.newSt hb5 hk6
    obtain ⟨C2, hC2⟩ : ∃ C2, C2 = addB C1 b5 [.int .i64 s.params, .slice ak s.kept.length ck] := ⟨_, rfl⟩
    have hm2 : ∀ b o v, C1 b o v → C2 b o v := by rw [hC2]; exact addB_l
    have hsb : ∀ j v, [Value.int .i64 s.params, .slice ak s.kept.length ck][j]? = some v → C2 b5 (0 + j) v := fun j v hj => by rw [hC2, Nat.zero_add]; exact addB_r hj
    have hO6 : Ow C2 w1 w6 v Z := by
      refine ⟨hO.own.kp hk46, hO.kp.tr hk46, by rw [hC2]; exact addB_sub (hO.sub.tr hk46) hB5, ?_⟩
      rw [hC2]
      rintro b o u (hu | ⟨rfl, _⟩) e
      · exact hO.ap b o u hu e
      · have := (hO.own.block _ e).2
        omega
    have hkept := hkept.mono hm2
    clear hC2
    refine drawG τok (fun u => Sub C2 u) ?_
    refine readsG τok [0, 1, 2, 4, 5, 6] 3 #[true, true, true, false, true, true, true, false, false] rfl rfl (by kernel_rfl) (by kernel_rfl) (by kernel_rfl) (hO6.sub.dr _) ?_
    refine ldQ (fun u hu => hu _ _ _ (hsb 0 _ rfl)) ?_
    refine ldQ (fun u hu => hu _ _ _ (hsb 1 _ rfl)) ?_
    refine nextG τok 3 2 #[true, true, true, true, true, true, true, false, false] rfl rfl rfl (by kernel_rfl) ?_
    refine ev_call (numO_ct (hO6.dr _) s.params (by omega) (by omega) (pre_l pk1) hcl) ?_
    rintro e w7 ⟨v7, rfl, hO7⟩
    refine ⟨.inl hO7.sub, ?_⟩
    refine nextG τok 7 1 #[true, true, true, true, true, true, true, true, false] rfl rfl rfl (by kernel_rfl) ?_
    refine ev_call (numO_ct hO7 s.kept.length (by omega) (by omega) (pre_l (Y := formM (s.kept.length : Int).toNat) (by simpa [numsB] using pk1)) hcl) ?_
    rintro e w8 ⟨v8, rfl, hO8⟩
    refine ⟨.inl hO8.sub, ?_⟩
    refine nextG τok 8 0 #[true, true, true, true, true, true, true, true, true] rfl rfl rfl (by kernel_rfl) ?_
    refine ⟨.inl hO8.sub, ?_⟩
    refine doneG (by kernel_rfl) ?_
    have hO8 : Ow C2 w1 w8 v8 (Z ++ numsB [s.params, (s.kept.length : Int)]) := by simpa [numsB] using hO8
    obtain ⟨Z1, hZ1⟩ : ∃ X, X = Z ++ numsB [s.params, (s.kept.length : Int)] := ⟨_, rfl⟩
    rw [← hZ1] at pk hO8
    have hZs : Z1 ++ s.kept.flatMap keptB = Z ++ shpB s := by rw [hZ1, shpB, List.append_assoc]
    refine lp τok (σ := Nat × Value) (fun q => [(1, .pointer (some ⟨b1, 0, none⟩)), (3, q.2), (4, .int .i64 k), (5, .pointer (some ⟨b5, 0, none⟩)), (6, .int .i64 q.1)])
      (fun q w' => q.1 ≤ s.kept.length ∧ Ow C2 w1 w' q.2 (Z1 ++ (s.kept.take q.1).flatMap keptB)) (fun q => s.kept.length - q.1) (0, v8) rfl ⟨rfl, rfl, rfl, rfl, rfl, trivial⟩ ⟨Nat.zero_le _, by simpa using hO8⟩ ?_
    rintro ⟨m, v9⟩ w9 ⟨hm, hO9⟩
    simp only at hm hO9
    refine ldC hO9.sub (hsb 1 _ rfl) ?_
    refine br_dec (fun g2 => ?_) (fun g2 => ?_)
    · have hltm : m < s.kept.length := by omega
      obtain ⟨y, hy, hdy⟩ := drop_get hltm
      have pm := pre_next pk hy
      rw [keptB, ← List.append_assoc] at pm
      obtain ⟨Y, hY⟩ : ∃ Y, Y = Z1 ++ (s.kept.take m).flatMap keptB := ⟨_, rfl⟩
      have hYn : Y ++ keptB y = Z1 ++ (s.kept.take (m + 1)).flatMap keptB := by rw [hY]; exact fm_next hy
      rw [← hY] at hO9 pm
      obtain ⟨by', oy, rfl, ay, cy, hcy, hsy⟩ := hkept.sl hy
      have hyl := hsy.1
      refine ldC hO9.sub (hsb 1 _ rfl) ?_
      refine ix m rfl hltm ?_
      refine ldC hO9.sub hcy ?_
      refine ev_call (numO_ct hO9 y.length (by omega) (by omega) (pre_l (pre_l pm)) hcl) ?_
      rintro e w10 ⟨v10, rfl, hO10⟩
      have hO10 : Ow C2 w1 w10 v10 (Y ++ numsB [(y.length : Int)]) := by simpa [numsB] using hO10
      obtain ⟨Y1, hY1⟩ : ∃ X, X = Y ++ numsB [(y.length : Int)] := ⟨_, rfl⟩
      rw [← hY1] at pm hO10
      have e2 : numsB (y.map bitI) = y.flatMap fun b => formM (bitI b).toNat := by simp [numsB, List.flatMap_map]
      rw [e2] at pm
      have hYs : Y1 ++ (y.flatMap fun b => formM (bitI b).toNat) = Y ++ keptB y := by rw [hY1, keptB, List.append_assoc, e2]
      refine lp τok (σ := Nat × Value) (fun q => [(1, .pointer (some ⟨b1, 0, none⟩)), (3, q.2), (4, .int .i64 k), (5, .pointer (some ⟨b5, 0, none⟩)), (6, .int .i64 m), (7, .int .i64 q.1)])
        (fun q w' => q.1 ≤ y.length ∧ Ow C2 w1 w' q.2 (Y1 ++ (y.take q.1).flatMap fun b => formM (bitI b).toNat)) (fun q => y.length - q.1) (0, v10) rfl ⟨rfl, rfl, rfl, rfl, rfl, rfl, trivial⟩ ⟨Nat.zero_le _, by simpa using hO10⟩ ?_
      rintro ⟨i, v11⟩ w11 ⟨hi, hO11⟩
      simp only at hi hO11
      refine ldC hO11.sub (hsb 1 _ rfl) ?_
      refine ix m rfl hltm ?_
      refine ldC hO11.sub hcy ?_
      refine br_dec (fun g3 => ?_) (fun g3 => ?_)
      · have hlti : i < y.length := by omega
        obtain ⟨z, hz, hdz⟩ := drop_get hlti
        obtain ⟨bz, oz, rfl, hcz⟩ := hsy.bool hz
        have pz := pre_l (pre_next pm hz)
        refine ldC hO11.sub (hsb 1 _ rfl) ?_
        refine ix m rfl hltm ?_
        refine ldC hO11.sub hcy ?_
        refine ix i rfl hlti ?_
        refine ldC hO11.sub hcz ?_
        refine br (fun g4 => ?_) (fun g4 => ?_)
        · refine ev_call (numO_ct hO11 1 (by omega) (by omega) pz hcl) ?_
          rintro e w12 ⟨v12, rfl, hO12⟩
          refine int64 (by omega) (by omega) ?_
          refine ⟨(i + 1, v12), by simp only; omega, rfl, ⟨rfl, rfl, rfl, rfl, rfl, rfl, trivial⟩, hlti, ?_⟩
          rw [← fm_next hz, show z = true from g4]
          exact hO12
        · refine ev_call (numO_ct hO11 0 (by omega) (by omega) pz hcl) ?_
          rintro e w12 ⟨v12, rfl, hO12⟩
          refine int64 (by omega) (by omega) ?_
          refine ⟨(i + 1, v12), by simp only; omega, rfl, ⟨rfl, rfl, rfl, rfl, rfl, rfl, trivial⟩, hlti, ?_⟩
          rw [← fm_next hz, show z = false from g4]
          exact hO12
      · rw [List.take_of_length_le (by omega), hYs, hYn] at hO11
        refine int64 (by omega) (by omega) ?_
        exact ⟨(m + 1, v11), by simp only; omega, rfl, ⟨rfl, rfl, rfl, rfl, rfl, trivial⟩, hltm, hO11⟩
    · rw [List.take_of_length_le (by omega), hZs, hZn] at hO9
      refine int64 (by omega) (by omega) ?_
      exact ⟨(k + 1, v9), by simp only; omega, rfl, ⟨rfl, rfl, rfl, trivial⟩, hlt, hO9.own, hO9.kp, fun b o u hu => hO9.sub _ _ _ (hm2 _ _ _ hu), fun b o u hu => hO9.ap b o u (hm2 _ _ _ hu)⟩
  rw [List.take_of_length_le (by omega)] at hO
  rw [← hX1] at p3
  refine ldC hO.sub (hcb 2 _ rfl) ?_
  refine ev_call (numO_ct hO c.funs.length (by omega) (by omega) (pre_l p3) hcl) ?_
  rintro e w5 ⟨v5, rfl, hO5⟩
  have hO5 : Ow C1 w1 w5 v5 (X1 ++ c.shapes.flatMap shpB ++ numsB [(c.funs.length : Int)]) := by simpa [numsB] using hO5
  rw [← hX1] at p4
  obtain ⟨X2, hX2⟩ : ∃ X, X = X1 ++ c.shapes.flatMap shpB ++ numsB [(c.funs.length : Int)] := ⟨_, rfl⟩
  rw [← hX2] at p4 hO5
  clear hO p3 p2 p1 hk g1
  refine lp τok (σ := Nat × Value) (fun q => [(1, .pointer (some ⟨b1, 0, none⟩)), (3, q.2), (8, .int .i64 q.1)])
    (fun q w' => q.1 ≤ c.funs.length ∧ Ow C1 w1 w' q.2 (X2 ++ (c.funs.take q.1).flatMap fnB)) (fun q => c.funs.length - q.1) (0, v5) rfl ⟨rfl, rfl, rfl, trivial⟩ ⟨Nat.zero_le _, by simpa using hO5⟩ ?_
  rintro ⟨k, v⟩ w6 ⟨hk, hO⟩
  simp only at hk hO
  refine ldC hO.sub (hcb 2 _ rfl) ?_
  refine br_dec (fun g1 => ?_) (fun g1 => ?_)
  · have hlt : k < c.funs.length := by omega
    obtain ⟨f, hf, hd⟩ := drop_get hlt
    have hfm := List.mem_of_getElem? hf
    have hcap := sm.caps f hfm
    have pk := pre_next p4 hf
    rw [fnB, ← List.append_assoc] at pk
    obtain ⟨Z, hZ⟩ : ∃ Z, Z = X2 ++ (c.funs.take k).flatMap fnB := ⟨_, rfl⟩
    have hZn : Z ++ fnB f = X2 ++ (c.funs.take (k + 1)).flatMap fnB := by rw [hZ]; exact fm_next hf
    rw [← hZ] at hO pk
    obtain ⟨b, o, ha2, a', cap, hcode, _, hcp, hcc⟩ := sl_fn h2 hf
    subst ha2
    refine drawG τok (fun u => Sub C1 u) ?_
    refine readsG τok [0, 1, 2, 3, 4, 5, 6, 8, 9, 10, 11, 12, 13] 3 #[true, true, true, true, true, true, true, false, true, true, true, true, true, true, false, false] rfl rfl (by kernel_rfl) (by kernel_rfl) (by kernel_rfl) (hO.sub.dr _) ?_
    refine ldQ (fun u hu => hu _ _ _ (hcb 2 _ rfl)) ?_
    refine ix k rfl hlt ?_
    refine ldQ (fun u hu => hu _ _ _ hcp) ?_
    refine ldQ (fun u hu => hu _ _ _ (hcb 2 _ rfl)) ?_
    refine ix k rfl hlt ?_
    refine ldQ (fun u hu => hu _ _ _ hcc) ?_
    refine nextG τok 7 2 #[true, true, true, true, true, true, true, true, true, true, true, true, true, true, false, false] rfl rfl rfl (by kernel_rfl) ?_
    refine ev_call (numO_ct (hO.dr _) f.caps (by omega) (by omega) (pre_l (pre_l pk)) hcl) ?_
    rintro e w7 ⟨v7, rfl, hO7⟩
    have hO7 : Ow C1 w1 w7 v7 (Z ++ numsB [f.caps]) := by simpa [numsB] using hO7
    refine ⟨.inl hO7.sub, ?_⟩
    refine nextG τok 14 1 #[true, true, true, true, true, true, true, true, true, true, true, true, true, true, true, false] rfl rfl rfl (by kernel_rfl) ?_
    refine ev_call (putBlock_ct hO7.sub hlo hO7.own f.code a' cap hcode (fun n hn => hfine.funs f hfm n hn) (hfl f hfm) (by have := pk.length_le; omega)) ?_
    rintro e w8 ⟨v8, rfl, hO8, hg8⟩
    have hO8 := hO7.gw hO8 hg8
    refine ⟨.inl hO8.sub, ?_⟩
    refine nextG τok 15 0 #[true, true, true, true, true, true, true, true, true, true, true, true, true, true, true, true] rfl rfl rfl (by kernel_rfl) ?_
    refine ⟨.inl hO8.sub, ?_⟩
    refine doneG (by kernel_rfl) ?_
    refine int64 (by omega) (by omega) ?_
    refine ⟨(k + 1, v8), by simp only; omega, rfl, ⟨rfl, rfl, rfl, trivial⟩, hlt, ?_⟩
    rw [← hZn, fnB, ← List.append_assoc]
    exact hO8
  rw [List.take_of_length_le (by omega)] at hO
  rw [← hX1, ← hX2] at p5
  refine ldC hO.sub (hcb 3 _ rfl) ?_
  refine ev_call (numO_ct hO c.bodies.length (by omega) (by omega) (pre_l p5) hcl) ?_
  rintro e w7 ⟨v7, rfl, hO7⟩
  have hO7 : Ow C1 w1 w7 v7 (X2 ++ c.funs.flatMap fnB ++ numsB [(c.bodies.length : Int)]) := by simpa [numsB] using hO7
  rw [← hX1, ← hX2] at p6
  obtain ⟨X3, hX3⟩ : ∃ X, X = X2 ++ c.funs.flatMap fnB ++ numsB [(c.bodies.length : Int)] := ⟨_, rfl⟩
  rw [← hX3] at p6 hO7
  have hTe : T = X3 ++ c.bodies.flatMap blockB ++ blockB c.main := by rw [hX3, hX2, hX1]; exact hTe
  clear hO p4 p5 hk g1
  refine lp τok (σ := Nat × Value) (fun q => [(1, .pointer (some ⟨b1, 0, none⟩)), (3, q.2), (9, .int .i64 q.1)])
    (fun q w' => q.1 ≤ c.bodies.length ∧ Ow C1 w1 w' q.2 (X3 ++ (c.bodies.take q.1).flatMap blockB)) (fun q => c.bodies.length - q.1) (0, v7) rfl ⟨rfl, rfl, rfl, trivial⟩ ⟨Nat.zero_le _, by simpa using hO7⟩ ?_
  rintro ⟨k, v⟩ w8 ⟨hk, hO⟩
  simp only at hk hO
  refine ldC hO.sub (hcb 3 _ rfl) ?_
  refine br_dec (fun g1 => ?_) (fun g1 => ?_)
  · have hlt : k < c.bodies.length := by omega
    obtain ⟨x, hx, hd⟩ := drop_get hlt
    have hxm := List.mem_of_getElem? hx
    have pk := pre_next p6 hx
    have hZn := fm_next (base := X3) (f := blockB) hx
    obtain ⟨b, o, ha3, a', cap, hcell, hcode⟩ := h3.sl hx
    subst ha3
    refine ldC hO.sub (hcb 3 _ rfl) ?_
    refine ix k rfl hlt ?_
    refine ldC hO.sub hcell ?_
    refine ev_call (putBlock_ct hO.sub hlo hO.own x a' cap hcode (fun n hn => hfine.bodies x hxm n hn) (hbl x hxm) (by have := pk.length_le; omega)) ?_
    rintro e w9 ⟨v9, rfl, hO9, hg9⟩
    refine int64 (by omega) (by omega) ?_
    refine ⟨(k + 1, v9), by simp only; omega, rfl, ⟨rfl, rfl, rfl, trivial⟩, hlt, ?_⟩
    rw [← hZn]
    exact hO.gw hO9 hg9
  rw [List.take_of_length_le (by omega)] at hO
  refine ldC hO.sub (hcb 4 _ rfl) ?_
  refine ev_call (putBlock_ct hO.sub hlo hO.own c.main a4 c4 h4 hfine.main hml (by rw [← hTe]; exact hcl)) ?_
  rintro e w9 ⟨v9, rfl, hO9, hg9⟩
  have hO9 := hO.gw hO9 hg9
  rw [← hTe] at hO9
  exact ⟨v9, rfl, hO9.own.low' (by omega), hk1.tr hO9.kp⟩

theorem encode20_ct {C : Mem} {w : World} (hS : Sub C w) {cs : List Value} {c : Cod} (hc : rCod.den C cs c) :
    CallOk Try.prog 14 ∧ Calls Try.prog 14 #[.agg cs.toArray] w (EncPost c w) := by
  have hc0 := hc
  obtain ⟨a1, c1, a2, c2, a3, c3, a4, c4, rfl, h1, h2, h3, h4, h5⟩ := hc
  refine ⟨⟨_, Try.func14, rfl, by decide⟩, ?_⟩
  refine calls_of (args := [_]) 17 [.tmp 2, .tmp 3] τok Try.func14 rfl rfl rfl (Nat.le_of_ble_eq_true rfl) ?_
  refine new fun b1 w1 hb1 hB1 hs1 hk1 => ?_
  have hB1 : Bk w1.heap b1 [.int .i64 c.nat, .slice a1 c.shapes.length c1, .slice a2 c.funs.length c2, .slice a3 c.bodies.length c3, .slice a4 c.main.length c4] 28 := hB1
  refine ldN [.int .i64 c.nat, .slice a1 c.shapes.length c1, .slice a2 c.funs.length c2, .slice a3 c.bodies.length c3, .slice a4 c.main.length c4] rfl (fun j v hj => by rw [Nat.zero_add]; exact hB1.cl hj) ?_
  refine ev_call (check20_ct (hS.tr hk1) hc0) ?_
  rintro e w2 ⟨rfl, hk2⟩
  have hk12 := hk1.tr hk2
  refine br_dec (fun g1 => ?_) (fun g1 => ?_)
  · refine ⟨hk12, ?_⟩
    rw [if_pos g1]
    rfl
  have g1 : checkM c = 0 := by simpa using g1
  have hfine : Fine c := fine_of g1
  have hcl := codB_le hfine
  have hB2 := hB1.kp hk2 (by simp)
  refine ldN [.int .i64 c.nat, .slice a1 c.shapes.length c1, .slice a2 c.funs.length c2, .slice a3 c.bodies.length c3, .slice a4 c.main.length c4] rfl (fun j v hj => by rw [Nat.zero_add]; exact hB2.cl hj) ?_
  refine ev_call (bytes20_ct (hS.tr hk12) hc0 hfine) ?_
  rintro e w3 ⟨v, rfl, hO, hk3⟩
  have hk13 := hk12.tr hk3
  obtain ⟨a, cap, rfl, hcap⟩ := hO.cap
  obtain ⟨a', cap', e', hSl⟩ := hO.den (by omega)
  cases e'
  have hz := hk12.size
  refine br_dec (fun g2 => ?_) (fun g2 => ?_)
  · refine ⟨hk13, ?_⟩
    rw [if_neg (by simpa using g1), if_pos (by omega)]
    rfl
  · refine ⟨hk13, ?_⟩
    rw [if_neg (by simpa using g1), if_neg (by omega)]
    exact ⟨a, cap, rfl, hSl.mono (New.up hz (Kp.refl _ _)), hcap⟩
end Go.Proofs.Ytjogpbiilokldaa
