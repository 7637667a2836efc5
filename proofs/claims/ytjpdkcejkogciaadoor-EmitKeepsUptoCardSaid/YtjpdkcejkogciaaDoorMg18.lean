/-
  Own texts put together: EmJ, R15E.
-/
import Derived.Test.YtjpdkcejkogciaaDoorMg17
/-
  Package emit: Make.
-/
set_option linter.unusedSimpArgs false
set_option linter.unusedVariables false
namespace Cd
open Go Go.Wx
theorem ffn_drop {p : Flt} {k : Nat} {x : Ffn} (hx : p.funs[k]? = some x) : x ∈ p.funs := List.mem_of_getElem? hx
theorem take_map_get {α β : Type} {l : List α} {g : α → β} {k : Nat} {x : α} (h : l[k]? = some x) : (l.map g).take (k + 1) = (l.map g).take k ++ [g x] := take_get (by rw [List.getElem?_map, h]; rfl)
def sumL (l : List Nat) (k : Nat) : Nat := (l.take k).sum
theorem sumL_step {l : List Nat} {k x : Nat} (h : l[k]? = some x) : sumL l (k + 1) = sumL l k + x := by
  unfold sumL
  rw [take_get h]
  simp
theorem sumL_le (l : List Nat) (k : Nat) : sumL l k ≤ l.sum := by
  unfold sumL
  have : l.sum = (l.take k).sum + (l.drop k).sum := by rw [← List.sum_append, List.take_append_drop]
  omega
end Cd
namespace Go.Proofs.YtjpdkcejkogciaaDoor
open Go.Wx Cd

/-- what lies ready while code is made -/
structure MkB (C : Mem) (w : World) (cf cg : List Value) (u : World) : Prop where
  k : Kp [] w u
  f : Bk u.heap w.heap.size cf 27
  g : Bk u.heap (w.heap.size + 1) cg 33
  z : Bk u.heap (w.heap.size + 2) [.int .i64 0, .slice none 0 0, .slice none 0 0, .slice none 0 0, .slice none 0 0] 41
  sub : Sub C u
  low : ∀ b o v, C b o v → b < w.heap.size
theorem MkB.kp {C : Mem} {w u u' : World} {cf cg : List Value} {X : List Nat} (h : MkB C w cf cg u) (k : Kp X u u') (hX : ∀ x ∈ X, w.heap.size + 3 ≤ x) : MkB C w cf cg u' :=
  ⟨h.k.trans k fun x hx hl => by have := hX x hx; omega, h.f.kp k fun hx => by have := hX _ hx; omega, h.g.kp k fun hx => by have := hX _ hx; omega, h.z.kp k fun hx => by have := hX _ hx; omega,
    h.sub.kp k fun b o v hc hx => by have := h.low b o v hc; have := hX _ hx; omega, h.low⟩
theorem MkB.tr {C : Mem} {w u u' : World} {cf cg : List Value} (h : MkB C w cf cg u) (k : Kp [] u u') : MkB C w cf cg u' := h.kp k (by simp)
/-- the code being made -/
def MkC (u : World) (b : Nat) (n : Int) (v1 v2 v3 v4 : Value) : Prop := Bk u.heap b [.int .i64 n, v1, v2, v3, v4] 41

section
variable {p : Flt} {q : Brd} {C : Mem} {w : World}
set_option maxHeartbeats 4000000 in
theorem make_ct (hS : Sub C w) (hT : Tab C) {cf cg : List Value} (hp : rFlt.den C cf p) (hq : rBrd.den C cg q) (hw : weightF p < 5000) :
    CallOk Tryd.prog 9 ∧ Calls Tryd.prog 9 #[.agg cf.toArray, .agg cg.toArray] w (fun e w' => ∃ cs, e = .returned (.tuple #[.agg cs.toArray, .int .i64 (makeM p q).2]) ∧ rCod.den (New w.heap.size w') cs (makeM p q).1 ∧ Kp [] w w') := by
  refine ⟨⟨_, Tryd.func9, rfl, by decide⟩, ?_⟩
  have hp0 := hp
  have hq0 := hq
  obtain ⟨a1, c1, a2, c2, a3, c3, hcf, h1, h2, h3, h4⟩ := hp
  obtain ⟨d1, e1, d2, e2, d3, e3, d4, e4, hcg, g1', g2, g3, g4, g5, g6, g7⟩ := hq
  subst hcf hcg
  obtain ⟨RES, hRES⟩ : ∃ r, makeM p q = r := ⟨_, rfl⟩
  rw [hRES]
  unfold makeM at hRES
  have hl1 := h1.1
  have hl2 := h2.1
  have hl3 := h3.1
  have gl1 := g1'.1
  have gl2 := g2.1
  refine calls_of (args := [_, _]) 167 [.cell 4 41, .tmp 5] τok Tryd.func9 rfl rfl rfl (Nat.le_of_ble_eq_true rfl) ?_
  refine new fun b2 w1 hb2 hB2 hs1 hk1 => ?_
  refine new fun b3 w2 hb3 hB3 hs2 hk2 => ?_
  refine new fun b4 w3 hb4 hB4 hs3 hk3 => ?_
  obtain rfl : b2 = w.heap.size := hb2
  obtain rfl : b3 = w.heap.size + 1 := by omega
  obtain rfl : b4 = w.heap.size + 2 := by omega
  obtain ⟨cf, hcf⟩ : ∃ cs, [Value.slice a1 p.funs.length c1, .slice a2 p.bodies.length c2, .slice a3 p.main.length c3] = cs := ⟨_, rfl⟩
  obtain ⟨cg, hcg⟩ : ∃ cs, [Value.slice d1 q.bodies.length e1, .slice d2 q.shapes.length e2, .slice d3 q.main.length e3, .int .i64 q.nat, .slice d4 q.prims.length e4] = cs := ⟨_, rfl⟩
  have hk13 : Kp [] w w3 := (hk1.tr hk2).tr hk3
  have hM : MkB C w cf cg w3 := by
    subst hcf hcg
    exact ⟨hk13, (hB2.kp hk2 (by simp)).kp hk3 (by simp), hB3.kp hk3 (by simp), hB4, hS.tr hk13, hS.lt⟩
  clear hk1 hk2 hk3 hB2 hB3 hB4 hs1 hs2 hs3 hk13
  rw [hcf] at hp0
  rw [hcg] at hq0
  refine ldN cf (by rw [← hcf]; rfl) (fun j v hj => by rw [Nat.zero_add]; exact hM.f.cl hj) ?_
  refine ev_call (fright_ct hM.sub hp0) ?_
  rintro e w4 ⟨rfl, hk⟩
  have hM := hM.tr hk
  clear hk
  refine br_dec (fun r1 => ?_) (fun r1 => ?_)
  · rw [if_pos r1] at hRES
    refine stN (vs := [.int .i64 0, .slice none 0 0, .slice none 0 0, .slice none 0 0, .slice none 0 0]) hM.z rfl (by simp [Value.oneCell']) fun wz hBz hsz hkz => ?_
    refine resN τok rfl [.int .i64 0, .slice none 0 0, .slice none 0 0, .slice none 0 0, .slice none 0 0] rfl (fun j v hj => hBz.cl hj) ?_
    have hkz : Kp [] w wz := hM.k.trans hkz fun x hx hl => by simp at hx; omega
    rw [← hRES]
    exact ⟨_, rfl, codZ_den _, hkz⟩
  rw [if_neg r1] at hRES
  have r1 : rightF p = 0 := by omega
  have hF := fok_of r1
  refine ldN cg (by rw [← hcg]; rfl) (fun j v hj => by rw [Nat.zero_add]; exact hM.g.cl hj) ?_
  refine ev_call (rightB_ct hM.sub hq0) ?_
  rintro e w5 ⟨rfl, hk⟩
  have hM := hM.tr hk
  clear hk
  refine br_dec (fun r2 => ?_) (fun r2 => ?_)
  · rw [if_pos r2] at hRES
    refine stN (vs := [.int .i64 0, .slice none 0 0, .slice none 0 0, .slice none 0 0, .slice none 0 0]) hM.z rfl (by simp [Value.oneCell']) fun wz hBz hsz hkz => ?_
    refine resN τok rfl [.int .i64 0, .slice none 0 0, .slice none 0 0, .slice none 0 0, .slice none 0 0] rfl (fun j v hj => hBz.cl hj) ?_
    have hkz : Kp [] w wz := hM.k.trans hkz fun x hx hl => by simp at hx; omega
    rw [← hRES]
    exact ⟨_, rfl, codZ_den _, hkz⟩
  rw [if_neg r2] at hRES
  subst hcf hcg
  refine ld (hM.f.cl rfl).cell ?_
  refine ld (hM.g.cl rfl).cell ?_
  refine br_dec (fun r3 => ?_) (fun r3 => ?_)
  · rw [if_pos (by omega)] at hRES
    refine stN (vs := [.int .i64 0, .slice none 0 0, .slice none 0 0, .slice none 0 0, .slice none 0 0]) hM.z rfl (by simp [Value.oneCell']) fun wz hBz hsz hkz => ?_
    refine resN τok rfl [.int .i64 0, .slice none 0 0, .slice none 0 0, .slice none 0 0, .slice none 0 0] rfl (fun j v hj => hBz.cl hj) ?_
    have hkz : Kp [] w wz := hM.k.trans hkz fun x hx hl => by simp at hx; omega
    rw [← hRES]
    exact ⟨_, rfl, codZ_den _, hkz⟩
  have r3 : p.bodies.length = q.bodies.length := by omega
  rw [if_neg (by omega)] at hRES
  refine ld (hM.f.cl rfl).cell ?_
  refine lp τok (σ := Nat) (fun k => [(2, .pointer (some ⟨w.heap.size, 0, none⟩)), (3, .pointer (some ⟨w.heap.size + 1, 0, none⟩)), (4, .pointer (some ⟨w.heap.size + 2, 0, none⟩)), (44, .int .i64 p.bodies.length), (45, .int .i64 k)])
    (fun k u => k ≤ p.bodies.length ∧ MkB C w [.slice a1 p.funs.length c1, .slice a2 p.bodies.length c2, .slice a3 p.main.length c3] [.slice d1 q.bodies.length e1, .slice d2 q.shapes.length e2, .slice d3 q.main.length e3, .int .i64 q.nat, .slice d4 q.prims.length e4] u ∧ difM p.bodies q.bodies = difM (p.bodies.drop k) (q.bodies.drop k)) (fun k => p.bodies.length - k) 0 rfl
    ⟨rfl, rfl, rfl, rfl, rfl, trivial⟩ ⟨Nat.zero_le _, hM, rfl⟩ ?_
  clear hM
  rintro k u ⟨hk, hM, hd⟩
  have hM0 := hM
  refine br_dec (fun g1 => ?_) (fun g1 => ?_)
  · have hkl : k < p.bodies.length := by omega
    obtain ⟨x, hx, hdx⟩ := drop_get hkl
    obtain ⟨y, hy, hdy⟩ := drop_get (l := q.bodies) (k := k) (by omega)
    obtain ⟨bx, ox, hax, ax, cx, hcx, _, _⟩ := h2.sk hx
    obtain ⟨by', oy, hay, ay, cy, hcy, _, _⟩ := g1'.sk hy
    subst hax hay
    refine drawR τok (by kernel_rfl) ?_
    refine ldR (hM.f.cl rfl) ?_
    refine ix k rfl hkl ?_
    refine ldR (hM.sub _ _ _ hcx) ?_
    refine ldR (hM.g.cl rfl) ?_
    refine ix k rfl (by omega) ?_
    refine ldR (hM.sub _ _ _ hcy) ?_
    intro m
    rw [hdx, hdy] at hd
    simp only [difM] at hd
    refine br (fun r4 => ?_) (fun r4 => ?_)
    · have hdif : difM p.bodies q.bodies = true := by
        rw [hd]
        have r4 : (decide ((0 : Int) < x.length) != decide ((0 : Int) < y.length)) = true := r4
        rw [show decide (0 < x.length) = decide ((0 : Int) < x.length) from decide_eq_decide.2 (by omega), show decide (0 < y.length) = decide ((0 : Int) < y.length) from decide_eq_decide.2 (by omega), r4]
        rfl
      rw [if_pos hdif] at hRES
      have hM := hM.tr ((Kp.refl [] u).dr m)
      refine stN (vs := [.int .i64 0, .slice none 0 0, .slice none 0 0, .slice none 0 0, .slice none 0 0]) hM.z rfl (by simp [Value.oneCell']) fun wz hBz hsz hkz => ?_
      refine resN τok rfl [.int .i64 0, .slice none 0 0, .slice none 0 0, .slice none 0 0, .slice none 0 0] rfl (fun j v hj => hBz.cl hj) ?_
      have hkz : Kp [] w wz := hM.k.trans hkz fun x hx hl => by simp at hx; omega
      rw [← hRES]
      exact ⟨_, rfl, codZ_den _, hkz⟩
    · refine int64 (by omega) (by omega) ?_
      refine ⟨k + 1, by omega, rfl, ⟨rfl, rfl, rfl, rfl, rfl, trivial⟩, hkl, hM.tr ((Kp.refl [] u).dr m), ?_⟩
      rw [hd]
      have r4 : (decide ((0 : Int) < x.length) != decide ((0 : Int) < y.length)) = false := r4
      rw [show decide (0 < x.length) = decide ((0 : Int) < x.length) from decide_eq_decide.2 (by omega), show decide (0 < y.length) = decide ((0 : Int) < y.length) from decide_eq_decide.2 (by omega), r4]
      rfl
  rw [List.drop_eq_nil_of_le (by omega)] at hd
  have hd' : difM p.bodies q.bodies = false := by rw [hd]; rfl
  rw [if_neg (show ¬ difM p.bodies q.bodies = true by rw [hd']; decide)] at hRES
  clear hd hk
  -- the code's own block
  refine ld (hM.g.cl rfl).cell ?_
  refine new fun b9 v1 hb9 hB9 hs9 hk9 => ?_
  refine stN (vs := [.int .i64 q.nat, .slice none 0 0, .slice none 0 0, .slice none 0 0, .slice none 0 0]) hB9 rfl (by simp [Value.oneCell']) fun v2 hC hs2 hk2 => ?_
  have hk9 : Kp [] u v2 := hk9.newSt hb9 hk2
  have hM := hM.tr hk9
  have hb9 : w.heap.size + 3 ≤ b9 := by rw [hb9]; exact hM0.z.lt
  have hC : MkC v2 b9 q.nat (.slice none 0 0) (.slice none 0 0) (.slice none 0 0) (.slice none 0 0) := hC
  have hbv : b9 < v2.heap.size := by omega
  clear hB9 hs9 hk2 hk9 hM0 hs2
  -- shapes
  refine ld (hM.g.cl rfl).cell ?_
  have gs := g2.1
  refine lp τok (σ := Nat) (fun k => [(2, .pointer (some ⟨w.heap.size, 0, none⟩)), (3, .pointer (some ⟨w.heap.size + 1, 0, none⟩)), (4, .pointer (some ⟨w.heap.size + 2, 0, none⟩)), (9, .pointer (some ⟨b9, 0, none⟩)), (69, .slice d2 q.shapes.length e2), (70, .int .i64 q.shapes.length), (71, .int .i64 k)])
    (fun k u => k ≤ q.shapes.length ∧ MkB C w [.slice a1 p.funs.length c1, .slice a2 p.bodies.length c2, .slice a3 p.main.length c3] [.slice d1 q.bodies.length e1, .slice d2 q.shapes.length e2, .slice d3 q.main.length e3, .int .i64 q.nat, .slice d4 q.prims.length e4] u ∧ Kp [b9] v2 u ∧ ∃ v, Own rShp 60 v2.heap.size u v (q.shapes.take k) ∧ MkC u b9 q.nat v (.slice none 0 0) (.slice none 0 0) (.slice none 0 0)) (fun k => q.shapes.length - k) 0 rfl
    ⟨rfl, rfl, rfl, rfl, rfl, rfl, rfl, trivial⟩ ⟨Nat.zero_le _, hM, Kp.refl _ _, _, Own.nil _ _ (Nat.le_refl _), hC⟩ ?_
  clear hM hC
  rintro k u ⟨hk, hM, hkv, v, hO, hC⟩
  refine br_dec (fun g1 => ?_) (fun g1 => ?_)
  · have hkl : k < q.shapes.length := by omega
    obtain ⟨x, hx, _⟩ := drop_get hkl
    obtain ⟨bx, ox, hax, ak, ck, hsk, hpi, hc0, hc1⟩ := sl_shp g2 hx
    refine ixE hax k rfl hkl ?_
    refine ldN [.int .i64 x.params, .slice ak x.kept.length ck] rfl (fun j u hj => hM.sub _ _ _ (match j, hj with
      | 0, hj => by simp at hj; subst hj; exact hc0
      | 1, hj => by simp at hj; subst hj; exact hc1
      | j + 2, hj => by simp at hj)) ?_
    refine new fun b11 u1 hb11 hB11 hs11 hk11 => ?_
    refine stN (vs := [.int .i64 x.params, .slice ak x.kept.length ck]) hB11 rfl (by simp [Value.oneCell']) fun u2 hB11 hs2 hk2 => ?_
    have hk11 : Kp [] u u2 := hk11.newSt hb11 hk2
    refine ld (hB11.cl rfl).cell ?_
    refine new fun b12 u3 hb12 hB12 hs12 hk12 => ?_
    refine stN (vs := [.int .i64 x.params, .slice none 0 0]) hB12 rfl (by simp [Value.oneCell']) fun u4 hB12 hs4 hk4 => ?_
    have hk12 : Kp [] u2 u4 := hk12.newSt hb12 hk4
    have hB11 := hB11.kp hk12 (by simp)
    have hk04 : Kp [] u u4 := hk11.tr hk12
    have hsz4 : u.heap.size ≤ b12 := by have := hk11.size; omega
    have hwu : w.heap.size + 2 < u.heap.size := hM.z.lt
    have hvu := hkv.size
    have hb12' : b12 < u4.heap.size := by omega
    have hM4 := hM.tr hk04
    clear hk2 hk4 hs2 hs4 hs11 hs12 hb11
    refine ld (hB11.cl rfl).cell ?_
    have hsl := hsk.1
    refine lp τok (σ := Nat) (fun j => [(2, .pointer (some ⟨w.heap.size, 0, none⟩)), (3, .pointer (some ⟨w.heap.size + 1, 0, none⟩)), (4, .pointer (some ⟨w.heap.size + 2, 0, none⟩)), (9, .pointer (some ⟨b9, 0, none⟩)), (69, .slice d2 q.shapes.length e2), (70, .int .i64 q.shapes.length), (71, .int .i64 k), (12, .pointer (some ⟨b12, 0, none⟩)), (79, .slice ak x.kept.length ck), (80, .int .i64 x.kept.length), (81, .int .i64 j)])
      (fun j z => j ≤ x.kept.length ∧ MkB C w [.slice a1 p.funs.length c1, .slice a2 p.bodies.length c2, .slice a3 p.main.length c3] [.slice d1 q.bodies.length e1, .slice d2 q.shapes.length e2, .slice d3 q.main.length e3, .int .i64 q.nat, .slice d4 q.prims.length e4] z ∧ Kp [b12] u4 z ∧ ∃ vk, Own (rSl rBool) 61 u4.heap.size z vk (x.kept.take j) ∧ Bk z.heap b12 [.int .i64 x.params, vk] 60) (fun j => x.kept.length - j) 0 rfl
      ⟨rfl, rfl, rfl, rfl, rfl, rfl, rfl, rfl, rfl, rfl, rfl, trivial⟩ ⟨Nat.zero_le _, hM4, Kp.refl _ _, _, Own.nil _ _ (Nat.le_refl _), hB12⟩ ?_
    clear hM4 hB12
    rintro j z ⟨hj, hMz, hkz, vk, hOk, hBz⟩
    refine br_dec (fun g2 => ?_) (fun g2 => ?_)
    · have hjl : j < x.kept.length := by omega
      obtain ⟨y, hy, _⟩ := drop_get hjl
      obtain ⟨by', oy, hay, ay, cy, hcy, hsy⟩ := hsk.sl hy
      have htl : (x.kept.take j).length = j := by simp; omega
      refine ixE hay j rfl hjl ?_
      refine ld (hMz.sub _ _ _ hcy).cell ?_
      refine drawG τok (fun z' => Bk z'.heap b12 [.int .i64 x.params, vk] 60) ?_
      refine readsG τok [0, 1, 2] 5 #[true, true, true, false, false, false, false, false] rfl rfl (by kernel_rfl) (by kernel_rfl) (by kernel_rfl) hBz ?_
      refine ldQ (fun z' hz => hz.cl rfl) ?_
      refine nextG τok 3 4 #[true, true, true, true, false, false, false, false] rfl rfl rfl (by kernel_rfl) ?_
      refine ev_call (cloneB_ct (C := C) (by exact fun b o v hc => hMz.sub b o v hc) y ay cy hsy) ?_
      rintro e z1 ⟨v1', rfl, hOc, hkc⟩
      have hkc : Kp [] z z1 := hkc.rd
      obtain ⟨a', c', hv', hs'⟩ := hOc.den (by have := hsy.1; omega)
      subst hv'
      refine ⟨.inl (hBz.kp hkc (by simp)), ?_⟩
      refine nextG τok 4 3 #[true, true, true, true, true, false, false, false] rfl rfl rfl (by kernel_rfl) ?_
      refine fill [.slice a' y.length c'] rfl ?_
      refine new fun bn z2 hbn hBn hsn hkn => ?_
      have hk02 : Kp [] z z2 := hkc.tr hkn
      refine ⟨.inl (hBz.kp hk02 (by simp)), ?_⟩
      refine nextG τok 5 2 #[true, true, true, true, true, true, false, false] rfl rfl rfl (by kernel_rfl) ?_
      have hO2 := hOk.kp hk02
      refine hO2.ap1 τok rfl rfl Nat.one_pos y [.slice a' y.length c'] ⟨a', c', rfl, hs'.mono (new_dn (hOk.kp ((Kp.refl [] z).dr _)) hkn)⟩ (fun i t hi => by rw [Nat.zero_add]; exact hBn.cl hi) (by rw [htl]; omega) (by rw [htl]; simp only [maxLen]; omega) fun vk' z3 hO3 hk3 hb3 => ?_
      have hX3 : ∀ g ∈ vk.ownBlock.toList, u4.heap.size ≤ g := fun g hg => (hOk.block g (by simpa using hg)).1
      have hB3 := (hBz.kp hk02 (by simp)).kp hk3 (fun hx => by have := hX3 _ hx; omega)
      refine ⟨.inl hB3, ?_⟩
      refine nextG τok 6 1 #[true, true, true, true, true, true, true, false] rfl rfl rfl (by kernel_rfl) ?_
      refine ⟨.inl hB3, ?_⟩
      refine nextG τok 7 0 #[true, true, true, true, true, true, true, true] rfl rfl rfl (by kernel_rfl) ?_
      obtain ⟨aq, cq, hvq⟩ := hO3.len
      refine st hB3 (by simp) (by rw [hvq]; rfl) fun z4 hB4 hs4 hk4 => ?_
      refine ⟨.inr (by kernel_rfl), ?_⟩
      refine doneG (by kernel_rfl) ?_
      refine int64 (by omega) (by omega) ?_
      have hkz4 : Kp [b12] u4 z4 := ((hkz.tr hk02).ownX hk3 hO2).trans hk4 fun x hx _ => hx
      refine ⟨j + 1, by omega, rfl, ⟨rfl, rfl, rfl, rfl, rfl, rfl, rfl, rfl, rfl, rfl, rfl, trivial⟩, hjl, ?_, hkz4, vk', ?_, hB4⟩
      · exact ((hMz.tr hk02).kp hk3 (fun x hx => by have := hX3 x hx; omega)).kp hk4 (fun x hx => by simp at hx; omega)
      · rw [take_get hy]
        exact hO3.kpl hk4 (by simp; omega)
    · rw [List.take_of_length_le (by omega)] at hOk
      obtain ⟨aq, cq, hvq, hSq⟩ := (hOk.low' (lo' := u.heap.size) (by have := hk04.size; omega)).den (by omega)
      subst hvq
      have hkuz : Kp [] u z := hk04.trans hkz fun x hx hl => by simp at hx; omega
      have hCz : MkC z b9 q.nat v (.slice none 0 0) (.slice none 0 0) (.slice none 0 0) := hC.kp hkuz (by simp)
      obtain ⟨av, cv, hvv⟩ := hO.len
      have htl : (q.shapes.take k).length = k := by simp; omega
      refine ld (Bk.cl hCz rfl).cell ?_
      refine ldN [.int .i64 x.params, .slice aq x.kept.length cq] rfl (fun j v hj => by rw [Nat.zero_add]; exact hBz.cl hj) ?_
      refine fill [.int .i64 x.params, .slice aq x.kept.length cq] rfl ?_
      refine new fun bn z2 hbn hBn hsn hkn => ?_
      have hk02 := hkuz.tr hkn
      refine (hO.kp hk02).ap1 τok rfl rfl (by decide) x [.int .i64 x.params, .slice aq x.kept.length cq] ⟨aq, cq, rfl, hSq.mono (new_dn hO hkn), hpi⟩ (fun i t hi => by rw [Nat.zero_add]; exact hBn.cl hi) (by rw [htl]; omega) (by rw [htl]; simp only [maxLen]; omega) fun v' z3 hO3 hk3 hb3 => ?_
      have hX3 : ∀ g ∈ v.ownBlock.toList, v2.heap.size ≤ g := fun g hg => (hO.block g (by simpa using hg)).1
      have hC3 : MkC z3 b9 q.nat v (.slice none 0 0) (.slice none 0 0) (.slice none 0 0) := (hCz.kp hkn (by simp)).kp hk3 (fun hx => by have := hX3 _ hx; omega)
      obtain ⟨aw, cw, hvw⟩ := hO3.len
      refine st hC3 (by simp) (by rw [hvw]; rfl) fun z4 hC4 hs4 hk4 => ?_
      refine int64 (by omega) (by omega) ?_
      refine ⟨k + 1, by omega, rfl, ⟨rfl, rfl, rfl, rfl, rfl, rfl, rfl, trivial⟩, hkl, ?_, ((hkv.tr hk02).ownX hk3 (hO.kp hk02)).trans hk4 (fun x hx _ => hx), v', ?_, hC4⟩
      · exact ((hM.tr hk02).kp hk3 (fun x hx => by have := hX3 x hx; omega)).kp hk4 (fun x hx => by simp at hx; omega)
      · rw [take_get hx]
        exact hO3.kpl hk4 (by simp; omega)
  rw [List.take_of_length_le (by omega)] at hO
  obtain ⟨ash, csh, hvs, hSs⟩ := hO.den gs
  subst hvs
  have hwu : w.heap.size + 2 < u.heap.size := hM.z.lt
  clear hk g1
  -- functions
  obtain ⟨vsh, hvsh⟩ : ∃ v, Value.slice ash q.shapes.length csh = v := ⟨_, rfl⟩
  rw [hvsh] at hC hO
  have fits : ∀ t, t ∈ p.main :: (p.funs.map Ffn.body ++ p.bodies) → t.length ≤ 8192 := by
    intro t ht
    unfold weightF at hw
    simp only [List.mem_cons, List.mem_append, List.mem_map] at ht
    rcases ht with rfl | ⟨f, hf, rfl⟩ | ht
    · omega
    · have := le_sum (List.mem_map.2 ⟨f, hf, rfl⟩ : 1 + f.body.length ∈ p.funs.map fun f => 1 + f.body.length)
      omega
    · have := le_sum (List.mem_map.2 ⟨t, ht, rfl⟩ : 1 + t.length ∈ p.bodies.map fun b => 1 + b.length)
      omega
  obtain ⟨ls, hls⟩ : ∃ l, (p.funs.map fun f => (fnE p f).code.length) = l := ⟨_, rfl⟩
  have hsum : ls.sum ≤ 10000 := by
    rw [← hls]
    unfold weightF at hw
    have : ∀ l : List Ffn, (∀ f ∈ l, wholeF p f.body (f.caps + 1) = true ∧ 0 ≤ f.caps) → (l.map fun f => (fnE p f).code.length).sum ≤ 2 * (l.map fun f => 1 + f.body.length).sum := by
      intro l
      induction l with
      | nil => intro _; simp
      | cons f r ih =>
        intro h
        have h1 := ih fun g hg => h g (by simp [hg])
        obtain ⟨h2, h3⟩ := h f (by simp)
        have h4 := codeE_len (p := p) (t := f.body) (m := (f.caps + 1).toNat) (by rw [show (((f.caps + 1).toNat : Nat) : Int) = f.caps + 1 by omega]; exact h2)
        simp only [List.map_cons, List.sum_cons]
        have h5 : (fnE p f).code.length ≤ 2 * f.body.length := h4
        omega
    have := this p.funs fun f hf => ⟨hF.fun_ f hf, (hF.caps f hf).1⟩
    omega
  refine ld (hM.f.cl rfl).cell ?_
  refine lp τok (σ := Nat) (fun k => [(2, .pointer (some ⟨w.heap.size, 0, none⟩)), (3, .pointer (some ⟨w.heap.size + 1, 0, none⟩)), (4, .pointer (some ⟨w.heap.size + 2, 0, none⟩)), (9, .pointer (some ⟨b9, 0, none⟩)), (15, .int .i64 (sumL ls k)), (101, .slice a1 p.funs.length c1), (102, .int .i64 p.funs.length), (103, .int .i64 k)])
    (fun k y => k ≤ p.funs.length ∧ MkB C w [.slice a1 p.funs.length c1, .slice a2 p.bodies.length c2, .slice a3 p.main.length c3] [.slice d1 q.bodies.length e1, .slice d2 q.shapes.length e2, .slice d3 q.main.length e3, .int .i64 q.nat, .slice d4 q.prims.length e4] y ∧ Kp [b9] u y ∧ ∃ v, Own rFn 53 u.heap.size y v ((p.funs.map (fnE p)).take k) ∧ MkC y b9 q.nat vsh v (.slice none 0 0) (.slice none 0 0)) (fun k => p.funs.length - k) 0 rfl
    ⟨rfl, rfl, rfl, rfl, rfl, rfl, rfl, rfl, trivial⟩ ⟨Nat.zero_le _, hM, Kp.refl _ _, _, Own.nil _ _ (Nat.le_refl _), hC⟩ ?_
  have hbu : b9 < u.heap.size := hC.lt
  clear hM hC hO
  rintro k y ⟨hk, hM, hky, v, hO, hC⟩
  refine br_dec (fun g1 => ?_) (fun g1 => ?_)
  · have hkl : k < p.funs.length := by omega
    obtain ⟨x, hx, _⟩ := drop_get hkl
    obtain ⟨bx, ox, hax, ax, cx, hsx, hxc, hc0, hc1, hcap⟩ := sl_ffn h1 hx
    have hxm := List.mem_of_getElem? hx
    have hxb := hF.caps x hxm
    have hm : (((x.caps + 1).toNat : Nat) : Int) = x.caps + 1 := by omega
    have htl : ((p.funs.map (fnE p)).take k).length = k := by simp; omega
    refine ixE hax k rfl hkl ?_
    refine ldN [.int .i64 x.caps, .slice ax x.body.length cx] rfl (fun j u hj => hM.sub _ _ _ (match j, hj with
      | 0, hj => by simp at hj; subst hj; exact hc0
      | 1, hj => by simp at hj; subst hj; exact hc1
      | j + 2, hj => by simp at hj)) ?_
    refine new fun b17 y1 hb17 hB17 hs17 hk17 => ?_
    refine stN (vs := [.int .i64 x.caps, .slice ax x.body.length cx]) hB17 rfl (by simp [Value.oneCell']) fun y2 hB17 hs2 hk2 => ?_
    have hk17 : Kp [] y y2 := hk17.newSt hb17 hk2
    have hM2 := hM.tr hk17
    have hC2 : MkC y2 b9 q.nat vsh v (.slice none 0 0) (.slice none 0 0) := hC.kp hk17 (by simp)
    have hO2 := hO.kp hk17
    refine drawG τok (fun z => Bk z.heap b17 [.int .i64 x.caps, .slice ax x.body.length cx] 55 ∧ MkC z b9 q.nat vsh v (.slice none 0 0) (.slice none 0 0)) ?_
    refine readsG τok [0, 1, 2, 3, 4, 5, 6, 7, 8] 6 #[true, true, true, true, true, true, true, true, true, false, false, false, false, false, false] rfl rfl (by kernel_rfl) (by kernel_rfl) (by kernel_rfl) ⟨hB17, hC2⟩ ?_
    refine ldQ (fun z hz => Bk.cl hz.2 rfl) ?_
    refine ldQ (fun z hz => hz.1.cl rfl) ?_
    refine ldQ (fun z hz => hz.1.cl rfl) ?_
    refine ldQ (fun z hz => hz.1.cl rfl) ?_
    refine int64 (by omega) (by omega) ?_
    refine nextG τok 9 5 #[true, true, true, true, true, true, true, true, true, true, false, false, false, false, false] rfl rfl rfl (by kernel_rfl) ?_
    have call := codeE_ct (w := { y2 with drawn := y2.drawn + 1 }) hF.caps (by exact fun b o v hc => hM2.sub b o v hc) hT x.body ax cx hsx hcap (x.caps + 1).toNat (by omega) (by rw [hm]; exact hF.fun_ x hxm) (fits _ (by simp only [List.mem_cons, List.mem_append, List.mem_map]; exact .inr (.inl ⟨x, hxm, rfl⟩)))
    rw [hm] at call
    refine ev_call call ?_
    rintro e y3 ⟨ac, cc, rfl, hSc, hkc⟩
    have hkc : Kp [] y2 y3 := hkc.rd
    refine ⟨.inl ⟨hB17.kp hkc (by simp), hC2.kp hkc (by simp)⟩, ?_⟩
    refine nextG τok 10 4 #[true, true, true, true, true, true, true, true, true, true, true, false, false, false, false] rfl rfl rfl (by kernel_rfl) ?_
    refine ⟨.inl ⟨hB17.kp hkc (by simp), hC2.kp hkc (by simp)⟩, ?_⟩
    refine nextG τok 11 3 #[true, true, true, true, true, true, true, true, true, true, true, true, false, false, false] rfl rfl rfl (by kernel_rfl) ?_
    refine fill [.int .i64 x.caps, .slice ac (codeE p x.body (x.caps + 1).toNat).length cc] rfl ?_
    refine new fun bn y4 hbn hBn hsn hkn => ?_
    have hk04 : Kp [] y2 y4 := hkc.tr hkn
    have hC4 : MkC y4 b9 q.nat vsh v (.slice none 0 0) (.slice none 0 0) := hC2.kp hk04 (by simp)
    refine ⟨.inl ⟨hB17.kp hk04 (by simp), hC4⟩, ?_⟩
    refine nextG τok 12 2 #[true, true, true, true, true, true, true, true, true, true, true, true, true, false, false] rfl rfl rfl (by kernel_rfl) ?_
    obtain ⟨av, cv, hvv⟩ := hO.len
    refine (hO2.kp hk04).ap1 τok rfl rfl (by decide) (fnE p x) [.int .i64 x.caps, .slice ac (codeE p x.body (x.caps + 1).toNat).length cc] ⟨ac, cc, rfl, hSc.mono (new_dn (hO2.kp ((Kp.refl [] y2).dr _)) hkn), hxc⟩ (fun i t hi => by rw [Nat.zero_add]; exact hBn.cl hi) (by rw [htl]; omega) (by rw [htl]; simp only [maxLen]; omega) fun v' y5 hO5 hk5 hb5 => ?_
    have hX5 : ∀ g ∈ v.ownBlock.toList, u.heap.size ≤ g := fun g hg => (hO.block g (by simpa using hg)).1
    have hX5' : ∀ g ∈ v.ownBlock.toList, g < y.heap.size := fun g hg => (hO.block g (by simpa using hg)).2
    have hC5 : MkC y5 b9 q.nat vsh v (.slice none 0 0) (.slice none 0 0) := hC4.kp hk5 (fun hx => by have := hX5 _ hx; omega)
    have hB175 := (hB17.kp hk04 (by simp)).kp hk5 (fun hx => by have := hX5' _ hx; omega)
    refine ⟨.inl ⟨hB175, hC5⟩, ?_⟩
    refine nextG τok 13 1 #[true, true, true, true, true, true, true, true, true, true, true, true, true, true, false] rfl rfl rfl (by kernel_rfl) ?_
    refine ⟨.inl ⟨hB175, hC5⟩, ?_⟩
    refine nextG τok 14 0 #[true, true, true, true, true, true, true, true, true, true, true, true, true, true, true] rfl rfl rfl (by kernel_rfl) ?_
    obtain ⟨aw, cw, hvw⟩ := hO5.len
    refine st hC5 (by simp) (by rw [hvw]; rfl) fun y6 hC6 hs6 hk6 => ?_
    refine ⟨.inr (by kernel_rfl), ?_⟩
    refine doneG (by kernel_rfl) ?_
    have hM6 := ((hM2.tr hk04).kp hk5 (fun x hx => by have := hX5 x hx; omega)).kp hk6 (fun x hx => by simp at hx; omega)
    have hO6 := hO5.kpl hk6 (by simp; omega)
    have hfk : (p.funs.map (fnE p)).take (k + 1) = (p.funs.map (fnE p)).take k ++ [fnE p x] := take_map_get hx
    rw [← hfk] at hO6
    have htl1 : ((p.funs.map (fnE p)).take (k + 1)).length = k + 1 := by simp; omega
    obtain ⟨ay, cy, hvy, hSy⟩ := hO6.den (by omega)
    rw [htl1] at hvy
    have hgk : ((p.funs.map (fnE p)).take (k + 1))[k]? = some (fnE p x) := by
      rw [hfk, List.getElem?_append_right (by rw [htl]; exact Nat.le_refl _), htl]
      simp
    obtain ⟨bz, oz, haz, az, cz, _, _, _, hz1⟩ := sl_fn hSy hgk
    have hC6 : MkC y6 b9 q.nat vsh v' (.slice none 0 0) (.slice none 0 0) := hC6
    have hC6' := hC6
    rw [hvy] at hC6'
    refine ld (Bk.cl hC6' rfl).cell ?_
    refine ld (Bk.cl hC6' rfl).cell ?_
    refine int64 (by omega) (by omega) ?_
    refine ixE haz k (by omega) (by omega) ?_
    refine ld hz1.2.cl.cell ?_
    have hss : sumL ls (k + 1) = sumL ls k + (fnE p x).code.length := sumL_step (by rw [← hls, List.getElem?_map, hx]; rfl)
    have hsl := sumL_le ls (k + 1)
    refine int64 (by omega) (by omega) ?_
    refine br_no (by omega) ?_
    refine int64 (by omega) (by omega) ?_
    have hky6 : Kp [b9] u y6 := ((hky.tr (hk17.tr hk04)).ownX hk5 (hO2.kp hk04)).trans hk6 (fun x hx _ => hx)
    refine ⟨k + 1, by omega, rfl, ⟨rfl, rfl, rfl, rfl, ?_, rfl, rfl, rfl, trivial⟩, hkl, hM6, hky6, v', hO6, hC6⟩
    show some _ = some _
    rw [hss]
    rfl
  rw [List.take_of_length_le (by simp; omega)] at hO
  obtain ⟨afn, cfn, hvf, hSf⟩ := hO.den (by simp; omega)
  clear hk g1 hsum
  rw [hvf] at hC
  -- bodies
  obtain ⟨vfn, hvfn⟩ : ∃ v, Value.slice afn (p.funs.map (fnE p)).length cfn = v := ⟨_, rfl⟩
  rw [hvfn] at hC
  have hyu := hky.size
  refine ld (hM.f.cl rfl).cell ?_
  refine lp τok (σ := Nat) (fun k => [(2, .pointer (some ⟨w.heap.size, 0, none⟩)), (3, .pointer (some ⟨w.heap.size + 1, 0, none⟩)), (4, .pointer (some ⟨w.heap.size + 2, 0, none⟩)), (9, .pointer (some ⟨b9, 0, none⟩)), (138, .slice a2 p.bodies.length c2), (139, .int .i64 p.bodies.length), (140, .int .i64 k)])
    (fun k z => k ≤ p.bodies.length ∧ MkB C w [.slice a1 p.funs.length c1, .slice a2 p.bodies.length c2, .slice a3 p.main.length c3] [.slice d1 q.bodies.length e1, .slice d2 q.shapes.length e2, .slice d3 q.main.length e3, .int .i64 q.nat, .slice d4 q.prims.length e4] z ∧ Kp [b9] y z ∧ ∃ v, Own (rSl rIns) 39 y.heap.size z v ((p.bodies.map (bodyE p)).take k) ∧ MkC z b9 q.nat vsh vfn v (.slice none 0 0)) (fun k => p.bodies.length - k) 0 rfl
    ⟨rfl, rfl, rfl, rfl, rfl, rfl, rfl, trivial⟩ ⟨Nat.zero_le _, hM, Kp.refl _ _, _, Own.nil _ _ (Nat.le_refl _), hC⟩ ?_
  clear hM hC hO
  rintro k z ⟨hk, hM, hkz, v, hO, hC⟩
  refine br_dec (fun g1 => ?_) (fun g1 => ?_)
  · have hkl : k < p.bodies.length := by omega
    obtain ⟨x, hx, _⟩ := drop_get hkl
    obtain ⟨bx, ox, hax, ax, cx, hcx, hcap, hsx⟩ := h2.sk hx
    have hxm := List.mem_of_getElem? hx
    have htl : ((p.bodies.map (bodyE p)).take k).length = k := by simp; omega
    have hbk : (p.bodies.map (bodyE p)).take (k + 1) = (p.bodies.map (bodyE p)).take k ++ [bodyE p x] := take_map_get hx
    obtain ⟨av, cv, hvv⟩ := hO.len
    have hX3 : ∀ g ∈ v.ownBlock.toList, y.heap.size ≤ g := fun g hg => (hO.block g (by simpa using hg)).1
    refine ixE hax k rfl hkl ?_
    refine ld (hM.sub _ _ _ hcx).cell ?_
    refine br_dec (fun g2 => ?_) (fun g2 => ?_)
    · have hx0 : 0 < x.length := by omega
      have hbe : bodyE p x = codeE p x 0 := by unfold bodyE; rw [if_pos hx0]
      refine ev_call (codeE_ct hF.caps hM.sub hT x ax cx hsx hcap 0 (by omega) (hF.body x hxm hx0) (fits _ (by simp only [List.mem_cons, List.mem_append]; exact .inr (.inr hxm)))) ?_
      rintro e z1 ⟨ac, cc, rfl, hSc, hkc⟩
      rw [← hbe] at hSc
      rw [← hbe]
      refine ld (Bk.cl (hC.kp hkc (by simp) : MkC z1 b9 q.nat vsh vfn v (.slice none 0 0)) rfl).cell ?_
      refine fill [.slice ac (bodyE p x).length cc] rfl ?_
      refine new fun bn z2 hbn hBn hsn hkn => ?_
      have hk02 : Kp [] z z2 := hkc.tr hkn
      refine (hO.kp hk02).ap1 τok rfl rfl (by decide) (bodyE p x) [.slice ac (bodyE p x).length cc] ⟨ac, cc, rfl, hSc.mono (new_dn hO hkn)⟩ (fun i t hi => by rw [Nat.zero_add]; exact hBn.cl hi) (by rw [htl]; omega) (by rw [htl]; simp only [maxLen]; omega) fun v' z3 hO3 hk3 hb3 => ?_
      have hC3 : MkC z3 b9 q.nat vsh vfn v (.slice none 0 0) := (hC.kp hk02 (by simp)).kp hk3 (fun hx => by have := hX3 _ hx; omega)
      obtain ⟨aw, cw, hvw⟩ := hO3.len
      refine st hC3 (by simp) (by rw [hvw]; rfl) fun z4 hC4 hs4 hk4 => ?_
      refine int64 (by omega) (by omega) ?_
      refine ⟨k + 1, by omega, rfl, ⟨rfl, rfl, rfl, rfl, rfl, rfl, rfl, trivial⟩, hkl, ((hM.tr hk02).kp hk3 (fun x hx => by have := hX3 x hx; omega)).kp hk4 (fun x hx => by simp at hx; omega), ((hkz.tr hk02).ownX hk3 (hO.kp hk02)).trans hk4 (fun x hx _ => hx), v', ?_, hC4⟩
      rw [hbk]
      exact hO3.kpl hk4 (by simp; omega)
    · have hbe : bodyE p x = [] := by unfold bodyE; rw [if_neg (by omega)]
      have hkc := Kp.refl [] z
      refine ld (Bk.cl (hC.kp hkc (by simp) : MkC z b9 q.nat vsh vfn v (.slice none 0 0)) rfl).cell ?_
      refine fill [.slice none 0 0] rfl ?_
      refine new fun bn z2 hbn hBn hsn hkn => ?_
      have hk02 : Kp [] z z2 := hkc.tr hkn
      refine (hO.kp hk02).ap1 τok rfl rfl (by decide) (bodyE p x) [.slice none 0 0] ⟨none, 0, by rw [hbe]; rfl, by rw [hbe]; exact Sl.nil _ _ _⟩ (fun i t hi => by rw [Nat.zero_add]; exact hBn.cl hi) (by rw [htl]; omega) (by rw [htl]; simp only [maxLen]; omega) fun v' z3 hO3 hk3 hb3 => ?_
      have hC3 : MkC z3 b9 q.nat vsh vfn v (.slice none 0 0) := (hC.kp hk02 (by simp)).kp hk3 (fun hx => by have := hX3 _ hx; omega)
      obtain ⟨aw, cw, hvw⟩ := hO3.len
      refine st hC3 (by simp) (by rw [hvw]; rfl) fun z4 hC4 hs4 hk4 => ?_
      refine int64 (by omega) (by omega) ?_
      refine ⟨k + 1, by omega, rfl, ⟨rfl, rfl, rfl, rfl, rfl, rfl, rfl, trivial⟩, hkl, ((hM.tr hk02).kp hk3 (fun x hx => by have := hX3 x hx; omega)).kp hk4 (fun x hx => by simp at hx; omega), ((hkz.tr hk02).ownX hk3 (hO.kp hk02)).trans hk4 (fun x hx _ => hx), v', ?_, hC4⟩
      rw [hbk]
      exact hO3.kpl hk4 (by simp; omega)
  rw [List.take_of_length_le (by simp; omega)] at hO
  obtain ⟨abd, cbd, hvb, hSb⟩ := hO.den (by simp; omega)
  rw [hvb] at hC
  -- main
  refine ld (hM.f.cl rfl).cell ?_
  refine ev_call (codeE_ct hF.caps hM.sub hT p.main a3 c3 h3 h4 0 (by omega) hF.main (fits _ (by simp))) ?_
  rintro e z1 ⟨amn, cmn, rfl, hSm, hkm⟩
  have hC1 : MkC z1 b9 q.nat vsh vfn _ (.slice none 0 0) := hC.kp hkm (by simp)
  refine st hC1 (by simp) rfl fun z2 hC2 hs2 hk2 => ?_
  have hM2 := (hM.tr hkm).kp hk2 (fun x hx => by simp at hx; omega)
  have hyz := hkz.size
  have hzz := hkm.size
  have hb9w : w.heap.size ≤ b9 := by omega
  have hkz2 : Kp [b9] z z2 := (hkm.weak (by simp)).trans hk2 (fun x hx _ => hx)
  have hky2 : Kp [b9] y z2 := hkz.trans hkz2 (fun x hx _ => hx)
  have hku2 : Kp [b9] u z2 := hky.trans hky2 (fun x hx _ => hx)
  have hden : ∀ (X : List Nat) (z' : World), Kp X z2 z' → (∀ x ∈ X, x ≤ b9) → rCod.den (New w.heap.size z') [.int .i64 q.nat, vsh, vfn, .slice abd (p.bodies.map (bodyE p)).length cbd, .slice amn (codeE p p.main 0).length cmn] (codeM p q) := by
    intro X z' hk' hX
    have nX : ∀ b, b9 < b → b ∉ X := fun b hb hx => by have := hX b hx; omega
    refine ⟨ash, csh, afn, cfn, abd, cbd, amn, cmn, by rw [← hvsh, ← hvfn]; rfl, ?_, ?_, ?_, ?_, g5⟩
    · exact hSs.mono fun b o v hv => ⟨by have := hv.1; omega, (hv.2.kp hku2 (by have := hv.1; simp; omega)).kp hk' (nX b (by have := hv.1; omega))⟩
    · exact hSf.mono fun b o v hv => ⟨by have := hv.1; omega, (hv.2.kp hky2 (by have := hv.1; simp; omega)).kp hk' (nX b (by have := hv.1; omega))⟩
    · exact hSb.mono fun b o v hv => ⟨by have := hv.1; omega, (hv.2.kp hkz2 (by have := hv.1; simp; omega)).kp hk' (nX b (by have := hv.1; omega))⟩
    · exact hSm.mono fun b o v hv => ⟨by have := hv.1; omega, (hv.2.kp hk2 (by have := hv.1; simp; omega)).kp hk' (nX b (by have := hv.1; omega))⟩
  refine ldN [.int .i64 q.nat, vsh, vfn, .slice abd (p.bodies.map (bodyE p)).length cbd, .slice amn (codeE p p.main 0).length cmn] rfl (fun j v hj => by rw [Nat.zero_add]; exact Bk.cl hC2 hj) ?_
  refine ev_call (check_ct (New.sub _ _) (hden [] z2 (Kp.refl _ _) (by simp))) ?_
  rintro e z3 ⟨rfl, hk3⟩
  have hM := hM2.tr hk3
  refine br_dec (fun r5 => ?_) (fun r5 => ?_)
  · rw [if_pos r5] at hRES
    refine stN (vs := [.int .i64 0, .slice none 0 0, .slice none 0 0, .slice none 0 0, .slice none 0 0]) hM.z rfl (by simp [Value.oneCell']) fun wz hBz hsz hkz => ?_
    refine resN τok rfl [.int .i64 0, .slice none 0 0, .slice none 0 0, .slice none 0 0, .slice none 0 0] rfl (fun j v hj => hBz.cl hj) ?_
    have hkz : Kp [] w wz := hM.k.trans hkz fun x hx hl => by simp at hx; omega
    rw [← hRES]
    exact ⟨_, rfl, codZ_den _, hkz⟩
  rw [if_neg r5] at hRES
  have hC3 := Bk.kp hC2 hk3 (by simp)
  refine ldN [.int .i64 q.nat, vsh, vfn, .slice abd (p.bodies.map (bodyE p)).length cbd, .slice amn (codeE p p.main 0).length cmn] rfl (fun j v hj => by rw [Nat.zero_add]; exact Bk.cl hC3 hj) ?_
  refine stN (vs := [.int .i64 q.nat, vsh, vfn, .slice abd (p.bodies.map (bodyE p)).length cbd, .slice amn (codeE p p.main 0).length cmn]) hM.z rfl (by rw [← hvsh, ← hvfn]; simp [Value.oneCell']) fun wz hBz hsz hkz4 => ?_
  refine resN τok rfl [.int .i64 q.nat, vsh, vfn, .slice abd (p.bodies.map (bodyE p)).length cbd, .slice amn (codeE p p.main 0).length cmn] rfl (fun j v hj => hBz.cl hj) ?_
  have hkw : Kp [] w wz := hM.k.trans hkz4 fun x hx hl => by simp at hx; omega
  rw [← hRES]
  exact ⟨_, rfl, hden _ wz ((hk3.weak (by simp)).trans hkz4 (fun x hx _ => hx)) (fun x hx => by simp at hx; omega), hkw⟩
end
end Go.Proofs.YtjpdkcejkogciaaDoor

/-
  Reference of layer 15: Right.
-/
set_option linter.unusedSimpArgs false
set_option linter.unusedVariables false
namespace Go.Proofs.YtjpdkcejkogciaaDoor
open Go.Wx Cd

set_option maxHeartbeats 2000000 in
theorem rightB15_ct {C : Mem} {w : World} (hS : Sub C w) {cs : List Value} {p : Brd} (hp : rBrd.den C cs p) :
    CallOk Tryd.prog 26 ∧ Calls Tryd.prog 26 #[.agg cs.toArray] w (fun e w' => e = .returned (.int .i64 (rightB p)) ∧ Kp [] w w') := by
  have hp0 := hp
  obtain ⟨a1, c1, a2, c2, a3, c3, a4, c4, rfl, h1, h2, h3, h4, h5, h6, h7⟩ := hp
  obtain ⟨RES, hRES⟩ : ∃ r, rightB p = r := ⟨_, rfl⟩
  rw [hRES]
  have hl1 := h1.1
  have hl2 := h2.1
  have hpl := h4.1
  refine ⟨⟨_, Tryd.func26, rfl, by decide⟩, ?_⟩
  refine calls_of (args := [_]) 233 [.tmp 2] τok Tryd.func26 rfl rfl rfl (Nat.le_of_ble_eq_true rfl) ?_
  refine new fun b1 w1 hb1 hB1 hs1 hk1 => ?_
  have hB1 : Bk w1.heap b1 [.slice a1 p.bodies.length c1, .slice a2 p.shapes.length c2, .slice a3 p.main.length c3, .int .i64 p.nat, .slice a4 p.prims.length c4] 33 := hB1
  have hS1 := hS.tr hk1
  have ret : ∀ n w', Kp [] w w' → RES = n → Ending.returned (one [.int .i64 n]) = .returned (.int .i64 RES) ∧ Kp [] w w' := fun n w' h e => ⟨by rw [e]; rfl, h⟩
  unfold rightB at hRES
  (repeat first | refine ldC ‹Sub _ _› (by assumption) ?_ | refine ld (Cl.cell (by first | assumption | exact Bk.cl (by assumption) rfl)) ?_ | refine ldK (by first | assumption | exact Bk.cl (by assumption) rfl | exact ‹Sub _ _› _ _ _ (by assumption)) ?_)
  refine br_dec (fun g1 => ?_) (fun g1 => ?_)
  · exact ret _ _ hk1 (by rw [← hRES, if_pos (.inl (by omega))])
  (repeat first | refine ldC ‹Sub _ _› (by assumption) ?_ | refine ld (Cl.cell (by first | assumption | exact Bk.cl (by assumption) rfl)) ?_ | refine ldK (by first | assumption | exact Bk.cl (by assumption) rfl | exact ‹Sub _ _› _ _ _ (by assumption)) ?_)
  refine br_dec (fun g2 => ?_) (fun g2 => ?_)
  · exact ret _ _ hk1 (by rw [← hRES, if_pos (.inr (by omega))])
  rw [if_neg (by omega)] at hRES
  (repeat first | refine ldC ‹Sub _ _› (by assumption) ?_ | refine ld (Cl.cell (by first | assumption | exact Bk.cl (by assumption) rfl)) ?_ | refine ldK (by first | assumption | exact Bk.cl (by assumption) rfl | exact ‹Sub _ _› _ _ _ (by assumption)) ?_)
  refine br_dec (fun g3 => ?_) (fun g3 => ?_)
  · exact ret _ _ hk1 (by rw [← hRES, if_pos (fun e => g3 (by rw [e]))])
  have hl : p.bodies.length = p.shapes.length := by
    have : (p.bodies.length : Int) = p.shapes.length := by simpa using g3
    omega
  rw [if_neg (by omega)] at hRES
  refine lp τok (σ := Nat) (fun k => [(1, .pointer (some ⟨b1, 0, none⟩)), (3, .int .i64 k)])
    (fun k w' => k ≤ p.bodies.length ∧ Kp [] w1 w' ∧ entsB p 0 p.bodies p.shapes = entsB p k (p.bodies.drop k) (p.shapes.drop k)) (fun k => p.bodies.length - k) 0 rfl ⟨rfl, rfl, trivial⟩ ⟨Nat.zero_le _, Kp.refl _ _, rfl⟩ ?_
  rintro k w2 ⟨hk, hkp, hr⟩
  have hB2 := hB1.kp hkp (by simp)
  have hS2 := hS1.tr hkp
  refine ld (hB2.cl rfl).cell ?_
  refine br_dec (fun q4 => ?_) (fun q4 => ?_)
  · have hlt : k < p.bodies.length := by omega
    obtain ⟨x, hx, hdx⟩ := drop_get hlt
    obtain ⟨s, hsx, hds⟩ := drop_get (l := p.shapes) (k := k) (by omega)
    rw [entsB_drop hdx hds] at hr
    obtain ⟨b, o, hb, ax, cx, hcx, hxl, hslx⟩ := h1.sk hx
    obtain ⟨b', o', hb', ak, ck, hkept, _, hcp, hck⟩ := sl_shp h2 hsx
    have hkl := hkept.1
    refine ld (hB2.cl rfl).cell ?_
    refine ixE hb' k rfl (by omega) ?_
    refine ldN [.int .i64 s.params, .slice ak s.kept.length ck] rfl (fun j v hj => ?_) ?_
    · match j with
      | 0 => simp at hj; subst hj; exact hS2 _ _ _ hcp
      | 1 => simp at hj; subst hj; exact hS2 _ _ _ hck
      | j + 2 => simp at hj
    refine new fun b3 w3 hb3 hB3 hs3 hk3 => ?_
    refine stN hB3 rfl (by simp [Value.oneCell']) fun w4 hB4 hs4 hk4 => ?_
    have hB4 : Bk w4.heap b3 [.int .i64 s.params, .slice ak s.kept.length ck] 60 := hB4
    have hk24 : Kp [] w2 w4 := hk3.newSt hb3 hk4
    have hkp4 := hkp.tr hk24
    refine ld (hB4.cl rfl).cell ?_
    refine ev_call (within15_ct _ _ _ w4) ?_
    rintro e w5 ⟨rfl, hk5⟩
    have hkp5 := hkp4.tr hk5
    have hB5 := hB4.kp hk5 (by simp)
    have no : ∀ w', Kp [] w1 w' → entB p k x s = false → Ending.returned (one [.int .i64 8]) = .returned (.int .i64 RES) ∧ Kp [] w w' := fun w' h e => by
      rw [e, Bool.false_and] at hr
      exact ret _ _ (hk1.tr h) (by rw [← hRES, if_pos hr])
    refine br (fun q5 => ?_) (fun q5 => ?_)
    · refine no _ hkp5 ?_
      have q5 : inM s.params 0 16 = false := by simpa using q5
      unfold inM at q5
      unfold entB shpOk
      rw [q5]
      simp
    have q5 : inM s.params 0 16 = true := by simpa using q5
    refine ld (hB5.cl rfl).cell ?_
    refine br_dec (fun q6 => ?_) (fun q6 => ?_)
    · refine no _ hkp5 ?_
      unfold entB shpOk
      rw [decide_eq_false (show ¬ s.kept.length ≤ 16 by omega)]
      simp
    have q6 : s.kept.length ≤ 16 := by omega
    have hsh : shpOk s = !s.kept.any fun k => decide (16 < k.length) := by
      unfold inM at q5
      unfold shpOk
      rw [q5, decide_eq_true q6]
      simp
    refine lp τok (σ := Nat) (fun q => [(1, .pointer (some ⟨b1, 0, none⟩)), (3, .int .i64 k), (4, .pointer (some ⟨b3, 0, none⟩)), (5, .int .i64 q)])
      (fun q w' => q ≤ s.kept.length ∧ w' = w5 ∧ (s.kept.any fun k => decide (16 < k.length)) = (s.kept.drop q).any fun k => decide (16 < k.length)) (fun q => s.kept.length - q) 0 rfl ⟨rfl, rfl, rfl, rfl, trivial⟩ ⟨Nat.zero_le _, rfl, rfl⟩ ?_
    rintro q w6 ⟨hq, rfl, hany⟩
    refine ld (hB5.cl rfl).cell ?_
    refine br_dec (fun q7 => ?_) (fun q7 => ?_)
    · have hlq : q < s.kept.length := by omega
      obtain ⟨y, hy, hdy⟩ := drop_get hlq
      rw [hdy, List.any_cons] at hany
      obtain ⟨b4, o4, hb4, ay, cy, hcy, _⟩ := hkept.sl hy
      refine ld (hB5.cl rfl).cell ?_
      refine ixE hb4 q rfl hlq ?_
      refine ldC (hS1.tr hkp5) hcy ?_
      refine br_dec (fun q8 => ?_) (fun q8 => ?_)
      · refine no _ hkp5 ?_
        unfold entB
        rw [hsh, hany, decide_eq_true (show 16 < y.length by omega)]
        rfl
      rw [decide_eq_false (show ¬ 16 < y.length by omega), Bool.false_or] at hany
      refine int64 (by omega) (by omega) ?_
      exact ⟨q + 1, by omega, rfl, ⟨rfl, rfl, rfl, rfl, trivial⟩, hlq, rfl, hany⟩
    rw [List.drop_eq_nil_of_le (by omega)] at hany
    have q5 : shpOk s = true := by rw [hsh, hany]; rfl
    have hB15 := hB1.kp hkp5 (by simp)
    have hS5 := hS1.tr hkp5
    have go : entB p k x s = true → entsB p 0 p.bodies p.shapes = entsB p (k + 1) (p.bodies.drop (k + 1)) (p.shapes.drop (k + 1)) := fun e => by rw [hr, e, Bool.true_and]
    refine drawQ τok (fun w' => Kp [] w6 w') (by kernel_rfl) ((Kp.refl [] w6).dr _) ?_
    refine ldK (hB15.cl rfl) ?_
    refine ixE hb k rfl hlt ?_
    refine ldK (hS5 _ _ _ hcx) ?_
    refine br_dec (fun q8 => ?_) (fun q8 => ?_)
    · have hx0 : ¬ x.length = 0 := by omega
      refine ldK (hB5.cl rfl) ?_
      refine br_dec (fun q9 => ?_) (fun q9 => ?_)
      · intro w7 hk7
        exact no _ (hkp5.tr hk7) (by unfold entB; rw [q5, decide_eq_false hx0, decide_eq_false q9]; rfl)
      have q9 : s.params = 0 := by simpa using q9
      refine ldK (hB5.cl rfl) ?_
      refine br_dec (fun q10 => ?_) (fun q10 => ?_)
      · intro w7 hk7
        exact no _ (hkp5.tr hk7) (by unfold entB; rw [q5, decide_eq_false hx0, decide_eq_false (show ¬ s.kept.length = 0 by intro e; exact q10 (by rw [e]; rfl))]; simp)
      have q10' : s.kept.length = 0 := by
        have q10 : (s.kept.length : Int) = 0 := by simpa using q10
        omega
      have he : entB p k x s = thereB p k x := by
        unfold entB
        rw [q5, decide_eq_false hx0, decide_eq_true q9, decide_eq_true q10']
        rfl
      refine ldNK [.slice a1 p.bodies.length c1, .slice a2 p.shapes.length c2, .slice a3 p.main.length c3, .int .i64 p.nat, .slice a4 p.prims.length c4] rfl (fun j v hj => by rw [Nat.zero_add]; exact hB15.cl hj) ?_
      refine ldK (hB15.cl rfl) ?_
      refine ixE hb k rfl hlt ?_
      refine ldK (hS5 _ _ _ hcx) ?_
      refine callK (fun w' hk' => there15_ct (hS5.tr hk') hp0 hl k (by omega) hslx hxl) ?_
      intro w7 hk7
      refine br (fun q11 => ?_) (fun q11 => ?_)
      · exact no _ (hkp5.tr hk7) (by rw [he]; simpa using q11)
      · refine int64 (by omega) (by omega) ?_
        exact ⟨k + 1, by omega, rfl, ⟨rfl, rfl, trivial⟩, hlt, hkp5.tr hk7, go (by rw [he]; simpa using q11)⟩
    · intro w7 hk7
      refine int64 (by omega) (by omega) ?_
      exact ⟨k + 1, by omega, rfl, ⟨rfl, rfl, trivial⟩, hlt, hkp5.tr hk7, go (by unfold entB; rw [q5, decide_eq_true (show x.length = 0 by omega)]; rfl)⟩
  · rw [List.drop_eq_nil_of_le (by omega)] at hr
    have hr : entsB p 0 p.bodies p.shapes = true := hr
    rw [if_neg (by rw [hr]; simp)] at hRES
    refine ldN [.slice a1 p.bodies.length c1, .slice a2 p.shapes.length c2, .slice a3 p.main.length c3, .int .i64 p.nat, .slice a4 p.prims.length c4] rfl (fun j v hj => by rw [Nat.zero_add]; exact hB2.cl hj) ?_
    (repeat first | refine ldC ‹Sub _ _› (by assumption) ?_ | refine ld (Cl.cell (by first | assumption | exact Bk.cl (by assumption) rfl)) ?_ | refine ldK (by first | assumption | exact Bk.cl (by assumption) rfl | exact ‹Sub _ _› _ _ _ (by assumption)) ?_)
    refine ev_call (there15_ct hS2 hp0 hl p.bodies.length (Nat.le_refl _) h3 h6) ?_
    rintro e w3 ⟨rfl, hk3⟩
    have hB3 := hB2.kp hk3 (by simp)
    have hS3 := hS2.tr hk3
    have hk13 := (hk1.tr hkp).tr hk3
    refine br (fun t1 => ?_) (fun t1 => ?_)
    · exact ret _ _ hk13 (by rw [← hRES, if_pos (by simpa using t1)])
    rw [if_neg (by simpa using t1)] at hRES
    have hRB : RES = if regB p = false then 22 else 0 := hRES.symm
    have no : ∀ w', Kp [] w w' → regB p = false → Ending.returned (one [.int .i64 22]) = .returned (.int .i64 RES) ∧ Kp [] w w' := fun w' h e => ret _ _ h (by rw [hRB, if_pos e])
    refine ld (hB3.cl rfl).cell ?_
    refine br_dec (fun g1 => ?_) (fun g1 => ?_)
    · have hrg : regB p = (natOk p.bodies p.shapes p.nat && primsB p 0 p.prims) := by unfold regB; rw [if_neg g1]
      obtain ⟨NT, hr⟩ : ∃ r, natOk p.bodies p.shapes p.nat = r := ⟨_, rfl⟩
      rw [hr] at hrg
      have no : ∀ w', Kp [] w w' → NT = false → Ending.returned (one [.int .i64 22]) = .returned (.int .i64 RES) ∧ Kp [] w w' := fun w' h e => no _ h (by rw [hrg, e]; rfl)
      have hr := hr.symm
      refine ld (hB3.cl rfl).cell ?_
      refine br_dec (fun g2 => ?_) (fun g2 => ?_)
      · exact no _ hk13 (by rw [hr]; simp [natOk, g1, show ¬ 0 ≤ p.nat by omega])
      refine ld (hB3.cl rfl).cell ?_
      refine ld (hB3.cl rfl).cell ?_
      refine br_dec (fun g3 => ?_) (fun g3 => ?_)
      · exact no _ hk13 (by rw [hr]; simp [natOk, g1, show ¬ p.nat < p.bodies.length by omega])
      obtain ⟨x, hx⟩ : ∃ x, p.bodies[p.nat.toNat]? = some x := ⟨p.bodies[p.nat.toNat]'(by omega), by simp⟩
      obtain ⟨s, hsx⟩ : ∃ x, p.shapes[p.nat.toNat]? = some x := ⟨p.shapes[p.nat.toNat]'(by omega), by simp⟩
      have hr : NT = (decide (x.length = 0) && (decide (s.params = 0) && decide (s.kept = [[], [true]]))) := by
        rw [hr]
        unfold natOk
        rw [hx, hsx, decide_eq_false g1, decide_eq_true (show 0 ≤ p.nat by omega), decide_eq_true (show p.nat < p.bodies.length by omega)]
        simp
      obtain ⟨b, o, hb, a', cap, hcx, _, _⟩ := h1.sk hx
      obtain ⟨b', o', hb', ak, ck, hkept, _, hcp, hck⟩ := sl_shp h2 hsx
      refine ld (hB3.cl rfl).cell ?_
      refine ld (hB3.cl rfl).cell ?_
      refine ixE hb p.nat.toNat (by omega) (by omega) ?_
      refine ldC hS3 hcx ?_
      refine br_dec (fun g4 => ?_) (fun g4 => ?_)
      · exact no _ hk13 (by rw [hr, decide_eq_false (fun e => g4 (by rw [e]; rfl))]; rfl)
      have g4 : x.length = 0 := by
        have : (x.length : Int) = 0 := by simpa using g4
        omega
      rw [decide_eq_true g4, Bool.true_and] at hr
      refine ld (hB3.cl rfl).cell ?_
      refine ld (hB3.cl rfl).cell ?_
      refine ixE hb' p.nat.toNat (by omega) (by omega) ?_
      refine ldN [.int .i64 s.params, .slice ak s.kept.length ck] rfl (fun j v hj => ?_) ?_
      · match j with
        | 0 => simp at hj; subst hj; exact hS3 _ _ _ hcp
        | 1 => simp at hj; subst hj; exact hS3 _ _ _ hck
        | j + 2 => simp at hj
      refine new fun b4 w4 hb4 hB4 hs4 hk4 => ?_
      refine stN hB4 rfl (by simp [Value.oneCell']) fun w5 hB5 hs5 hk5 => ?_
      have hk35 : Kp [] w3 w5 := hk4.newSt hb4 hk5
      have hk15 := hk13.tr hk35
      have hS5 := hS3.tr hk35
      have hB3 := hB3.kp hk35 (by simp)
      refine ld (hB5.cl rfl).cell ?_
      refine br_dec (fun g5 => ?_) (fun g5 => ?_)
      · exact no _ hk15 (by rw [hr, decide_eq_false g5]; rfl)
      rw [decide_eq_true (show s.params = 0 by simpa using g5), Bool.true_and] at hr
      refine ld (hB5.cl rfl).cell ?_
      refine br_dec (fun g6 => ?_) (fun g6 => ?_)
      · exact no _ hk15 (by rw [hr, decide_eq_false (fun e => g6 (by rw [e]; rfl))])
      have g6 : s.kept.length = 2 := by
        have : (s.kept.length : Int) = 2 := by simpa using g6
        omega
      obtain ⟨y0, y1, hy⟩ : ∃ y0 y1, s.kept = [y0, y1] := by
        match h : s.kept, g6 with
        | [y0, y1], _ => exact ⟨y0, y1, rfl⟩
      obtain ⟨b5, o5, hb5, e0, c0, hc0, hsl0⟩ := hkept.sl (i := 0) (x := y0) (by rw [hy]; rfl)
      obtain ⟨b6, o6, hb6, e1, c1', hc1, hsl1⟩ := hkept.sl (i := 1) (x := y1) (by rw [hy]; rfl)
      have hr : NT = decide (y0 = [] ∧ y1 = [true]) := by rw [hr, hy]; simp
      refine ld (hB5.cl rfl).cell ?_
      refine ixE hb5 0 rfl (by omega) ?_
      refine ldC hS5 hc0 ?_
      refine br_dec (fun g7 => ?_) (fun g7 => ?_)
      · exact no _ hk15 (by rw [hr, decide_eq_false (fun e => g7 (by rw [e.1]; rfl))])
      have g7 : y0 = [] := List.length_eq_zero_iff.1 (by
        have : (y0.length : Int) = 0 := by simpa using g7
        omega)
      refine ld (hB5.cl rfl).cell ?_
      refine ixE hb6 1 rfl (by omega) ?_
      refine ldC hS5 hc1 ?_
      refine br_dec (fun g8 => ?_) (fun g8 => ?_)
      · exact no _ hk15 (by rw [hr, decide_eq_false (fun e => g8 (by rw [e.2]; rfl))])
      obtain ⟨z, hz⟩ : ∃ z, y1 = [z] := by
        have : y1.length = 1 := by
          have : (y1.length : Int) = 1 := by simpa using g8
          omega
        match h : y1, this with
        | [z], _ => exact ⟨z, rfl⟩
      subst hz
      obtain ⟨b7, o7, hb7, hcz⟩ := hsl1.bool (i := 0) (x := z) rfl
      refine ld (hB5.cl rfl).cell ?_
      refine ixE hb6 1 rfl (by omega) ?_
      refine ldC hS5 hc1 ?_
      refine ixE hb7 0 rfl (by simp) ?_
      refine ldC hS5 hcz ?_
      refine br (fun g9 => ?_) (fun g9 => ?_)
      · exact no _ hk15 (by rw [hr, show z = false by simpa using g9]; simp)
      have hr : NT = true := by rw [hr, g7, show z = true by simpa using g9]; simp
      rw [hr, Bool.true_and] at hrg
      clear no
      refine lp τok (σ := Nat) (fun k => [(1, .pointer (some ⟨b1, 0, none⟩)), (7, .int .i64 k)])
        (fun k w' => k ≤ p.prims.length ∧ Kp [] w5 w' ∧ regB p = primsB p k (p.prims.drop k)) (fun k => p.prims.length - k) 0 rfl ⟨rfl, rfl, trivial⟩ ⟨Nat.zero_le _, Kp.refl _ _, hrg⟩ ?_
      rintro k w6 ⟨hk', hk6, hrg⟩
      have hB6 := hB3.kp hk6 (by simp)
      have hS6 := hS5.tr hk6
      have hk16 := hk15.tr hk6
      refine ld (hB6.cl rfl).cell ?_
      refine br_dec (fun u1 => ?_) (fun u1 => ?_)
      · have hlt : k < p.prims.length := by omega
        obtain ⟨y, hy', hd⟩ := drop_get hlt
        rw [hd] at hrg
        simp only [primsB] at hrg
        obtain ⟨b9, o9, hb9, i1, i2, hc1', hc2'⟩ := sl_prm h4 hy'
        refine ld (hB6.cl rfl).cell ?_
        refine ixE hb9 k rfl hlt ?_
        refine ldN [.int .i64 y.1, .int .i64 y.2] rfl (fun j v hj => ?_) ?_
        · match j with
          | 0 => simp at hj; subst hj; exact hS6 _ _ _ hc1'
          | 1 => simp at hj; subst hj; exact hS6 _ _ _ hc2'
          | j + 2 => simp at hj
        refine new fun b11 w11 hb11 hB11 hs11 hk11 => ?_
        refine stN hB11 rfl (by simp [Value.oneCell']) fun w12 hB12 hs12 hk12 => ?_
        have hB12 : Bk w12.heap b11 [.int .i64 y.1, .int .i64 y.2] 77 := hB12
        have hk612 : Kp [] w6 w12 := hk11.newSt hb11 hk12
        have hk512 := hk6.tr hk612
        have hk112 := hk15.tr hk512
        have hS12 := hS6.tr hk612
        have hB112 := hB6.kp hk612 (by simp)
        have nop : ∀ w', Kp [] w w' → primB p y = false → Ending.returned (one [.int .i64 22]) = .returned (.int .i64 RES) ∧ Kp [] w w' := fun w' h e => ret _ _ h (by rw [hRB, if_pos (by rw [hrg, e, Bool.false_and])])
        refine ld (hB112.cl rfl).cell ?_
        refine br_no g1 ?_
        refine ld (hB12.cl rfl).cell ?_
        refine br_dec (fun q2 => ?_) (fun q2 => ?_)
        · exact nop _ hk112 (by unfold primB; rw [decide_eq_false (show ¬ 0 ≤ y.1 by omega)]; simp)
        refine ld (hB12.cl rfl).cell ?_
        refine ld (hB112.cl rfl).cell ?_
        refine br_dec (fun q3 => ?_) (fun q3 => ?_)
        · exact nop _ hk112 (by unfold primB; rw [decide_eq_false (show ¬ y.1 < p.bodies.length by omega)]; simp)
        obtain ⟨z', hz'⟩ : ∃ x, p.bodies[y.1.toNat]? = some x := ⟨p.bodies[y.1.toNat]'(by omega), by simp⟩
        obtain ⟨bz, oz, hbz, az, capz, hcz', _, _⟩ := h1.sk hz'
        refine ld (hB112.cl rfl).cell ?_
        refine ld (hB12.cl rfl).cell ?_
        refine ixE hbz y.1.toNat (by omega) (by omega) ?_
        refine ldC hS12 hcz' ?_
        refine br_dec (fun q4 => ?_) (fun q4 => ?_)
        · exact nop _ hk112 (by unfold primB; rw [hz', Option.getD_some, decide_eq_false (show ¬ 0 < z'.length by omega)]; simp)
        refine ld (hB12.cl rfl).cell ?_
        refine ev_call (within15_ct _ _ _ w12) ?_
        rintro e w13 ⟨rfl, hk13'⟩
        have hk113 := hk112.tr hk13'
        refine br (fun q5 => ?_) (fun q5 => ?_)
        · exact nop _ hk113 (by unfold primB; rw [show inM y.2 1 3 = false by simpa using q5]; simp)
        have hpt : primB p y = true := by
          unfold primB
          rw [hz', Option.getD_some, decide_eq_true (show 0 ≤ y.1 by omega), decide_eq_true (show y.1 < p.bodies.length by omega), decide_eq_true (show 0 < z'.length by omega), show inM y.2 1 3 = true by simpa using q5]
          rfl
        rw [hpt, Bool.true_and] at hrg
        have hB13 := hB112.kp hk13' (by simp)
        have hB123 := hB12.kp hk13' (by simp)
        have hS13 := hS12.tr hk13'
        refine lp τok (σ := Nat) (fun q => [(1, .pointer (some ⟨b1, 0, none⟩)), (7, .int .i64 k), (8, .pointer (some ⟨b11, 0, none⟩)), (9, .int .i64 q)])
          (fun q w' => q ≤ k ∧ Kp [] w13 w' ∧ (p.prims.take k).any (fun y' => decide (y'.1 = y.1) || decide (y'.2 = y.2)) = ((p.prims.take k).drop q).any (fun y' => decide (y'.1 = y.1) || decide (y'.2 = y.2))) (fun q => k - q) 0 rfl ⟨rfl, rfl, rfl, rfl, trivial⟩ ⟨Nat.zero_le _, Kp.refl _ _, rfl⟩ ?_
        rintro q w14 ⟨hq, hk14, hany⟩
        have hk114 := hk113.tr hk14
        have htk : (p.prims.take k).length = k := by simp; omega
        refine br_dec (fun u2 => ?_) (fun u2 => ?_)
        · have hlq : q < k := by omega
          obtain ⟨y', hy2, hdy⟩ := drop_get (l := p.prims.take k) (k := q) (by omega)
          rw [hdy, List.any_cons] at hany
          have hy3 : p.prims[q]? = some y' := by
            rw [List.getElem?_take, if_pos hlq] at hy2
            exact hy2
          obtain ⟨b15, o15, hb15, _, _, hd1, hd2⟩ := sl_prm h4 hy3
          have hB14 := hB13.kp hk14 (by simp)
          have hB124 := hB123.kp hk14 (by simp)
          have hS14 := hS13.tr hk14
          refine drawR τok (by kernel_rfl) ?_
          refine ldR (hB14.cl rfl) ?_
          refine ixE hb15 q rfl (by omega) ?_
          refine ldR (hS14 _ _ _ hd1) ?_
          refine ldR (hB124.cl rfl) ?_
          refine br_dec (fun u3 => ?_) (fun u3 => ?_)
          · intro m
            rw [decide_eq_true u3, Bool.true_or, Bool.true_or] at hany
            exact ret _ _ (hk114.dr _) (by rw [hRB, if_pos (by rw [hrg, hany]; rfl)])
          refine ldR (hB14.cl rfl) ?_
          refine ixE hb15 q rfl (by omega) ?_
          refine ldR (hS14 _ _ _ hd2) ?_
          refine ldR (hB124.cl rfl) ?_
          intro m
          refine br_dec (fun u4 => ?_) (fun u4 => ?_)
          · rw [decide_eq_true u4, Bool.or_true, Bool.true_or] at hany
            exact ret _ _ (hk114.dr _) (by rw [hRB, if_pos (by rw [hrg, hany]; rfl)])
          · rw [decide_eq_false u3, decide_eq_false u4, Bool.or_false, Bool.false_or] at hany
            refine int64 (by omega) (by omega) ?_
            exact ⟨q + 1, by omega, rfl, ⟨rfl, rfl, rfl, rfl, trivial⟩, hlq, hk14.dr _, hany⟩
        · rw [List.drop_eq_nil_of_le (by omega)] at hany
          rw [hany] at hrg
          refine int64 (by omega) (by omega) ?_
          exact ⟨k + 1, by omega, rfl, ⟨rfl, rfl, trivial⟩, hlt, (hk512.tr hk13').tr hk14, hrg⟩
      · rw [List.drop_eq_nil_of_le (by omega)] at hrg
        exact ret _ _ hk16 (by rw [hRB, hrg]; rfl)
    · have g1 : p.nat = -1 := by simpa using g1
      have hrg : regB p = decide (p.prims.length = 0) := by unfold regB; rw [if_pos g1]
      refine lp τok (fun _ : Unit => [(1, .pointer (some ⟨b1, 0, none⟩)), (7, .int .i64 0)]) (fun _ w' => w' = w3) (fun _ => 0) () rfl ⟨rfl, rfl, trivial⟩ rfl ?_
      rintro _ w6 rfl
      refine ld (hB3.cl rfl).cell ?_
      refine br_dec (fun u1 => ?_) (fun u1 => ?_)
      · have hlt : 0 < p.prims.length := by omega
        obtain ⟨y, hy', hd⟩ := drop_get hlt
        obtain ⟨b9, o9, hb9, i1, i2, hc1', hc2'⟩ := sl_prm h4 hy'
        refine ld (hB3.cl rfl).cell ?_
        refine ixE hb9 0 rfl hlt ?_
        refine ldN [.int .i64 y.1, .int .i64 y.2] rfl (fun j v hj => ?_) ?_
        · match j with
          | 0 => simp at hj; subst hj; exact hS3 _ _ _ hc1'
          | 1 => simp at hj; subst hj; exact hS3 _ _ _ hc2'
          | j + 2 => simp at hj
        refine new fun b11 w11 hb11 hB11 hs11 hk11 => ?_
        refine stN hB11 rfl (by simp [Value.oneCell']) fun w12 hB12 hs12 hk12 => ?_
        have hk612 : Kp [] w6 w12 := hk11.newSt hb11 hk12
        have hB112 := hB3.kp hk612 (by simp)
        refine ld (hB112.cl rfl).cell ?_
        refine br_yes g1 ?_
        exact no _ (hk13.tr hk612) (by rw [hrg, decide_eq_false (by omega)])
      · exact ret _ _ hk13 (by rw [hRB, hrg, decide_eq_true (by omega)]; rfl)
end Go.Proofs.YtjpdkcejkogciaaDoor

