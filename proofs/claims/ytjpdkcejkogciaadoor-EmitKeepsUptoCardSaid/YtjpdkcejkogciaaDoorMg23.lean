/-
  Own texts put together: EmKc.
-/
import Derived.Test.YtjpdkcejkogciaaDoorMg22
/-
  Reference 14: CopyBared in full. (Printed by emkc.py from EmKc.tmpl.)
-/
set_option linter.unusedSimpArgs false
set_option linter.unusedVariables false
namespace Go.Wx
theorem Own.kpF {α : Type} {R : Rd α} {e lo : Nat} {w w' : World} {v : Value} {l : List α} {X : List Nat} (h : Own R e lo w v l) (hf : Flat R) (k : Kp X w w') (hx : ∀ g, v.ownBlock = some g → g ∉ X) : Own R e lo w' v l := by
  obtain ⟨⟨css, h1, h2⟩, h3⟩ := h
  exact ⟨⟨css, own_kp h1 k hx, h2.mono fun cs x hx' => hf _ _ _ _ hx'⟩, Nat.le_trans h3 k.size⟩
theorem Own.denX {α : Type} {R : Rd α} {e lo x : Nat} {w : World} {v : Value} {l : List α} (h : Own R e lo w v l) (hf : Flat R) (hx : ∀ g, v.ownBlock = some g → g ≠ x) (hl : l.length ≤ 1099511627776) :
    ∃ a cap, v = .slice a l.length cap ∧ l.length ≤ cap ∧ Sl R (fun b o u => lo ≤ b ∧ b ≠ x ∧ Cu w.heap b o u) a l := by
  obtain ⟨a, cap, hv, hc, hs⟩ := h.denc hl
  refine ⟨a, cap, hv, hc, hs.1, ?_⟩
  rcases hs.2 with h0 | ⟨b, o, rfl, h2⟩
  · exact .inl h0
  · subst hv
    refine .inr ⟨b, o, rfl, fun i y hy => ?_⟩
    obtain ⟨cs, h3, h4⟩ := h2 i y hy
    exact ⟨cs, hf _ _ _ _ h3, fun j u hu => ⟨(h4 j u hu).1, hx b rfl, (h4 j u hu).2⟩⟩
end Go.Wx
namespace Go.Proofs.YtjpdkcejkogciaaDoor
open Go.Wx Cd

set_option maxHeartbeats 4000000 in
theorem copyBared_ct {C : Mem} {w : World} (hS : Sub C w) {cg : List Value} {q : Brd} (hq : rBrd.den C cg q) :
    CallOk Tryd.prog 14 ∧ Calls Tryd.prog 14 #[.agg cg.toArray] w (fun e w' => ∃ cs, e = .returned (.agg cs.toArray) ∧ rBrd.den (New w.heap.size w') cs q ∧ Kp [] w w') := by
  refine ⟨⟨_, Tryd.func14, rfl, by decide⟩, ?_⟩
  obtain ⟨d1, e1, d2, e2, d3, e3, d4, e4, rfl, g1, g2, g3, g4, g5, g6, g7⟩ := hq
  have hbl := g1.1
  have hlen := g2.1
  have hl3 := g3.1
  have hl4 := g4.1
  have hl1 := g1.1
  refine calls_ev (args := [_]) 86 [.cell 2 33] Tryd.func14 rfl rfl rfl (Nat.le_of_ble_eq_true rfl) ?_
  refine ev_seq τok ?_
  refine new fun b1 w1 hb1 hB1 hs1 hk1 => ?_
  refine new fun b2 w2 hb2 hB2 hs2 hk2 => ?_
  have hB1 : Bk w2.heap b1 [.slice d1 q.bodies.length e1, .slice d2 q.shapes.length e2, .slice d3 q.main.length e3, .int .i64 q.nat, .slice d4 q.prims.length e4] 33 := Bk.kp hB1 hk2 (by simp)
  have hk02 := hk1.tr hk2
  have hS2 := hS.tr hk02
  refine ev_mid τok (fun x : Nat × Value × Value => [(1, .pointer (some ⟨b1, 0, none⟩)), (2, .pointer (some ⟨b2, 0, none⟩)), (3, .pointer (some ⟨x.1, 0, none⟩))])
    (fun x w' => Kp [] w2 w' ∧ Bk w'.heap x.1 [.slice none 0 0, .slice none 0 0, x.2.1, .int .i64 q.nat, x.2.2] 33 ∧ w2.heap.size ≤ x.1 ∧ (∃ am cm, x.2.1 = .slice am q.main.length cm ∧ q.main.length ≤ cm ∧ Sl rNd (fun b o t => w2.heap.size ≤ b ∧ b ≠ x.1 ∧ Cu w'.heap b o t) am q.main) ∧
      ∃ ap cp, x.2.2 = .slice ap q.prims.length cp ∧ q.prims.length ≤ cp ∧ Sl rPrm (fun b o t => w2.heap.size ≤ b ∧ b ≠ x.1 ∧ Cu w'.heap b o t) ap q.prims) ?_ ?_
  · have k0 : Kp [] w2 { w2 with drawn := w2.drawn + 1 } := (Kp.refl [] w2).dr _
    refine drawG τok (fun w' => Kp [] w2 w') ?_
    refine readsG τok [1, 2, 4, 5, 7, 8] 7 #[false, true, true, false, true, true, false, true, true, false, false, false, false] rfl rfl (by kernel_rfl) (by kernel_rfl) (by kernel_rfl) k0 ?_
    refine ldK (hB1.cl rfl) ?_
    refine ldK (hB1.cl rfl) ?_
    refine ldK (hB1.cl rfl) ?_
    refine threeG τok 0 6 11 6 #[true, true, true, false, true, true, false, true, true, false, false, false, false] #[false, true, true, false, true, true, true, true, true, false, false, false, false] #[false, true, true, false, true, true, false, true, true, false, false, true, false] rfl rfl rfl rfl rfl rfl rfl (by kernel_rfl) ?_ ?_ ?_
    · skip
      refine fill [] rfl ?_
      refine new fun b8 u1 hb8 hB8 hs1 hk1 => ?_
      have n8 : w2.heap.size ≤ b8 := by have := k0.size; omega
      have k1 := k0.tr hk1
      refine ⟨.inl k1, ?_⟩
      refine threeG τok 3 6 11 5 #[true, true, true, true, true, true, false, true, true, false, false, false, false] #[true, true, true, false, true, true, true, true, true, false, false, false, false] #[true, true, true, false, true, true, false, true, true, false, false, true, false] rfl rfl rfl rfl rfl rfl rfl (by kernel_rfl) ?_ ?_ ?_
      · skip
        have hO := Own.empty rNd hB8 n8
        refine hO.apF τok rfl rfl (by decide) flatNd (hS2.tr k1) q.main g3 (by simp; omega) (by simp [maxLen]; omega) fun v3 u2 hO3 hk2 hz3 => ?_
        have k2 := k1.own hk2 hO
        have hk2 : Kp [b8] u1 u2 := hk2
        rw [List.nil_append] at hO3
        obtain ⟨a3, c3, rfl⟩ := hO3.len
        clear hO
        refine ⟨.inl k2, ?_⟩
        refine twoG τok 6 11 4 #[true, true, true, true, true, true, true, true, true, false, false, false, false] #[true, true, true, true, true, true, false, true, true, false, false, true, false] rfl rfl rfl rfl rfl (by kernel_rfl) ?_ ?_
        · skip
          refine fill [] rfl ?_
          refine new fun b14 u3 hb14 hB14 hs3 hk3 => ?_
          have n14 : w2.heap.size ≤ b14 := by have := k2.size; omega
          have p3_14 : ∀ g, (Value.slice a3 q.main.length c3).ownBlock = some g → g ≠ b14 := fun g hg e => absurd (hO3.block g hg).2 (by rw [e, hb14]; exact Nat.lt_irrefl _)
          have hO3 := hO3.kp hk3
          have k3 := k2.tr hk3
          refine ⟨.inl k3, ?_⟩
          refine twoG τok 9 11 3 #[true, true, true, true, true, true, true, true, true, true, false, false, false] #[true, true, true, true, true, true, true, true, true, false, false, true, false] rfl rfl rfl rfl rfl (by kernel_rfl) ?_ ?_
          · skip
            have hO := Own.empty rPrm hB14 n14
            refine hO.apF τok rfl rfl (by decide) flatPrm (hS2.tr k3) q.prims g4 (by simp; omega) (by simp [maxLen]; omega) fun v9 u4 hO9 hk4 hz9 => ?_
            have k4 := k3.own hk4 hO
            have hk4 : Kp [b14] u3 u4 := hk4
            rw [List.nil_append] at hO9
            obtain ⟨a9, c9, rfl⟩ := hO9.len
            have hO3 := hO3.kpF flatNd hk4 (fun g hg hx => p3_14 g hg (by simpa using hx))
            clear hO
            refine ⟨.inl k4, ?_⟩
            refine twoG τok 10 11 2 #[true, true, true, true, true, true, true, true, true, true, true, false, false] #[true, true, true, true, true, true, true, true, true, true, false, true, false] rfl rfl rfl rfl rfl (by kernel_rfl) ?_ ?_
            · skip
              refine ⟨.inl k4, ?_⟩
              refine nextG τok 11 1 #[true, true, true, true, true, true, true, true, true, true, true, true, false] rfl rfl rfl (by kernel_rfl) ?_
              refine new fun b3 u5 hb3 hB3 hs5 hk5 => ?_
              have n3 : w2.heap.size ≤ b3 := by have := k4.size; omega
              have p3_3 : ∀ g, (Value.slice a3 q.main.length c3).ownBlock = some g → g ≠ b3 := fun g hg e => absurd (hO3.block g hg).2 (by rw [e, hb3]; exact Nat.lt_irrefl _)
              have hO3 := hO3.kp hk5
              have p9_3 : ∀ g, (Value.slice a9 q.prims.length c9).ownBlock = some g → g ≠ b3 := fun g hg e => absurd (hO9.block g hg).2 (by rw [e, hb3]; exact Nat.lt_irrefl _)
              have hO9 := hO9.kp hk5
              have k5 := k4.tr hk5
              refine ⟨.inl k5, ?_⟩
              refine nextG τok 12 0 #[true, true, true, true, true, true, true, true, true, true, true, true, true] rfl rfl rfl (by kernel_rfl) ?_
              obtain ⟨a, c, e, hc3, hs3⟩ := hO3.denX flatNd p3_3 hl3
              injection e with e e' e''
              subst e e''
              obtain ⟨a, c, e, hc9, hs9⟩ := hO9.denX flatPrm p9_3 hl4
              injection e with e e' e''
              subst e e''
              refine stN (vs := [.slice none 0 0, .slice none 0 0, .slice a3 q.main.length c3, .int .i64 q.nat, .slice a9 q.prims.length c9]) hB3 rfl (by simp [Value.oneCell']) fun u hB3 hs hk => ?_
              have kk : Kp [] w2 u := k5.trans hk (fun x hx hl => by simp at hx; omega)
              refine ⟨.inl kk, ?_⟩
              refine doneG (by kernel_rfl) ?_
              exact ⟨(b3, .slice a3 q.main.length c3, .slice a9 q.prims.length c9), rfl, ⟨rfl, rfl, rfl, trivial⟩, kk, hB3, n3, ⟨a3, c3, rfl, hc3, hs3.mono fun b o v hv => ⟨hv.1, hv.2.1, hv.2.2.kp hk (by simpa using hv.2.1)⟩⟩, a9, c9, rfl, hc9, hs9.mono fun b o v hv => ⟨hv.1, hv.2.1, hv.2.2.kp hk (by simpa using hv.2.1)⟩⟩
            · skip
              refine new fun b3 u5 hb3 hB3 hs5 hk5 => ?_
              have n3 : w2.heap.size ≤ b3 := by have := k4.size; omega
              have p3_3 : ∀ g, (Value.slice a3 q.main.length c3).ownBlock = some g → g ≠ b3 := fun g hg e => absurd (hO3.block g hg).2 (by rw [e, hb3]; exact Nat.lt_irrefl _)
              have hO3 := hO3.kp hk5
              have p9_3 : ∀ g, (Value.slice a9 q.prims.length c9).ownBlock = some g → g ≠ b3 := fun g hg e => absurd (hO9.block g hg).2 (by rw [e, hb3]; exact Nat.lt_irrefl _)
              have hO9 := hO9.kp hk5
              have k5 := k4.tr hk5
              refine ⟨.inl k5, ?_⟩
              refine nextG τok 10 1 #[true, true, true, true, true, true, true, true, true, true, true, true, false] rfl rfl rfl (by kernel_rfl) ?_
              refine ⟨.inl k5, ?_⟩
              refine nextG τok 12 0 #[true, true, true, true, true, true, true, true, true, true, true, true, true] rfl rfl rfl (by kernel_rfl) ?_
              obtain ⟨a, c, e, hc3, hs3⟩ := hO3.denX flatNd p3_3 hl3
              injection e with e e' e''
              subst e e''
              obtain ⟨a, c, e, hc9, hs9⟩ := hO9.denX flatPrm p9_3 hl4
              injection e with e e' e''
              subst e e''
              refine stN (vs := [.slice none 0 0, .slice none 0 0, .slice a3 q.main.length c3, .int .i64 q.nat, .slice a9 q.prims.length c9]) hB3 rfl (by simp [Value.oneCell']) fun u hB3 hs hk => ?_
              have kk : Kp [] w2 u := k5.trans hk (fun x hx hl => by simp at hx; omega)
              refine ⟨.inl kk, ?_⟩
              refine doneG (by kernel_rfl) ?_
              exact ⟨(b3, .slice a3 q.main.length c3, .slice a9 q.prims.length c9), rfl, ⟨rfl, rfl, rfl, trivial⟩, kk, hB3, n3, ⟨a3, c3, rfl, hc3, hs3.mono fun b o v hv => ⟨hv.1, hv.2.1, hv.2.2.kp hk (by simpa using hv.2.1)⟩⟩, a9, c9, rfl, hc9, hs9.mono fun b o v hv => ⟨hv.1, hv.2.1, hv.2.2.kp hk (by simpa using hv.2.1)⟩⟩
          · skip
            refine new fun b3 u4 hb3 hB3 hs4 hk4 => ?_
            have n3 : w2.heap.size ≤ b3 := by have := k3.size; omega
            have d14_3 : b14 < b3 := by have := hB14.lt; omega
            have hB14 := hB14.kp hk4 (by simp)
            have p3_3 : ∀ g, (Value.slice a3 q.main.length c3).ownBlock = some g → g ≠ b3 := fun g hg e => absurd (hO3.block g hg).2 (by rw [e, hb3]; exact Nat.lt_irrefl _)
            have hO3 := hO3.kp hk4
            have k4 := k3.tr hk4
            refine ⟨.inl k4, ?_⟩
            refine nextG τok 9 2 #[true, true, true, true, true, true, true, true, true, true, false, true, false] rfl rfl rfl (by kernel_rfl) ?_
            have hO := Own.empty rPrm hB14 n14
            refine hO.apF τok rfl rfl (by decide) flatPrm (hS2.tr k4) q.prims g4 (by simp; omega) (by simp [maxLen]; omega) fun v9 u5 hO9 hk5 hz9 => ?_
            have k5 := k4.own hk5 hO
            have hk5 : Kp [b14] u4 u5 := hk5
            rw [List.nil_append] at hO9
            have p9_3 : ∀ g, v9.ownBlock = some g → g ≠ b3 := fun g hg => by have := hB3.lt; rcases hz9 with e | e <;> rw [e] at hg <;> simp [Value.ownBlock] at hg <;> omega
            obtain ⟨a9, c9, rfl⟩ := hO9.len
            have hO3 := hO3.kpF flatNd hk5 (fun g hg hx => p3_14 g hg (by simpa using hx))
            have hB3 := hB3.kp hk5 (by simp; omega)
            clear hO
            refine ⟨.inl k5, ?_⟩
            refine nextG τok 10 1 #[true, true, true, true, true, true, true, true, true, true, true, true, false] rfl rfl rfl (by kernel_rfl) ?_
            refine ⟨.inl k5, ?_⟩
            refine nextG τok 12 0 #[true, true, true, true, true, true, true, true, true, true, true, true, true] rfl rfl rfl (by kernel_rfl) ?_
            obtain ⟨a, c, e, hc3, hs3⟩ := hO3.denX flatNd p3_3 hl3
            injection e with e e' e''
            subst e e''
            obtain ⟨a, c, e, hc9, hs9⟩ := hO9.denX flatPrm p9_3 hl4
            injection e with e e' e''
            subst e e''
            refine stN (vs := [.slice none 0 0, .slice none 0 0, .slice a3 q.main.length c3, .int .i64 q.nat, .slice a9 q.prims.length c9]) hB3 rfl (by simp [Value.oneCell']) fun u hB3 hs hk => ?_
            have kk : Kp [] w2 u := k5.trans hk (fun x hx hl => by simp at hx; omega)
            refine ⟨.inl kk, ?_⟩
            refine doneG (by kernel_rfl) ?_
            exact ⟨(b3, .slice a3 q.main.length c3, .slice a9 q.prims.length c9), rfl, ⟨rfl, rfl, rfl, trivial⟩, kk, hB3, n3, ⟨a3, c3, rfl, hc3, hs3.mono fun b o v hv => ⟨hv.1, hv.2.1, hv.2.2.kp hk (by simpa using hv.2.1)⟩⟩, a9, c9, rfl, hc9, hs9.mono fun b o v hv => ⟨hv.1, hv.2.1, hv.2.2.kp hk (by simpa using hv.2.1)⟩⟩
        · skip
          refine new fun b3 u3 hb3 hB3 hs3 hk3 => ?_
          have n3 : w2.heap.size ≤ b3 := by have := k2.size; omega
          have p3_3 : ∀ g, (Value.slice a3 q.main.length c3).ownBlock = some g → g ≠ b3 := fun g hg e => absurd (hO3.block g hg).2 (by rw [e, hb3]; exact Nat.lt_irrefl _)
          have hO3 := hO3.kp hk3
          have k3 := k2.tr hk3
          refine ⟨.inl k3, ?_⟩
          refine nextG τok 6 3 #[true, true, true, true, true, true, true, true, true, false, false, true, false] rfl rfl rfl (by kernel_rfl) ?_
          refine fill [] rfl ?_
          refine new fun b14 u4 hb14 hB14 hs4 hk4 => ?_
          have n14 : w2.heap.size ≤ b14 := by have := k3.size; omega
          have d3_14 : b3 < b14 := by have := hB3.lt; omega
          have hB3 := hB3.kp hk4 (by simp)
          have p3_14 : ∀ g, (Value.slice a3 q.main.length c3).ownBlock = some g → g ≠ b14 := fun g hg e => absurd (hO3.block g hg).2 (by rw [e, hb14]; exact Nat.lt_irrefl _)
          have hO3 := hO3.kp hk4
          have k4 := k3.tr hk4
          refine ⟨.inl k4, ?_⟩
          refine nextG τok 9 2 #[true, true, true, true, true, true, true, true, true, true, false, true, false] rfl rfl rfl (by kernel_rfl) ?_
          have hO := Own.empty rPrm hB14 n14
          refine hO.apF τok rfl rfl (by decide) flatPrm (hS2.tr k4) q.prims g4 (by simp; omega) (by simp [maxLen]; omega) fun v9 u5 hO9 hk5 hz9 => ?_
          have k5 := k4.own hk5 hO
          have hk5 : Kp [b14] u4 u5 := hk5
          rw [List.nil_append] at hO9
          have p9_3 : ∀ g, v9.ownBlock = some g → g ≠ b3 := fun g hg => by have := hB3.lt; rcases hz9 with e | e <;> rw [e] at hg <;> simp [Value.ownBlock] at hg <;> omega
          obtain ⟨a9, c9, rfl⟩ := hO9.len
          have hO3 := hO3.kpF flatNd hk5 (fun g hg hx => p3_14 g hg (by simpa using hx))
          have hB3 := hB3.kp hk5 (by simp; omega)
          clear hO
          refine ⟨.inl k5, ?_⟩
          refine nextG τok 10 1 #[true, true, true, true, true, true, true, true, true, true, true, true, false] rfl rfl rfl (by kernel_rfl) ?_
          refine ⟨.inl k5, ?_⟩
          refine nextG τok 12 0 #[true, true, true, true, true, true, true, true, true, true, true, true, true] rfl rfl rfl (by kernel_rfl) ?_
          obtain ⟨a, c, e, hc3, hs3⟩ := hO3.denX flatNd p3_3 hl3
          injection e with e e' e''
          subst e e''
          obtain ⟨a, c, e, hc9, hs9⟩ := hO9.denX flatPrm p9_3 hl4
          injection e with e e' e''
          subst e e''
          refine stN (vs := [.slice none 0 0, .slice none 0 0, .slice a3 q.main.length c3, .int .i64 q.nat, .slice a9 q.prims.length c9]) hB3 rfl (by simp [Value.oneCell']) fun u hB3 hs hk => ?_
          have kk : Kp [] w2 u := k5.trans hk (fun x hx hl => by simp at hx; omega)
          refine ⟨.inl kk, ?_⟩
          refine doneG (by kernel_rfl) ?_
          exact ⟨(b3, .slice a3 q.main.length c3, .slice a9 q.prims.length c9), rfl, ⟨rfl, rfl, rfl, trivial⟩, kk, hB3, n3, ⟨a3, c3, rfl, hc3, hs3.mono fun b o v hv => ⟨hv.1, hv.2.1, hv.2.2.kp hk (by simpa using hv.2.1)⟩⟩, a9, c9, rfl, hc9, hs9.mono fun b o v hv => ⟨hv.1, hv.2.1, hv.2.2.kp hk (by simpa using hv.2.1)⟩⟩
      · skip
        refine fill [] rfl ?_
        refine new fun b14 u2 hb14 hB14 hs2 hk2 => ?_
        have n14 : w2.heap.size ≤ b14 := by have := k1.size; omega
        have d8_14 : b8 < b14 := by have := hB8.lt; omega
        have hB8 := hB8.kp hk2 (by simp)
        have k2 := k1.tr hk2
        refine ⟨.inl k2, ?_⟩
        refine twoG τok 3 11 4 #[true, true, true, true, true, true, true, true, true, false, false, false, false] #[true, true, true, false, true, true, true, true, true, false, false, true, false] rfl rfl rfl rfl rfl (by kernel_rfl) ?_ ?_
        · skip
          have hO := Own.empty rNd hB8 n8
          refine hO.apF τok rfl rfl (by decide) flatNd (hS2.tr k2) q.main g3 (by simp; omega) (by simp [maxLen]; omega) fun v3 u3 hO3 hk3 hz3 => ?_
          have k3 := k2.own hk3 hO
          have hk3 : Kp [b8] u2 u3 := hk3
          rw [List.nil_append] at hO3
          have p3_14 : ∀ g, v3.ownBlock = some g → g ≠ b14 := fun g hg => by have := hB14.lt; rcases hz3 with e | e <;> rw [e] at hg <;> simp [Value.ownBlock] at hg <;> omega
          obtain ⟨a3, c3, rfl⟩ := hO3.len
          have hB14 := hB14.kp hk3 (by simp; omega)
          clear hO
          refine ⟨.inl k3, ?_⟩
          refine twoG τok 9 11 3 #[true, true, true, true, true, true, true, true, true, true, false, false, false] #[true, true, true, true, true, true, true, true, true, false, false, true, false] rfl rfl rfl rfl rfl (by kernel_rfl) ?_ ?_
          · skip
            have hO := Own.empty rPrm hB14 n14
            refine hO.apF τok rfl rfl (by decide) flatPrm (hS2.tr k3) q.prims g4 (by simp; omega) (by simp [maxLen]; omega) fun v9 u4 hO9 hk4 hz9 => ?_
            have k4 := k3.own hk4 hO
            have hk4 : Kp [b14] u3 u4 := hk4
            rw [List.nil_append] at hO9
            obtain ⟨a9, c9, rfl⟩ := hO9.len
            have hO3 := hO3.kpF flatNd hk4 (fun g hg hx => p3_14 g hg (by simpa using hx))
            clear hO
            refine ⟨.inl k4, ?_⟩
            refine twoG τok 10 11 2 #[true, true, true, true, true, true, true, true, true, true, true, false, false] #[true, true, true, true, true, true, true, true, true, true, false, true, false] rfl rfl rfl rfl rfl (by kernel_rfl) ?_ ?_
            · skip
              refine ⟨.inl k4, ?_⟩
              refine nextG τok 11 1 #[true, true, true, true, true, true, true, true, true, true, true, true, false] rfl rfl rfl (by kernel_rfl) ?_
              refine new fun b3 u5 hb3 hB3 hs5 hk5 => ?_
              have n3 : w2.heap.size ≤ b3 := by have := k4.size; omega
              have p3_3 : ∀ g, (Value.slice a3 q.main.length c3).ownBlock = some g → g ≠ b3 := fun g hg e => absurd (hO3.block g hg).2 (by rw [e, hb3]; exact Nat.lt_irrefl _)
              have hO3 := hO3.kp hk5
              have p9_3 : ∀ g, (Value.slice a9 q.prims.length c9).ownBlock = some g → g ≠ b3 := fun g hg e => absurd (hO9.block g hg).2 (by rw [e, hb3]; exact Nat.lt_irrefl _)
              have hO9 := hO9.kp hk5
              have k5 := k4.tr hk5
              refine ⟨.inl k5, ?_⟩
              refine nextG τok 12 0 #[true, true, true, true, true, true, true, true, true, true, true, true, true] rfl rfl rfl (by kernel_rfl) ?_
              obtain ⟨a, c, e, hc3, hs3⟩ := hO3.denX flatNd p3_3 hl3
              injection e with e e' e''
              subst e e''
              obtain ⟨a, c, e, hc9, hs9⟩ := hO9.denX flatPrm p9_3 hl4
              injection e with e e' e''
              subst e e''
              refine stN (vs := [.slice none 0 0, .slice none 0 0, .slice a3 q.main.length c3, .int .i64 q.nat, .slice a9 q.prims.length c9]) hB3 rfl (by simp [Value.oneCell']) fun u hB3 hs hk => ?_
              have kk : Kp [] w2 u := k5.trans hk (fun x hx hl => by simp at hx; omega)
              refine ⟨.inl kk, ?_⟩
              refine doneG (by kernel_rfl) ?_
              exact ⟨(b3, .slice a3 q.main.length c3, .slice a9 q.prims.length c9), rfl, ⟨rfl, rfl, rfl, trivial⟩, kk, hB3, n3, ⟨a3, c3, rfl, hc3, hs3.mono fun b o v hv => ⟨hv.1, hv.2.1, hv.2.2.kp hk (by simpa using hv.2.1)⟩⟩, a9, c9, rfl, hc9, hs9.mono fun b o v hv => ⟨hv.1, hv.2.1, hv.2.2.kp hk (by simpa using hv.2.1)⟩⟩
            · skip
              refine new fun b3 u5 hb3 hB3 hs5 hk5 => ?_
              have n3 : w2.heap.size ≤ b3 := by have := k4.size; omega
              have p3_3 : ∀ g, (Value.slice a3 q.main.length c3).ownBlock = some g → g ≠ b3 := fun g hg e => absurd (hO3.block g hg).2 (by rw [e, hb3]; exact Nat.lt_irrefl _)
              have hO3 := hO3.kp hk5
              have p9_3 : ∀ g, (Value.slice a9 q.prims.length c9).ownBlock = some g → g ≠ b3 := fun g hg e => absurd (hO9.block g hg).2 (by rw [e, hb3]; exact Nat.lt_irrefl _)
              have hO9 := hO9.kp hk5
              have k5 := k4.tr hk5
              refine ⟨.inl k5, ?_⟩
              refine nextG τok 10 1 #[true, true, true, true, true, true, true, true, true, true, true, true, false] rfl rfl rfl (by kernel_rfl) ?_
              refine ⟨.inl k5, ?_⟩
              refine nextG τok 12 0 #[true, true, true, true, true, true, true, true, true, true, true, true, true] rfl rfl rfl (by kernel_rfl) ?_
              obtain ⟨a, c, e, hc3, hs3⟩ := hO3.denX flatNd p3_3 hl3
              injection e with e e' e''
              subst e e''
              obtain ⟨a, c, e, hc9, hs9⟩ := hO9.denX flatPrm p9_3 hl4
              injection e with e e' e''
              subst e e''
              refine stN (vs := [.slice none 0 0, .slice none 0 0, .slice a3 q.main.length c3, .int .i64 q.nat, .slice a9 q.prims.length c9]) hB3 rfl (by simp [Value.oneCell']) fun u hB3 hs hk => ?_
              have kk : Kp [] w2 u := k5.trans hk (fun x hx hl => by simp at hx; omega)
              refine ⟨.inl kk, ?_⟩
              refine doneG (by kernel_rfl) ?_
              exact ⟨(b3, .slice a3 q.main.length c3, .slice a9 q.prims.length c9), rfl, ⟨rfl, rfl, rfl, trivial⟩, kk, hB3, n3, ⟨a3, c3, rfl, hc3, hs3.mono fun b o v hv => ⟨hv.1, hv.2.1, hv.2.2.kp hk (by simpa using hv.2.1)⟩⟩, a9, c9, rfl, hc9, hs9.mono fun b o v hv => ⟨hv.1, hv.2.1, hv.2.2.kp hk (by simpa using hv.2.1)⟩⟩
          · skip
            refine new fun b3 u4 hb3 hB3 hs4 hk4 => ?_
            have n3 : w2.heap.size ≤ b3 := by have := k3.size; omega
            have d14_3 : b14 < b3 := by have := hB14.lt; omega
            have hB14 := hB14.kp hk4 (by simp)
            have p3_3 : ∀ g, (Value.slice a3 q.main.length c3).ownBlock = some g → g ≠ b3 := fun g hg e => absurd (hO3.block g hg).2 (by rw [e, hb3]; exact Nat.lt_irrefl _)
            have hO3 := hO3.kp hk4
            have k4 := k3.tr hk4
            refine ⟨.inl k4, ?_⟩
            refine nextG τok 9 2 #[true, true, true, true, true, true, true, true, true, true, false, true, false] rfl rfl rfl (by kernel_rfl) ?_
            have hO := Own.empty rPrm hB14 n14
            refine hO.apF τok rfl rfl (by decide) flatPrm (hS2.tr k4) q.prims g4 (by simp; omega) (by simp [maxLen]; omega) fun v9 u5 hO9 hk5 hz9 => ?_
            have k5 := k4.own hk5 hO
            have hk5 : Kp [b14] u4 u5 := hk5
            rw [List.nil_append] at hO9
            have p9_3 : ∀ g, v9.ownBlock = some g → g ≠ b3 := fun g hg => by have := hB3.lt; rcases hz9 with e | e <;> rw [e] at hg <;> simp [Value.ownBlock] at hg <;> omega
            obtain ⟨a9, c9, rfl⟩ := hO9.len
            have hO3 := hO3.kpF flatNd hk5 (fun g hg hx => p3_14 g hg (by simpa using hx))
            have hB3 := hB3.kp hk5 (by simp; omega)
            clear hO
            refine ⟨.inl k5, ?_⟩
            refine nextG τok 10 1 #[true, true, true, true, true, true, true, true, true, true, true, true, false] rfl rfl rfl (by kernel_rfl) ?_
            refine ⟨.inl k5, ?_⟩
            refine nextG τok 12 0 #[true, true, true, true, true, true, true, true, true, true, true, true, true] rfl rfl rfl (by kernel_rfl) ?_
            obtain ⟨a, c, e, hc3, hs3⟩ := hO3.denX flatNd p3_3 hl3
            injection e with e e' e''
            subst e e''
            obtain ⟨a, c, e, hc9, hs9⟩ := hO9.denX flatPrm p9_3 hl4
            injection e with e e' e''
            subst e e''
            refine stN (vs := [.slice none 0 0, .slice none 0 0, .slice a3 q.main.length c3, .int .i64 q.nat, .slice a9 q.prims.length c9]) hB3 rfl (by simp [Value.oneCell']) fun u hB3 hs hk => ?_
            have kk : Kp [] w2 u := k5.trans hk (fun x hx hl => by simp at hx; omega)
            refine ⟨.inl kk, ?_⟩
            refine doneG (by kernel_rfl) ?_
            exact ⟨(b3, .slice a3 q.main.length c3, .slice a9 q.prims.length c9), rfl, ⟨rfl, rfl, rfl, trivial⟩, kk, hB3, n3, ⟨a3, c3, rfl, hc3, hs3.mono fun b o v hv => ⟨hv.1, hv.2.1, hv.2.2.kp hk (by simpa using hv.2.1)⟩⟩, a9, c9, rfl, hc9, hs9.mono fun b o v hv => ⟨hv.1, hv.2.1, hv.2.2.kp hk (by simpa using hv.2.1)⟩⟩
        · skip
          refine new fun b3 u3 hb3 hB3 hs3 hk3 => ?_
          have n3 : w2.heap.size ≤ b3 := by have := k2.size; omega
          have d8_3 : b8 < b3 := by have := hB8.lt; omega
          have d14_3 : b14 < b3 := by have := hB14.lt; omega
          have hB8 := hB8.kp hk3 (by simp)
          have hB14 := hB14.kp hk3 (by simp)
          have k3 := k2.tr hk3
          refine ⟨.inl k3, ?_⟩
          refine nextG τok 3 3 #[true, true, true, true, true, true, true, true, true, false, false, true, false] rfl rfl rfl (by kernel_rfl) ?_
          have hO := Own.empty rNd hB8 n8
          refine hO.apF τok rfl rfl (by decide) flatNd (hS2.tr k3) q.main g3 (by simp; omega) (by simp [maxLen]; omega) fun v3 u4 hO3 hk4 hz3 => ?_
          have k4 := k3.own hk4 hO
          have hk4 : Kp [b8] u3 u4 := hk4
          rw [List.nil_append] at hO3
          have p3_14 : ∀ g, v3.ownBlock = some g → g ≠ b14 := fun g hg => by have := hB14.lt; rcases hz3 with e | e <;> rw [e] at hg <;> simp [Value.ownBlock] at hg <;> omega
          have p3_3 : ∀ g, v3.ownBlock = some g → g ≠ b3 := fun g hg => by have := hB3.lt; rcases hz3 with e | e <;> rw [e] at hg <;> simp [Value.ownBlock] at hg <;> omega
          obtain ⟨a3, c3, rfl⟩ := hO3.len
          have hB14 := hB14.kp hk4 (by simp; omega)
          have hB3 := hB3.kp hk4 (by simp; omega)
          clear hO
          refine ⟨.inl k4, ?_⟩
          refine nextG τok 9 2 #[true, true, true, true, true, true, true, true, true, true, false, true, false] rfl rfl rfl (by kernel_rfl) ?_
          have hO := Own.empty rPrm hB14 n14
          refine hO.apF τok rfl rfl (by decide) flatPrm (hS2.tr k4) q.prims g4 (by simp; omega) (by simp [maxLen]; omega) fun v9 u5 hO9 hk5 hz9 => ?_
          have k5 := k4.own hk5 hO
          have hk5 : Kp [b14] u4 u5 := hk5
          rw [List.nil_append] at hO9
          have p9_3 : ∀ g, v9.ownBlock = some g → g ≠ b3 := fun g hg => by have := hB3.lt; rcases hz9 with e | e <;> rw [e] at hg <;> simp [Value.ownBlock] at hg <;> omega
          obtain ⟨a9, c9, rfl⟩ := hO9.len
          have hO3 := hO3.kpF flatNd hk5 (fun g hg hx => p3_14 g hg (by simpa using hx))
          have hB3 := hB3.kp hk5 (by simp; omega)
          clear hO
          refine ⟨.inl k5, ?_⟩
          refine nextG τok 10 1 #[true, true, true, true, true, true, true, true, true, true, true, true, false] rfl rfl rfl (by kernel_rfl) ?_
          refine ⟨.inl k5, ?_⟩
          refine nextG τok 12 0 #[true, true, true, true, true, true, true, true, true, true, true, true, true] rfl rfl rfl (by kernel_rfl) ?_
          obtain ⟨a, c, e, hc3, hs3⟩ := hO3.denX flatNd p3_3 hl3
          injection e with e e' e''
          subst e e''
          obtain ⟨a, c, e, hc9, hs9⟩ := hO9.denX flatPrm p9_3 hl4
          injection e with e e' e''
          subst e e''
          refine stN (vs := [.slice none 0 0, .slice none 0 0, .slice a3 q.main.length c3, .int .i64 q.nat, .slice a9 q.prims.length c9]) hB3 rfl (by simp [Value.oneCell']) fun u hB3 hs hk => ?_
          have kk : Kp [] w2 u := k5.trans hk (fun x hx hl => by simp at hx; omega)
          refine ⟨.inl kk, ?_⟩
          refine doneG (by kernel_rfl) ?_
          exact ⟨(b3, .slice a3 q.main.length c3, .slice a9 q.prims.length c9), rfl, ⟨rfl, rfl, rfl, trivial⟩, kk, hB3, n3, ⟨a3, c3, rfl, hc3, hs3.mono fun b o v hv => ⟨hv.1, hv.2.1, hv.2.2.kp hk (by simpa using hv.2.1)⟩⟩, a9, c9, rfl, hc9, hs9.mono fun b o v hv => ⟨hv.1, hv.2.1, hv.2.2.kp hk (by simpa using hv.2.1)⟩⟩
      · skip
        refine new fun b3 u2 hb3 hB3 hs2 hk2 => ?_
        have n3 : w2.heap.size ≤ b3 := by have := k1.size; omega
        have d8_3 : b8 < b3 := by have := hB8.lt; omega
        have hB8 := hB8.kp hk2 (by simp)
        have k2 := k1.tr hk2
        refine ⟨.inl k2, ?_⟩
        refine twoG τok 3 6 4 #[true, true, true, true, true, true, false, true, true, false, false, true, false] #[true, true, true, false, true, true, true, true, true, false, false, true, false] rfl rfl rfl rfl rfl (by kernel_rfl) ?_ ?_
        · skip
          have hO := Own.empty rNd hB8 n8
          refine hO.apF τok rfl rfl (by decide) flatNd (hS2.tr k2) q.main g3 (by simp; omega) (by simp [maxLen]; omega) fun v3 u3 hO3 hk3 hz3 => ?_
          have k3 := k2.own hk3 hO
          have hk3 : Kp [b8] u2 u3 := hk3
          rw [List.nil_append] at hO3
          have p3_3 : ∀ g, v3.ownBlock = some g → g ≠ b3 := fun g hg => by have := hB3.lt; rcases hz3 with e | e <;> rw [e] at hg <;> simp [Value.ownBlock] at hg <;> omega
          obtain ⟨a3, c3, rfl⟩ := hO3.len
          have hB3 := hB3.kp hk3 (by simp; omega)
          clear hO
          refine ⟨.inl k3, ?_⟩
          refine nextG τok 6 3 #[true, true, true, true, true, true, true, true, true, false, false, true, false] rfl rfl rfl (by kernel_rfl) ?_
          refine fill [] rfl ?_
          refine new fun b14 u4 hb14 hB14 hs4 hk4 => ?_
          have n14 : w2.heap.size ≤ b14 := by have := k3.size; omega
          have d3_14 : b3 < b14 := by have := hB3.lt; omega
          have hB3 := hB3.kp hk4 (by simp)
          have p3_14 : ∀ g, (Value.slice a3 q.main.length c3).ownBlock = some g → g ≠ b14 := fun g hg e => absurd (hO3.block g hg).2 (by rw [e, hb14]; exact Nat.lt_irrefl _)
          have hO3 := hO3.kp hk4
          have k4 := k3.tr hk4
          refine ⟨.inl k4, ?_⟩
          refine nextG τok 9 2 #[true, true, true, true, true, true, true, true, true, true, false, true, false] rfl rfl rfl (by kernel_rfl) ?_
          have hO := Own.empty rPrm hB14 n14
          refine hO.apF τok rfl rfl (by decide) flatPrm (hS2.tr k4) q.prims g4 (by simp; omega) (by simp [maxLen]; omega) fun v9 u5 hO9 hk5 hz9 => ?_
          have k5 := k4.own hk5 hO
          have hk5 : Kp [b14] u4 u5 := hk5
          rw [List.nil_append] at hO9
          have p9_3 : ∀ g, v9.ownBlock = some g → g ≠ b3 := fun g hg => by have := hB3.lt; rcases hz9 with e | e <;> rw [e] at hg <;> simp [Value.ownBlock] at hg <;> omega
          obtain ⟨a9, c9, rfl⟩ := hO9.len
          have hO3 := hO3.kpF flatNd hk5 (fun g hg hx => p3_14 g hg (by simpa using hx))
          have hB3 := hB3.kp hk5 (by simp; omega)
          clear hO
          refine ⟨.inl k5, ?_⟩
          refine nextG τok 10 1 #[true, true, true, true, true, true, true, true, true, true, true, true, false] rfl rfl rfl (by kernel_rfl) ?_
          refine ⟨.inl k5, ?_⟩
          refine nextG τok 12 0 #[true, true, true, true, true, true, true, true, true, true, true, true, true] rfl rfl rfl (by kernel_rfl) ?_
          obtain ⟨a, c, e, hc3, hs3⟩ := hO3.denX flatNd p3_3 hl3
          injection e with e e' e''
          subst e e''
          obtain ⟨a, c, e, hc9, hs9⟩ := hO9.denX flatPrm p9_3 hl4
          injection e with e e' e''
          subst e e''
          refine stN (vs := [.slice none 0 0, .slice none 0 0, .slice a3 q.main.length c3, .int .i64 q.nat, .slice a9 q.prims.length c9]) hB3 rfl (by simp [Value.oneCell']) fun u hB3 hs hk => ?_
          have kk : Kp [] w2 u := k5.trans hk (fun x hx hl => by simp at hx; omega)
          refine ⟨.inl kk, ?_⟩
          refine doneG (by kernel_rfl) ?_
          exact ⟨(b3, .slice a3 q.main.length c3, .slice a9 q.prims.length c9), rfl, ⟨rfl, rfl, rfl, trivial⟩, kk, hB3, n3, ⟨a3, c3, rfl, hc3, hs3.mono fun b o v hv => ⟨hv.1, hv.2.1, hv.2.2.kp hk (by simpa using hv.2.1)⟩⟩, a9, c9, rfl, hc9, hs9.mono fun b o v hv => ⟨hv.1, hv.2.1, hv.2.2.kp hk (by simpa using hv.2.1)⟩⟩
        · skip
          refine fill [] rfl ?_
          refine new fun b14 u3 hb14 hB14 hs3 hk3 => ?_
          have n14 : w2.heap.size ≤ b14 := by have := k2.size; omega
          have d8_14 : b8 < b14 := by have := hB8.lt; omega
          have d3_14 : b3 < b14 := by have := hB3.lt; omega
          have hB8 := hB8.kp hk3 (by simp)
          have hB3 := hB3.kp hk3 (by simp)
          have k3 := k2.tr hk3
          refine ⟨.inl k3, ?_⟩
          refine nextG τok 3 3 #[true, true, true, true, true, true, true, true, true, false, false, true, false] rfl rfl rfl (by kernel_rfl) ?_
          have hO := Own.empty rNd hB8 n8
          refine hO.apF τok rfl rfl (by decide) flatNd (hS2.tr k3) q.main g3 (by simp; omega) (by simp [maxLen]; omega) fun v3 u4 hO3 hk4 hz3 => ?_
          have k4 := k3.own hk4 hO
          have hk4 : Kp [b8] u3 u4 := hk4
          rw [List.nil_append] at hO3
          have p3_3 : ∀ g, v3.ownBlock = some g → g ≠ b3 := fun g hg => by have := hB3.lt; rcases hz3 with e | e <;> rw [e] at hg <;> simp [Value.ownBlock] at hg <;> omega
          have p3_14 : ∀ g, v3.ownBlock = some g → g ≠ b14 := fun g hg => by have := hB14.lt; rcases hz3 with e | e <;> rw [e] at hg <;> simp [Value.ownBlock] at hg <;> omega
          obtain ⟨a3, c3, rfl⟩ := hO3.len
          have hB3 := hB3.kp hk4 (by simp; omega)
          have hB14 := hB14.kp hk4 (by simp; omega)
          clear hO
          refine ⟨.inl k4, ?_⟩
          refine nextG τok 9 2 #[true, true, true, true, true, true, true, true, true, true, false, true, false] rfl rfl rfl (by kernel_rfl) ?_
          have hO := Own.empty rPrm hB14 n14
          refine hO.apF τok rfl rfl (by decide) flatPrm (hS2.tr k4) q.prims g4 (by simp; omega) (by simp [maxLen]; omega) fun v9 u5 hO9 hk5 hz9 => ?_
          have k5 := k4.own hk5 hO
          have hk5 : Kp [b14] u4 u5 := hk5
          rw [List.nil_append] at hO9
          have p9_3 : ∀ g, v9.ownBlock = some g → g ≠ b3 := fun g hg => by have := hB3.lt; rcases hz9 with e | e <;> rw [e] at hg <;> simp [Value.ownBlock] at hg <;> omega
          obtain ⟨a9, c9, rfl⟩ := hO9.len
          have hO3 := hO3.kpF flatNd hk5 (fun g hg hx => p3_14 g hg (by simpa using hx))
          have hB3 := hB3.kp hk5 (by simp; omega)
          clear hO
          refine ⟨.inl k5, ?_⟩
          refine nextG τok 10 1 #[true, true, true, true, true, true, true, true, true, true, true, true, false] rfl rfl rfl (by kernel_rfl) ?_
          refine ⟨.inl k5, ?_⟩
          refine nextG τok 12 0 #[true, true, true, true, true, true, true, true, true, true, true, true, true] rfl rfl rfl (by kernel_rfl) ?_
          obtain ⟨a, c, e, hc3, hs3⟩ := hO3.denX flatNd p3_3 hl3
          injection e with e e' e''
          subst e e''
          obtain ⟨a, c, e, hc9, hs9⟩ := hO9.denX flatPrm p9_3 hl4
          injection e with e e' e''
          subst e e''
          refine stN (vs := [.slice none 0 0, .slice none 0 0, .slice a3 q.main.length c3, .int .i64 q.nat, .slice a9 q.prims.length c9]) hB3 rfl (by simp [Value.oneCell']) fun u hB3 hs hk => ?_
          have kk : Kp [] w2 u := k5.trans hk (fun x hx hl => by simp at hx; omega)
          refine ⟨.inl kk, ?_⟩
          refine doneG (by kernel_rfl) ?_
          exact ⟨(b3, .slice a3 q.main.length c3, .slice a9 q.prims.length c9), rfl, ⟨rfl, rfl, rfl, trivial⟩, kk, hB3, n3, ⟨a3, c3, rfl, hc3, hs3.mono fun b o v hv => ⟨hv.1, hv.2.1, hv.2.2.kp hk (by simpa using hv.2.1)⟩⟩, a9, c9, rfl, hc9, hs9.mono fun b o v hv => ⟨hv.1, hv.2.1, hv.2.2.kp hk (by simpa using hv.2.1)⟩⟩
    · skip
      refine fill [] rfl ?_
      refine new fun b14 u1 hb14 hB14 hs1 hk1 => ?_
      have n14 : w2.heap.size ≤ b14 := by have := k0.size; omega
      have k1 := k0.tr hk1
      refine ⟨.inl k1, ?_⟩
      refine twoG τok 0 11 5 #[true, true, true, false, true, true, true, true, true, false, false, false, false] #[false, true, true, false, true, true, true, true, true, false, false, true, false] rfl rfl rfl rfl rfl (by kernel_rfl) ?_ ?_
      · skip
        refine fill [] rfl ?_
        refine new fun b8 u2 hb8 hB8 hs2 hk2 => ?_
        have n8 : w2.heap.size ≤ b8 := by have := k1.size; omega
        have d14_8 : b14 < b8 := by have := hB14.lt; omega
        have hB14 := hB14.kp hk2 (by simp)
        have k2 := k1.tr hk2
        refine ⟨.inl k2, ?_⟩
        refine twoG τok 3 11 4 #[true, true, true, true, true, true, true, true, true, false, false, false, false] #[true, true, true, false, true, true, true, true, true, false, false, true, false] rfl rfl rfl rfl rfl (by kernel_rfl) ?_ ?_
        · skip
          have hO := Own.empty rNd hB8 n8
          refine hO.apF τok rfl rfl (by decide) flatNd (hS2.tr k2) q.main g3 (by simp; omega) (by simp [maxLen]; omega) fun v3 u3 hO3 hk3 hz3 => ?_
          have k3 := k2.own hk3 hO
          have hk3 : Kp [b8] u2 u3 := hk3
          rw [List.nil_append] at hO3
          have p3_14 : ∀ g, v3.ownBlock = some g → g ≠ b14 := fun g hg => by have := hB14.lt; rcases hz3 with e | e <;> rw [e] at hg <;> simp [Value.ownBlock] at hg <;> omega
          obtain ⟨a3, c3, rfl⟩ := hO3.len
          have hB14 := hB14.kp hk3 (by simp; omega)
          clear hO
          refine ⟨.inl k3, ?_⟩
          refine twoG τok 9 11 3 #[true, true, true, true, true, true, true, true, true, true, false, false, false] #[true, true, true, true, true, true, true, true, true, false, false, true, false] rfl rfl rfl rfl rfl (by kernel_rfl) ?_ ?_
          · skip
            have hO := Own.empty rPrm hB14 n14
            refine hO.apF τok rfl rfl (by decide) flatPrm (hS2.tr k3) q.prims g4 (by simp; omega) (by simp [maxLen]; omega) fun v9 u4 hO9 hk4 hz9 => ?_
            have k4 := k3.own hk4 hO
            have hk4 : Kp [b14] u3 u4 := hk4
            rw [List.nil_append] at hO9
            obtain ⟨a9, c9, rfl⟩ := hO9.len
            have hO3 := hO3.kpF flatNd hk4 (fun g hg hx => p3_14 g hg (by simpa using hx))
            clear hO
            refine ⟨.inl k4, ?_⟩
            refine twoG τok 10 11 2 #[true, true, true, true, true, true, true, true, true, true, true, false, false] #[true, true, true, true, true, true, true, true, true, true, false, true, false] rfl rfl rfl rfl rfl (by kernel_rfl) ?_ ?_
            · skip
              refine ⟨.inl k4, ?_⟩
              refine nextG τok 11 1 #[true, true, true, true, true, true, true, true, true, true, true, true, false] rfl rfl rfl (by kernel_rfl) ?_
              refine new fun b3 u5 hb3 hB3 hs5 hk5 => ?_
              have n3 : w2.heap.size ≤ b3 := by have := k4.size; omega
              have p3_3 : ∀ g, (Value.slice a3 q.main.length c3).ownBlock = some g → g ≠ b3 := fun g hg e => absurd (hO3.block g hg).2 (by rw [e, hb3]; exact Nat.lt_irrefl _)
              have hO3 := hO3.kp hk5
              have p9_3 : ∀ g, (Value.slice a9 q.prims.length c9).ownBlock = some g → g ≠ b3 := fun g hg e => absurd (hO9.block g hg).2 (by rw [e, hb3]; exact Nat.lt_irrefl _)
              have hO9 := hO9.kp hk5
              have k5 := k4.tr hk5
              refine ⟨.inl k5, ?_⟩
              refine nextG τok 12 0 #[true, true, true, true, true, true, true, true, true, true, true, true, true] rfl rfl rfl (by kernel_rfl) ?_
              obtain ⟨a, c, e, hc3, hs3⟩ := hO3.denX flatNd p3_3 hl3
              injection e with e e' e''
              subst e e''
              obtain ⟨a, c, e, hc9, hs9⟩ := hO9.denX flatPrm p9_3 hl4
              injection e with e e' e''
              subst e e''
              refine stN (vs := [.slice none 0 0, .slice none 0 0, .slice a3 q.main.length c3, .int .i64 q.nat, .slice a9 q.prims.length c9]) hB3 rfl (by simp [Value.oneCell']) fun u hB3 hs hk => ?_
              have kk : Kp [] w2 u := k5.trans hk (fun x hx hl => by simp at hx; omega)
              refine ⟨.inl kk, ?_⟩
              refine doneG (by kernel_rfl) ?_
              exact ⟨(b3, .slice a3 q.main.length c3, .slice a9 q.prims.length c9), rfl, ⟨rfl, rfl, rfl, trivial⟩, kk, hB3, n3, ⟨a3, c3, rfl, hc3, hs3.mono fun b o v hv => ⟨hv.1, hv.2.1, hv.2.2.kp hk (by simpa using hv.2.1)⟩⟩, a9, c9, rfl, hc9, hs9.mono fun b o v hv => ⟨hv.1, hv.2.1, hv.2.2.kp hk (by simpa using hv.2.1)⟩⟩
            · skip
              refine new fun b3 u5 hb3 hB3 hs5 hk5 => ?_
              have n3 : w2.heap.size ≤ b3 := by have := k4.size; omega
              have p3_3 : ∀ g, (Value.slice a3 q.main.length c3).ownBlock = some g → g ≠ b3 := fun g hg e => absurd (hO3.block g hg).2 (by rw [e, hb3]; exact Nat.lt_irrefl _)
              have hO3 := hO3.kp hk5
              have p9_3 : ∀ g, (Value.slice a9 q.prims.length c9).ownBlock = some g → g ≠ b3 := fun g hg e => absurd (hO9.block g hg).2 (by rw [e, hb3]; exact Nat.lt_irrefl _)
              have hO9 := hO9.kp hk5
              have k5 := k4.tr hk5
              refine ⟨.inl k5, ?_⟩
              refine nextG τok 10 1 #[true, true, true, true, true, true, true, true, true, true, true, true, false] rfl rfl rfl (by kernel_rfl) ?_
              refine ⟨.inl k5, ?_⟩
              refine nextG τok 12 0 #[true, true, true, true, true, true, true, true, true, true, true, true, true] rfl rfl rfl (by kernel_rfl) ?_
              obtain ⟨a, c, e, hc3, hs3⟩ := hO3.denX flatNd p3_3 hl3
              injection e with e e' e''
              subst e e''
              obtain ⟨a, c, e, hc9, hs9⟩ := hO9.denX flatPrm p9_3 hl4
              injection e with e e' e''
              subst e e''
              refine stN (vs := [.slice none 0 0, .slice none 0 0, .slice a3 q.main.length c3, .int .i64 q.nat, .slice a9 q.prims.length c9]) hB3 rfl (by simp [Value.oneCell']) fun u hB3 hs hk => ?_
              have kk : Kp [] w2 u := k5.trans hk (fun x hx hl => by simp at hx; omega)
              refine ⟨.inl kk, ?_⟩
              refine doneG (by kernel_rfl) ?_
              exact ⟨(b3, .slice a3 q.main.length c3, .slice a9 q.prims.length c9), rfl, ⟨rfl, rfl, rfl, trivial⟩, kk, hB3, n3, ⟨a3, c3, rfl, hc3, hs3.mono fun b o v hv => ⟨hv.1, hv.2.1, hv.2.2.kp hk (by simpa using hv.2.1)⟩⟩, a9, c9, rfl, hc9, hs9.mono fun b o v hv => ⟨hv.1, hv.2.1, hv.2.2.kp hk (by simpa using hv.2.1)⟩⟩
          · skip
            refine new fun b3 u4 hb3 hB3 hs4 hk4 => ?_
            have n3 : w2.heap.size ≤ b3 := by have := k3.size; omega
            have d14_3 : b14 < b3 := by have := hB14.lt; omega
            have hB14 := hB14.kp hk4 (by simp)
            have p3_3 : ∀ g, (Value.slice a3 q.main.length c3).ownBlock = some g → g ≠ b3 := fun g hg e => absurd (hO3.block g hg).2 (by rw [e, hb3]; exact Nat.lt_irrefl _)
            have hO3 := hO3.kp hk4
            have k4 := k3.tr hk4
            refine ⟨.inl k4, ?_⟩
            refine nextG τok 9 2 #[true, true, true, true, true, true, true, true, true, true, false, true, false] rfl rfl rfl (by kernel_rfl) ?_
            have hO := Own.empty rPrm hB14 n14
            refine hO.apF τok rfl rfl (by decide) flatPrm (hS2.tr k4) q.prims g4 (by simp; omega) (by simp [maxLen]; omega) fun v9 u5 hO9 hk5 hz9 => ?_
            have k5 := k4.own hk5 hO
            have hk5 : Kp [b14] u4 u5 := hk5
            rw [List.nil_append] at hO9
            have p9_3 : ∀ g, v9.ownBlock = some g → g ≠ b3 := fun g hg => by have := hB3.lt; rcases hz9 with e | e <;> rw [e] at hg <;> simp [Value.ownBlock] at hg <;> omega
            obtain ⟨a9, c9, rfl⟩ := hO9.len
            have hO3 := hO3.kpF flatNd hk5 (fun g hg hx => p3_14 g hg (by simpa using hx))
            have hB3 := hB3.kp hk5 (by simp; omega)
            clear hO
            refine ⟨.inl k5, ?_⟩
            refine nextG τok 10 1 #[true, true, true, true, true, true, true, true, true, true, true, true, false] rfl rfl rfl (by kernel_rfl) ?_
            refine ⟨.inl k5, ?_⟩
            refine nextG τok 12 0 #[true, true, true, true, true, true, true, true, true, true, true, true, true] rfl rfl rfl (by kernel_rfl) ?_
            obtain ⟨a, c, e, hc3, hs3⟩ := hO3.denX flatNd p3_3 hl3
            injection e with e e' e''
            subst e e''
            obtain ⟨a, c, e, hc9, hs9⟩ := hO9.denX flatPrm p9_3 hl4
            injection e with e e' e''
            subst e e''
            refine stN (vs := [.slice none 0 0, .slice none 0 0, .slice a3 q.main.length c3, .int .i64 q.nat, .slice a9 q.prims.length c9]) hB3 rfl (by simp [Value.oneCell']) fun u hB3 hs hk => ?_
            have kk : Kp [] w2 u := k5.trans hk (fun x hx hl => by simp at hx; omega)
            refine ⟨.inl kk, ?_⟩
            refine doneG (by kernel_rfl) ?_
            exact ⟨(b3, .slice a3 q.main.length c3, .slice a9 q.prims.length c9), rfl, ⟨rfl, rfl, rfl, trivial⟩, kk, hB3, n3, ⟨a3, c3, rfl, hc3, hs3.mono fun b o v hv => ⟨hv.1, hv.2.1, hv.2.2.kp hk (by simpa using hv.2.1)⟩⟩, a9, c9, rfl, hc9, hs9.mono fun b o v hv => ⟨hv.1, hv.2.1, hv.2.2.kp hk (by simpa using hv.2.1)⟩⟩
        · skip
          refine new fun b3 u3 hb3 hB3 hs3 hk3 => ?_
          have n3 : w2.heap.size ≤ b3 := by have := k2.size; omega
          have d14_3 : b14 < b3 := by have := hB14.lt; omega
          have d8_3 : b8 < b3 := by have := hB8.lt; omega
          have hB14 := hB14.kp hk3 (by simp)
          have hB8 := hB8.kp hk3 (by simp)
          have k3 := k2.tr hk3
          refine ⟨.inl k3, ?_⟩
          refine nextG τok 3 3 #[true, true, true, true, true, true, true, true, true, false, false, true, false] rfl rfl rfl (by kernel_rfl) ?_
          have hO := Own.empty rNd hB8 n8
          refine hO.apF τok rfl rfl (by decide) flatNd (hS2.tr k3) q.main g3 (by simp; omega) (by simp [maxLen]; omega) fun v3 u4 hO3 hk4 hz3 => ?_
          have k4 := k3.own hk4 hO
          have hk4 : Kp [b8] u3 u4 := hk4
          rw [List.nil_append] at hO3
          have p3_14 : ∀ g, v3.ownBlock = some g → g ≠ b14 := fun g hg => by have := hB14.lt; rcases hz3 with e | e <;> rw [e] at hg <;> simp [Value.ownBlock] at hg <;> omega
          have p3_3 : ∀ g, v3.ownBlock = some g → g ≠ b3 := fun g hg => by have := hB3.lt; rcases hz3 with e | e <;> rw [e] at hg <;> simp [Value.ownBlock] at hg <;> omega
          obtain ⟨a3, c3, rfl⟩ := hO3.len
          have hB14 := hB14.kp hk4 (by simp; omega)
          have hB3 := hB3.kp hk4 (by simp; omega)
          clear hO
          refine ⟨.inl k4, ?_⟩
          refine nextG τok 9 2 #[true, true, true, true, true, true, true, true, true, true, false, true, false] rfl rfl rfl (by kernel_rfl) ?_
          have hO := Own.empty rPrm hB14 n14
          refine hO.apF τok rfl rfl (by decide) flatPrm (hS2.tr k4) q.prims g4 (by simp; omega) (by simp [maxLen]; omega) fun v9 u5 hO9 hk5 hz9 => ?_
          have k5 := k4.own hk5 hO
          have hk5 : Kp [b14] u4 u5 := hk5
          rw [List.nil_append] at hO9
          have p9_3 : ∀ g, v9.ownBlock = some g → g ≠ b3 := fun g hg => by have := hB3.lt; rcases hz9 with e | e <;> rw [e] at hg <;> simp [Value.ownBlock] at hg <;> omega
          obtain ⟨a9, c9, rfl⟩ := hO9.len
          have hO3 := hO3.kpF flatNd hk5 (fun g hg hx => p3_14 g hg (by simpa using hx))
          have hB3 := hB3.kp hk5 (by simp; omega)
          clear hO
          refine ⟨.inl k5, ?_⟩
          refine nextG τok 10 1 #[true, true, true, true, true, true, true, true, true, true, true, true, false] rfl rfl rfl (by kernel_rfl) ?_
          refine ⟨.inl k5, ?_⟩
          refine nextG τok 12 0 #[true, true, true, true, true, true, true, true, true, true, true, true, true] rfl rfl rfl (by kernel_rfl) ?_
          obtain ⟨a, c, e, hc3, hs3⟩ := hO3.denX flatNd p3_3 hl3
          injection e with e e' e''
          subst e e''
          obtain ⟨a, c, e, hc9, hs9⟩ := hO9.denX flatPrm p9_3 hl4
          injection e with e e' e''
          subst e e''
          refine stN (vs := [.slice none 0 0, .slice none 0 0, .slice a3 q.main.length c3, .int .i64 q.nat, .slice a9 q.prims.length c9]) hB3 rfl (by simp [Value.oneCell']) fun u hB3 hs hk => ?_
          have kk : Kp [] w2 u := k5.trans hk (fun x hx hl => by simp at hx; omega)
          refine ⟨.inl kk, ?_⟩
          refine doneG (by kernel_rfl) ?_
          exact ⟨(b3, .slice a3 q.main.length c3, .slice a9 q.prims.length c9), rfl, ⟨rfl, rfl, rfl, trivial⟩, kk, hB3, n3, ⟨a3, c3, rfl, hc3, hs3.mono fun b o v hv => ⟨hv.1, hv.2.1, hv.2.2.kp hk (by simpa using hv.2.1)⟩⟩, a9, c9, rfl, hc9, hs9.mono fun b o v hv => ⟨hv.1, hv.2.1, hv.2.2.kp hk (by simpa using hv.2.1)⟩⟩
      · skip
        refine new fun b3 u2 hb3 hB3 hs2 hk2 => ?_
        have n3 : w2.heap.size ≤ b3 := by have := k1.size; omega
        have d14_3 : b14 < b3 := by have := hB14.lt; omega
        have hB14 := hB14.kp hk2 (by simp)
        have k2 := k1.tr hk2
        refine ⟨.inl k2, ?_⟩
        refine nextG τok 0 4 #[true, true, true, false, true, true, true, true, true, false, false, true, false] rfl rfl rfl (by kernel_rfl) ?_
        refine fill [] rfl ?_
        refine new fun b8 u3 hb8 hB8 hs3 hk3 => ?_
        have n8 : w2.heap.size ≤ b8 := by have := k2.size; omega
        have d14_8 : b14 < b8 := by have := hB14.lt; omega
        have d3_8 : b3 < b8 := by have := hB3.lt; omega
        have hB14 := hB14.kp hk3 (by simp)
        have hB3 := hB3.kp hk3 (by simp)
        have k3 := k2.tr hk3
        refine ⟨.inl k3, ?_⟩
        refine nextG τok 3 3 #[true, true, true, true, true, true, true, true, true, false, false, true, false] rfl rfl rfl (by kernel_rfl) ?_
        have hO := Own.empty rNd hB8 n8
        refine hO.apF τok rfl rfl (by decide) flatNd (hS2.tr k3) q.main g3 (by simp; omega) (by simp [maxLen]; omega) fun v3 u4 hO3 hk4 hz3 => ?_
        have k4 := k3.own hk4 hO
        have hk4 : Kp [b8] u3 u4 := hk4
        rw [List.nil_append] at hO3
        have p3_14 : ∀ g, v3.ownBlock = some g → g ≠ b14 := fun g hg => by have := hB14.lt; rcases hz3 with e | e <;> rw [e] at hg <;> simp [Value.ownBlock] at hg <;> omega
        have p3_3 : ∀ g, v3.ownBlock = some g → g ≠ b3 := fun g hg => by have := hB3.lt; rcases hz3 with e | e <;> rw [e] at hg <;> simp [Value.ownBlock] at hg <;> omega
        obtain ⟨a3, c3, rfl⟩ := hO3.len
        have hB14 := hB14.kp hk4 (by simp; omega)
        have hB3 := hB3.kp hk4 (by simp; omega)
        clear hO
        refine ⟨.inl k4, ?_⟩
        refine nextG τok 9 2 #[true, true, true, true, true, true, true, true, true, true, false, true, false] rfl rfl rfl (by kernel_rfl) ?_
        have hO := Own.empty rPrm hB14 n14
        refine hO.apF τok rfl rfl (by decide) flatPrm (hS2.tr k4) q.prims g4 (by simp; omega) (by simp [maxLen]; omega) fun v9 u5 hO9 hk5 hz9 => ?_
        have k5 := k4.own hk5 hO
        have hk5 : Kp [b14] u4 u5 := hk5
        rw [List.nil_append] at hO9
        have p9_3 : ∀ g, v9.ownBlock = some g → g ≠ b3 := fun g hg => by have := hB3.lt; rcases hz9 with e | e <;> rw [e] at hg <;> simp [Value.ownBlock] at hg <;> omega
        obtain ⟨a9, c9, rfl⟩ := hO9.len
        have hO3 := hO3.kpF flatNd hk5 (fun g hg hx => p3_14 g hg (by simpa using hx))
        have hB3 := hB3.kp hk5 (by simp; omega)
        clear hO
        refine ⟨.inl k5, ?_⟩
        refine nextG τok 10 1 #[true, true, true, true, true, true, true, true, true, true, true, true, false] rfl rfl rfl (by kernel_rfl) ?_
        refine ⟨.inl k5, ?_⟩
        refine nextG τok 12 0 #[true, true, true, true, true, true, true, true, true, true, true, true, true] rfl rfl rfl (by kernel_rfl) ?_
        obtain ⟨a, c, e, hc3, hs3⟩ := hO3.denX flatNd p3_3 hl3
        injection e with e e' e''
        subst e e''
        obtain ⟨a, c, e, hc9, hs9⟩ := hO9.denX flatPrm p9_3 hl4
        injection e with e e' e''
        subst e e''
        refine stN (vs := [.slice none 0 0, .slice none 0 0, .slice a3 q.main.length c3, .int .i64 q.nat, .slice a9 q.prims.length c9]) hB3 rfl (by simp [Value.oneCell']) fun u hB3 hs hk => ?_
        have kk : Kp [] w2 u := k5.trans hk (fun x hx hl => by simp at hx; omega)
        refine ⟨.inl kk, ?_⟩
        refine doneG (by kernel_rfl) ?_
        exact ⟨(b3, .slice a3 q.main.length c3, .slice a9 q.prims.length c9), rfl, ⟨rfl, rfl, rfl, trivial⟩, kk, hB3, n3, ⟨a3, c3, rfl, hc3, hs3.mono fun b o v hv => ⟨hv.1, hv.2.1, hv.2.2.kp hk (by simpa using hv.2.1)⟩⟩, a9, c9, rfl, hc9, hs9.mono fun b o v hv => ⟨hv.1, hv.2.1, hv.2.2.kp hk (by simpa using hv.2.1)⟩⟩
    · skip
      refine new fun b3 u1 hb3 hB3 hs1 hk1 => ?_
      have n3 : w2.heap.size ≤ b3 := by have := k0.size; omega
      have k1 := k0.tr hk1
      refine ⟨.inl k1, ?_⟩
      refine twoG τok 0 6 5 #[true, true, true, false, true, true, false, true, true, false, false, true, false] #[false, true, true, false, true, true, true, true, true, false, false, true, false] rfl rfl rfl rfl rfl (by kernel_rfl) ?_ ?_
      · skip
        refine fill [] rfl ?_
        refine new fun b8 u2 hb8 hB8 hs2 hk2 => ?_
        have n8 : w2.heap.size ≤ b8 := by have := k1.size; omega
        have d3_8 : b3 < b8 := by have := hB3.lt; omega
        have hB3 := hB3.kp hk2 (by simp)
        have k2 := k1.tr hk2
        refine ⟨.inl k2, ?_⟩
        refine twoG τok 3 6 4 #[true, true, true, true, true, true, false, true, true, false, false, true, false] #[true, true, true, false, true, true, true, true, true, false, false, true, false] rfl rfl rfl rfl rfl (by kernel_rfl) ?_ ?_
        · skip
          have hO := Own.empty rNd hB8 n8
          refine hO.apF τok rfl rfl (by decide) flatNd (hS2.tr k2) q.main g3 (by simp; omega) (by simp [maxLen]; omega) fun v3 u3 hO3 hk3 hz3 => ?_
          have k3 := k2.own hk3 hO
          have hk3 : Kp [b8] u2 u3 := hk3
          rw [List.nil_append] at hO3
          have p3_3 : ∀ g, v3.ownBlock = some g → g ≠ b3 := fun g hg => by have := hB3.lt; rcases hz3 with e | e <;> rw [e] at hg <;> simp [Value.ownBlock] at hg <;> omega
          obtain ⟨a3, c3, rfl⟩ := hO3.len
          have hB3 := hB3.kp hk3 (by simp; omega)
          clear hO
          refine ⟨.inl k3, ?_⟩
          refine nextG τok 6 3 #[true, true, true, true, true, true, true, true, true, false, false, true, false] rfl rfl rfl (by kernel_rfl) ?_
          refine fill [] rfl ?_
          refine new fun b14 u4 hb14 hB14 hs4 hk4 => ?_
          have n14 : w2.heap.size ≤ b14 := by have := k3.size; omega
          have d3_14 : b3 < b14 := by have := hB3.lt; omega
          have hB3 := hB3.kp hk4 (by simp)
          have p3_14 : ∀ g, (Value.slice a3 q.main.length c3).ownBlock = some g → g ≠ b14 := fun g hg e => absurd (hO3.block g hg).2 (by rw [e, hb14]; exact Nat.lt_irrefl _)
          have hO3 := hO3.kp hk4
          have k4 := k3.tr hk4
          refine ⟨.inl k4, ?_⟩
          refine nextG τok 9 2 #[true, true, true, true, true, true, true, true, true, true, false, true, false] rfl rfl rfl (by kernel_rfl) ?_
          have hO := Own.empty rPrm hB14 n14
          refine hO.apF τok rfl rfl (by decide) flatPrm (hS2.tr k4) q.prims g4 (by simp; omega) (by simp [maxLen]; omega) fun v9 u5 hO9 hk5 hz9 => ?_
          have k5 := k4.own hk5 hO
          have hk5 : Kp [b14] u4 u5 := hk5
          rw [List.nil_append] at hO9
          have p9_3 : ∀ g, v9.ownBlock = some g → g ≠ b3 := fun g hg => by have := hB3.lt; rcases hz9 with e | e <;> rw [e] at hg <;> simp [Value.ownBlock] at hg <;> omega
          obtain ⟨a9, c9, rfl⟩ := hO9.len
          have hO3 := hO3.kpF flatNd hk5 (fun g hg hx => p3_14 g hg (by simpa using hx))
          have hB3 := hB3.kp hk5 (by simp; omega)
          clear hO
          refine ⟨.inl k5, ?_⟩
          refine nextG τok 10 1 #[true, true, true, true, true, true, true, true, true, true, true, true, false] rfl rfl rfl (by kernel_rfl) ?_
          refine ⟨.inl k5, ?_⟩
          refine nextG τok 12 0 #[true, true, true, true, true, true, true, true, true, true, true, true, true] rfl rfl rfl (by kernel_rfl) ?_
          obtain ⟨a, c, e, hc3, hs3⟩ := hO3.denX flatNd p3_3 hl3
          injection e with e e' e''
          subst e e''
          obtain ⟨a, c, e, hc9, hs9⟩ := hO9.denX flatPrm p9_3 hl4
          injection e with e e' e''
          subst e e''
          refine stN (vs := [.slice none 0 0, .slice none 0 0, .slice a3 q.main.length c3, .int .i64 q.nat, .slice a9 q.prims.length c9]) hB3 rfl (by simp [Value.oneCell']) fun u hB3 hs hk => ?_
          have kk : Kp [] w2 u := k5.trans hk (fun x hx hl => by simp at hx; omega)
          refine ⟨.inl kk, ?_⟩
          refine doneG (by kernel_rfl) ?_
          exact ⟨(b3, .slice a3 q.main.length c3, .slice a9 q.prims.length c9), rfl, ⟨rfl, rfl, rfl, trivial⟩, kk, hB3, n3, ⟨a3, c3, rfl, hc3, hs3.mono fun b o v hv => ⟨hv.1, hv.2.1, hv.2.2.kp hk (by simpa using hv.2.1)⟩⟩, a9, c9, rfl, hc9, hs9.mono fun b o v hv => ⟨hv.1, hv.2.1, hv.2.2.kp hk (by simpa using hv.2.1)⟩⟩
        · skip
          refine fill [] rfl ?_
          refine new fun b14 u3 hb14 hB14 hs3 hk3 => ?_
          have n14 : w2.heap.size ≤ b14 := by have := k2.size; omega
          have d3_14 : b3 < b14 := by have := hB3.lt; omega
          have d8_14 : b8 < b14 := by have := hB8.lt; omega
          have hB3 := hB3.kp hk3 (by simp)
          have hB8 := hB8.kp hk3 (by simp)
          have k3 := k2.tr hk3
          refine ⟨.inl k3, ?_⟩
          refine nextG τok 3 3 #[true, true, true, true, true, true, true, true, true, false, false, true, false] rfl rfl rfl (by kernel_rfl) ?_
          have hO := Own.empty rNd hB8 n8
          refine hO.apF τok rfl rfl (by decide) flatNd (hS2.tr k3) q.main g3 (by simp; omega) (by simp [maxLen]; omega) fun v3 u4 hO3 hk4 hz3 => ?_
          have k4 := k3.own hk4 hO
          have hk4 : Kp [b8] u3 u4 := hk4
          rw [List.nil_append] at hO3
          have p3_3 : ∀ g, v3.ownBlock = some g → g ≠ b3 := fun g hg => by have := hB3.lt; rcases hz3 with e | e <;> rw [e] at hg <;> simp [Value.ownBlock] at hg <;> omega
          have p3_14 : ∀ g, v3.ownBlock = some g → g ≠ b14 := fun g hg => by have := hB14.lt; rcases hz3 with e | e <;> rw [e] at hg <;> simp [Value.ownBlock] at hg <;> omega
          obtain ⟨a3, c3, rfl⟩ := hO3.len
          have hB3 := hB3.kp hk4 (by simp; omega)
          have hB14 := hB14.kp hk4 (by simp; omega)
          clear hO
          refine ⟨.inl k4, ?_⟩
          refine nextG τok 9 2 #[true, true, true, true, true, true, true, true, true, true, false, true, false] rfl rfl rfl (by kernel_rfl) ?_
          have hO := Own.empty rPrm hB14 n14
          refine hO.apF τok rfl rfl (by decide) flatPrm (hS2.tr k4) q.prims g4 (by simp; omega) (by simp [maxLen]; omega) fun v9 u5 hO9 hk5 hz9 => ?_
          have k5 := k4.own hk5 hO
          have hk5 : Kp [b14] u4 u5 := hk5
          rw [List.nil_append] at hO9
          have p9_3 : ∀ g, v9.ownBlock = some g → g ≠ b3 := fun g hg => by have := hB3.lt; rcases hz9 with e | e <;> rw [e] at hg <;> simp [Value.ownBlock] at hg <;> omega
          obtain ⟨a9, c9, rfl⟩ := hO9.len
          have hO3 := hO3.kpF flatNd hk5 (fun g hg hx => p3_14 g hg (by simpa using hx))
          have hB3 := hB3.kp hk5 (by simp; omega)
          clear hO
          refine ⟨.inl k5, ?_⟩
          refine nextG τok 10 1 #[true, true, true, true, true, true, true, true, true, true, true, true, false] rfl rfl rfl (by kernel_rfl) ?_
          refine ⟨.inl k5, ?_⟩
          refine nextG τok 12 0 #[true, true, true, true, true, true, true, true, true, true, true, true, true] rfl rfl rfl (by kernel_rfl) ?_
          obtain ⟨a, c, e, hc3, hs3⟩ := hO3.denX flatNd p3_3 hl3
          injection e with e e' e''
          subst e e''
          obtain ⟨a, c, e, hc9, hs9⟩ := hO9.denX flatPrm p9_3 hl4
          injection e with e e' e''
          subst e e''
          refine stN (vs := [.slice none 0 0, .slice none 0 0, .slice a3 q.main.length c3, .int .i64 q.nat, .slice a9 q.prims.length c9]) hB3 rfl (by simp [Value.oneCell']) fun u hB3 hs hk => ?_
          have kk : Kp [] w2 u := k5.trans hk (fun x hx hl => by simp at hx; omega)
          refine ⟨.inl kk, ?_⟩
          refine doneG (by kernel_rfl) ?_
          exact ⟨(b3, .slice a3 q.main.length c3, .slice a9 q.prims.length c9), rfl, ⟨rfl, rfl, rfl, trivial⟩, kk, hB3, n3, ⟨a3, c3, rfl, hc3, hs3.mono fun b o v hv => ⟨hv.1, hv.2.1, hv.2.2.kp hk (by simpa using hv.2.1)⟩⟩, a9, c9, rfl, hc9, hs9.mono fun b o v hv => ⟨hv.1, hv.2.1, hv.2.2.kp hk (by simpa using hv.2.1)⟩⟩
      · skip
        refine fill [] rfl ?_
        refine new fun b14 u2 hb14 hB14 hs2 hk2 => ?_
        have n14 : w2.heap.size ≤ b14 := by have := k1.size; omega
        have d3_14 : b3 < b14 := by have := hB3.lt; omega
        have hB3 := hB3.kp hk2 (by simp)
        have k2 := k1.tr hk2
        refine ⟨.inl k2, ?_⟩
        refine nextG τok 0 4 #[true, true, true, false, true, true, true, true, true, false, false, true, false] rfl rfl rfl (by kernel_rfl) ?_
        refine fill [] rfl ?_
        refine new fun b8 u3 hb8 hB8 hs3 hk3 => ?_
        have n8 : w2.heap.size ≤ b8 := by have := k2.size; omega
        have d3_8 : b3 < b8 := by have := hB3.lt; omega
        have d14_8 : b14 < b8 := by have := hB14.lt; omega
        have hB3 := hB3.kp hk3 (by simp)
        have hB14 := hB14.kp hk3 (by simp)
        have k3 := k2.tr hk3
        refine ⟨.inl k3, ?_⟩
        refine nextG τok 3 3 #[true, true, true, true, true, true, true, true, true, false, false, true, false] rfl rfl rfl (by kernel_rfl) ?_
        have hO := Own.empty rNd hB8 n8
        refine hO.apF τok rfl rfl (by decide) flatNd (hS2.tr k3) q.main g3 (by simp; omega) (by simp [maxLen]; omega) fun v3 u4 hO3 hk4 hz3 => ?_
        have k4 := k3.own hk4 hO
        have hk4 : Kp [b8] u3 u4 := hk4
        rw [List.nil_append] at hO3
        have p3_3 : ∀ g, v3.ownBlock = some g → g ≠ b3 := fun g hg => by have := hB3.lt; rcases hz3 with e | e <;> rw [e] at hg <;> simp [Value.ownBlock] at hg <;> omega
        have p3_14 : ∀ g, v3.ownBlock = some g → g ≠ b14 := fun g hg => by have := hB14.lt; rcases hz3 with e | e <;> rw [e] at hg <;> simp [Value.ownBlock] at hg <;> omega
        obtain ⟨a3, c3, rfl⟩ := hO3.len
        have hB3 := hB3.kp hk4 (by simp; omega)
        have hB14 := hB14.kp hk4 (by simp; omega)
        clear hO
        refine ⟨.inl k4, ?_⟩
        refine nextG τok 9 2 #[true, true, true, true, true, true, true, true, true, true, false, true, false] rfl rfl rfl (by kernel_rfl) ?_
        have hO := Own.empty rPrm hB14 n14
        refine hO.apF τok rfl rfl (by decide) flatPrm (hS2.tr k4) q.prims g4 (by simp; omega) (by simp [maxLen]; omega) fun v9 u5 hO9 hk5 hz9 => ?_
        have k5 := k4.own hk5 hO
        have hk5 : Kp [b14] u4 u5 := hk5
        rw [List.nil_append] at hO9
        have p9_3 : ∀ g, v9.ownBlock = some g → g ≠ b3 := fun g hg => by have := hB3.lt; rcases hz9 with e | e <;> rw [e] at hg <;> simp [Value.ownBlock] at hg <;> omega
        obtain ⟨a9, c9, rfl⟩ := hO9.len
        have hO3 := hO3.kpF flatNd hk5 (fun g hg hx => p3_14 g hg (by simpa using hx))
        have hB3 := hB3.kp hk5 (by simp; omega)
        clear hO
        refine ⟨.inl k5, ?_⟩
        refine nextG τok 10 1 #[true, true, true, true, true, true, true, true, true, true, true, true, false] rfl rfl rfl (by kernel_rfl) ?_
        refine ⟨.inl k5, ?_⟩
        refine nextG τok 12 0 #[true, true, true, true, true, true, true, true, true, true, true, true, true] rfl rfl rfl (by kernel_rfl) ?_
        obtain ⟨a, c, e, hc3, hs3⟩ := hO3.denX flatNd p3_3 hl3
        injection e with e e' e''
        subst e e''
        obtain ⟨a, c, e, hc9, hs9⟩ := hO9.denX flatPrm p9_3 hl4
        injection e with e e' e''
        subst e e''
        refine stN (vs := [.slice none 0 0, .slice none 0 0, .slice a3 q.main.length c3, .int .i64 q.nat, .slice a9 q.prims.length c9]) hB3 rfl (by simp [Value.oneCell']) fun u hB3 hs hk => ?_
        have kk : Kp [] w2 u := k5.trans hk (fun x hx hl => by simp at hx; omega)
        refine ⟨.inl kk, ?_⟩
        refine doneG (by kernel_rfl) ?_
        exact ⟨(b3, .slice a3 q.main.length c3, .slice a9 q.prims.length c9), rfl, ⟨rfl, rfl, rfl, trivial⟩, kk, hB3, n3, ⟨a3, c3, rfl, hc3, hs3.mono fun b o v hv => ⟨hv.1, hv.2.1, hv.2.2.kp hk (by simpa using hv.2.1)⟩⟩, a9, c9, rfl, hc9, hs9.mono fun b o v hv => ⟨hv.1, hv.2.1, hv.2.2.kp hk (by simpa using hv.2.1)⟩⟩
  rintro ⟨b3, x8, x14⟩ w4 ⟨k24, hB3, n3, hmn, hpm⟩
  simp only at hB3 n3 hmn hpm
  obtain ⟨am, cm, rfl, hcm, hsm⟩ := hmn
  obtain ⟨ap, cp, rfl, hcp, hsp⟩ := hpm
  refine ev_of τok ?_
  have hB1 := hB1.kp k24 (by simp)
  have hB2 := hB2.kp k24 (by simp)
  have hk04 := hk02.tr k24
  have hb3l := hB3.lt
  have hz02 := hk02.size
  -- bodies
  refine lp τok (σ := Nat × Value) (fun p => [(1, .pointer (some ⟨b1, 0, none⟩)), (2, .pointer (some ⟨b2, 0, none⟩)), (3, .pointer (some ⟨b3, 0, none⟩)), (4, .int .i64 p.1)])
    (fun p u => p.1 ≤ q.bodies.length ∧ Kp [b3] w4 u ∧ Bk u.heap b3 [p.2, .slice none 0 0, .slice am q.main.length cm, .int .i64 q.nat, .slice ap q.prims.length cp] 33 ∧ Own (rSk rNd) 30 w4.heap.size u p.2 (q.bodies.take p.1)) (fun p => q.bodies.length - p.1) (0, .slice none 0 0) rfl
    ⟨rfl, rfl, rfl, rfl, trivial⟩ ⟨Nat.zero_le _, Kp.refl _ _, hB3, Own.nil _ _ (Nat.le_refl _)⟩ ?_
  rintro ⟨k, v0⟩ u ⟨hk, hkp, hB3, hO⟩
  simp only at hk hB3 hO
  have hB1u := hB1.kp hkp (by simp; omega)
  have k0u : Kp [] w u := hk04.trans hkp (fun x hx hl => by simp at hx; omega)
  have hSu := hS.tr k0u
  refine ld (hB1u.cl rfl).cell ?_
  refine br_dec (fun g1' => ?_) (fun g1' => ?_)
  · have hkl : k < q.bodies.length := by omega
    obtain ⟨x, hx, _⟩ := drop_get hkl
    obtain ⟨bx, ox, hax, ax, cx, hcx, _, hsx⟩ := g1.sk hx
    subst hax
    have hxl := hsx.1
    have htl : (q.bodies.take k).length = k := by simp; omega
    refine drawG τok (fun z => Bk z.heap b3 [v0, .slice none 0 0, .slice am q.main.length cm, .int .i64 q.nat, .slice ap q.prims.length cp] 33 ∧ Bk z.heap b1 [.slice (some ⟨bx, ox, none⟩) q.bodies.length e1, .slice d2 q.shapes.length e2, .slice d3 q.main.length e3, .int .i64 q.nat, .slice d4 q.prims.length e4] 33 ∧ Sub C z) ?_
    refine readsG τok [0, 1, 3, 4, 5, 6, 7] 6 #[true, true, false, true, true, true, true, true, false, false, false, false, false] rfl rfl (by kernel_rfl) (by kernel_rfl) (by kernel_rfl) ⟨hB3, hB1u, (by exact fun b o v hc => hSu b o v hc)⟩ ?_
    refine ldQ (fun z hz => hz.1.cl rfl) ?_
    refine ldQ (fun z hz => hz.2.1.cl rfl) ?_
    refine ix k rfl hkl ?_
    refine ldQ (fun z hz => hz.2.2 _ _ _ hcx) ?_
    refine nextG τok 2 5 #[true, true, true, true, true, true, true, true, false, false, false, false, false] rfl rfl rfl (by kernel_rfl) ?_
    refine fill [] rfl ?_
    refine new fun b5 u1 hb5 hB5 hs5 hk5 => ?_
    have hk5 : Kp [] u u1 := hk5.rd
    have hb5 : b5 = u.heap.size := hb5
    refine ⟨.inl ⟨hB3.kp hk5 (by simp), hB1u.kp hk5 (by simp), hSu.tr hk5⟩, ?_⟩
    refine nextG τok 8 4 #[true, true, true, true, true, true, true, true, true, false, false, false, false] rfl rfl rfl (by kernel_rfl) ?_
    have hO5 : Own rNd 47 u.heap.size u1 (.slice (some ⟨b5, 0, none⟩) 0 0) [] := Own.empty rNd hB5 (by omega)
    refine hO5.apF τok rfl rfl (by decide) flatNd (hSu.tr hk5) x hsx (by simp; omega) (by simp [maxLen]; omega) fun v6 u2 hO6 hk6 _ => ?_
    have hk02' : Kp [] u u2 := hk5.own hk6 hO5
    rw [List.nil_append] at hO6
    obtain ⟨a6, c6, hv6, hc6, hs6⟩ := hO6.denc (by omega)
    subst hv6
    refine ⟨.inl ⟨hB3.kp hk02' (by simp), hB1u.kp hk02' (by simp), hSu.tr hk02'⟩, ?_⟩
    refine nextG τok 9 3 #[true, true, true, true, true, true, true, true, true, true, false, false, false] rfl rfl rfl (by kernel_rfl) ?_
    refine fill [.slice a6 x.length c6] rfl ?_
    refine new fun b7 u3 hb7 hB7 hs7 hk7 => ?_
    have hk03 := hk02'.tr hk7
    refine ⟨.inl ⟨hB3.kp hk03 (by simp), hB1u.kp hk03 (by simp), hSu.tr hk03⟩, ?_⟩
    refine nextG τok 10 2 #[true, true, true, true, true, true, true, true, true, true, true, false, false] rfl rfl rfl (by kernel_rfl) ?_
    have hblk := hO.block
    refine (hO.kp hk03).ap1 τok rfl rfl (by decide) x [.slice a6 x.length c6] ⟨a6, c6, rfl, hc6, hs6.mono (new_dn hO hk7)⟩ (fun j t hj => by rw [Nat.zero_add]; exact hB7.cl hj) (by rw [htl]; omega) (by rw [htl]; simp only [maxLen]; omega) fun v8 u4 hO8 hk8 _ => ?_
    have hX : ∀ g ∈ v0.ownBlock.toList, w4.heap.size ≤ g := fun g hg => (hblk g (by simpa using hg)).1
    have hB34 := (hB3.kp hk03 (by simp)).kp hk8 (fun hx => by have := hX _ hx; omega)
    have hB14 := (hB1u.kp hk03 (by simp)).kp hk8 (fun hx => by have := hX _ hx; have := k24.size; omega)
    have hS4 : Sub C u4 := (hSu.tr hk03).kp hk8 fun b o v hc hx => by have := hX _ hx; have := hS.lt b o v hc; have := hk04.size; omega
    refine ⟨.inl ⟨hB34, hB14, hS4⟩, ?_⟩
    refine nextG τok 11 1 #[true, true, true, true, true, true, true, true, true, true, true, true, false] rfl rfl rfl (by kernel_rfl) ?_
    refine ⟨.inl ⟨hB34, hB14, hS4⟩, ?_⟩
    refine nextG τok 12 0 #[true, true, true, true, true, true, true, true, true, true, true, true, true] rfl rfl rfl (by kernel_rfl) ?_
    obtain ⟨aw, cw, hvw⟩ := hO8.len
    refine st hB34 (by simp) (by rw [hvw]; rfl) fun u5 hB35 hs9 hk9 => ?_
    refine ⟨.inr (by kernel_rfl), ?_⟩
    refine doneG (by kernel_rfl) ?_
    refine int64 (by (try simp only); omega) (by (try simp only); omega) ?_
    refine ⟨(k + 1, v8), by simp only; omega, rfl, ⟨rfl, rfl, rfl, rfl, trivial⟩, hkl, ((hkp.tr hk03).ownX hk8 (hO.kp hk03)).trans hk9 (fun x hx _ => hx), hB35, ?_⟩
    simp only
    rw [take_get hx]
    exact hO8.kpl hk9 (by simp; omega)
  -- shapes
  rw [List.take_of_length_le (by omega)] at hO
  obtain ⟨abd, cbd, hvb, hSb⟩ := hO.den (by omega)
  subst hvb
  have k4u := hkp
  have hB2u := hB2.kp hkp (by simp; omega)
  have huz := hkp.size
  have hz4 := k24.size
  have hb2l : b2 < w2.heap.size := by omega
  have hb1l : b1 < w2.heap.size := by omega
  clear hO g1' hk
  refine lp τok (σ := Nat × Value) (fun p => [(1, .pointer (some ⟨b1, 0, none⟩)), (2, .pointer (some ⟨b2, 0, none⟩)), (3, .pointer (some ⟨b3, 0, none⟩)), (5, .int .i64 p.1)])
    (fun p z => p.1 ≤ q.shapes.length ∧ Kp [b3] u z ∧ Bk z.heap b3 [.slice abd q.bodies.length cbd, p.2, .slice am q.main.length cm, .int .i64 q.nat, .slice ap q.prims.length cp] 33 ∧ Own rShp 60 u.heap.size z p.2 (q.shapes.take p.1)) (fun p => q.shapes.length - p.1) (0, .slice none 0 0) rfl
    ⟨rfl, rfl, rfl, rfl, trivial⟩ ⟨Nat.zero_le _, Kp.refl _ _, hB3, Own.nil _ _ (Nat.le_refl _)⟩ ?_
  rintro ⟨k, vs⟩ w6 ⟨hk, hkp, hB3, hO⟩
  simp only at hk hB3 hO
  have hB1 := hB1u.kp hkp (by simp; omega)
  have hB2 := hB2u.kp hkp (by simp; omega)
  have k06 : Kp [] w w6 := k0u.trans hkp (fun x hx hl => by simp at hx; omega)
  have hB16 := hB1
  refine ld (hB1.cl rfl).cell ?_
  refine br_dec (fun g1 => ?_) (fun g1 => ?_)
  · have hlt : k < q.shapes.length := by omega
    obtain ⟨s, hs, hd⟩ := drop_get hlt
    obtain ⟨b, o, rfl, ak, ck, hkept, hp64, hcp, hck⟩ := sl_shp g2 hs
    have hkl := hkept.1
    have q0 : ∀ {t}, Kp [] w t → Cl t.heap b (o + k * 2) (.int .i64 s.params) := fun k => (hS.tr k) _ _ _ hcp
    have q1 : ∀ {t}, Kp [] w t → Cl t.heap b (o + k * 2 + 1) (.slice ak s.kept.length ck) := fun k => (hS.tr k) _ _ _ hck
    refine ld (hB1.cl rfl).cell ?_
    refine ix k rfl hlt ?_
    refine ld (q0 k06).cell ?_
    refine new fun b6 w7 hb6 hB6 hs7 hk7 => ?_
    refine stN (vs := [.int .i64 s.params, .slice none 0 0]) hB6 rfl (by simp [Value.oneCell']) fun w8 hB6 hs8 hk8 => ?_
    have k68 : Kp [] w6 w8 := hk7.newSt hb6 hk8
    have hb6l := hB6.lt
    refine lp τok (σ := Nat × Value) (fun q => [(1, .pointer (some ⟨b1, 0, none⟩)), (2, .pointer (some ⟨b2, 0, none⟩)), (3, .pointer (some ⟨b3, 0, none⟩)), (5, .int .i64 k), (6, .pointer (some ⟨b6, 0, none⟩)), (7, .int .i64 q.1)])
      (fun q w' => q.1 ≤ s.kept.length ∧ Kp [] w6 w' ∧ Bk w'.heap b6 [.int .i64 s.params, q.2] 60 ∧ Own (rSl rBool) 61 w8.heap.size w' q.2 (s.kept.take q.1)) (fun q => s.kept.length - q.1) (0, .slice none 0 0) rfl
      ⟨rfl, rfl, rfl, rfl, rfl, rfl, trivial⟩ ⟨Nat.zero_le _, k68, hB6, by simpa using Own.nil (rSl rBool) 61 (Nat.le_refl _)⟩ ?_
    rintro ⟨j, v⟩ w9 ⟨hj, k69, hB6, hOk⟩
    simp only at hj hB6 hOk
    have hB1 := hB1.kp k69 (by simp)
    have k09 := k06.tr k69
    refine ld (hB1.cl rfl).cell ?_
    refine ix k rfl hlt ?_
    refine ld (q1 k09).cell ?_
    refine br_dec (fun g2 => ?_) (fun g2 => ?_)
    · have hltj : j < s.kept.length := by omega
      obtain ⟨x, hx, _⟩ := drop_get hltj
      obtain ⟨bt, ot, rfl, ax, cx, hcell, hsx⟩ := hkept.sl hx
      have hxl := hsx.1
      refine drawG τok (fun w' => Kp [] w9 w' ∨ (Kp [] w6 w' ∧ Bk w'.heap b6 [.int .i64 s.params, v] 60)) ?_
      refine readsG τok [0, 1, 3, 4, 5, 6, 7, 8, 9, 10, 11] 6 #[true, true, false, true, true, true, true, true, true, true, true, true, false, false, false, false, false] rfl rfl (by kernel_rfl) (by kernel_rfl) (by kernel_rfl) (.inl ((Kp.refl _ _).dr _)) ?_
      have e6 : ∀ t, (Kp [] w9 t ∨ (Kp [] w6 t ∧ Bk t.heap b6 [.int .i64 s.params, v] 60)) → Kp [] w6 t ∧ Bk t.heap b6 [.int .i64 s.params, v] 60 := fun t h => by
        rcases h with h | h
        · exact ⟨k69.tr h, hB6.kp h (by simp)⟩
        · exact h
      refine ldQ (fun w' h => (e6 w' h).2.cl rfl) ?_
      refine ldQ (fun w' h => (hB16.kp (e6 w' h).1 (by simp)).cl rfl) ?_
      refine ix k rfl hlt ?_
      refine ldQ (fun w' h => q1 (k06.tr (e6 w' h).1)) ?_
      refine ix j rfl hltj ?_
      refine ldQ (fun w' h => (hS.tr (k06.tr (e6 w' h).1)) _ _ _ hcell) ?_
      refine nextG τok 2 5 #[true, true, true, true, true, true, true, true, true, true, true, true, false, false, false, false, false] rfl rfl rfl (by kernel_rfl) ?_
      refine fill [] rfl ?_
      refine new fun b10 w10 hb10 hB10 hs10 hk10 => ?_
      have hk10 : Kp [] w9 w10 := hk10.rd
      have hb10 : b10 = w9.heap.size := hb10
      refine ⟨.inl (.inl hk10), ?_⟩
      refine nextG τok 12 4 #[true, true, true, true, true, true, true, true, true, true, true, true, true, false, false, false, false] rfl rfl rfl (by kernel_rfl) ?_
      have hO10 : Own rBool 4 w9.heap.size w10 (.slice (some ⟨b10, 0, none⟩) 0 0) [] := Own.empty rBool hB10 (by omega)
      refine hO10.apF τok rfl rfl Nat.one_pos flatB (hS.tr (k09.tr hk10)) x hsx (by simp; omega) (by simp [maxLen]; omega) fun v11 w11 hO11 hk11 _ => ?_
      have k911 : Kp [] w9 w11 := hk10.own hk11 hO10
      obtain ⟨a11, c11, rfl, hS11⟩ := Own.den hO11 (by simpa using hxl)
      simp only [List.nil_append] at hS11
      refine ⟨.inl (.inl k911), ?_⟩
      refine nextG τok 13 3 #[true, true, true, true, true, true, true, true, true, true, true, true, true, true, false, false, false] rfl rfl rfl (by kernel_rfl) ?_
      refine fill [.slice a11 x.length c11] rfl ?_
      refine new fun b12 w12 hb12 hB12 hs12 hk12 => ?_
      have k912 := k911.tr hk12
      refine ⟨.inl (.inl k912), ?_⟩
      refine nextG τok 14 2 #[true, true, true, true, true, true, true, true, true, true, true, true, true, true, true, false, false] rfl rfl rfl (by kernel_rfl) ?_
      have hblk := hOk.block
      have htk : s.kept.take (j + 1) = s.kept.take j ++ [x] := take_get hx
      have htl' : (s.kept.take j).length = j := by simp; omega
      refine (hOk.kp k912).ap1 τok rfl rfl (by decide) x [.slice a11 x.length c11] ⟨a11, c11, rfl, hS11.mono fun b o t hu => ⟨?_, ?_, hu.2.kp hk12 (by simp)⟩⟩ (fun j u hj => by rw [Nat.zero_add]; exact hB12.cl hj) (by rw [htl']; omega) (by rw [htl']; simp only [maxLen]; omega) fun v13 w13 hO13 hk13 hb13 => ?_
      · have := hu.1; have := hOk.low; omega
      · intro e; have := (hblk b e.symm).2; have := hu.1; omega
      have hB613 : Bk w13.heap b6 [.int .i64 s.params, v] 60 := (hB6.kp k912 (by simp)).kp hk13 (by
        intro hm
        have hm : v.ownBlock = some b6 := by simpa using hm
        have := (hblk b6 hm).1
        omega)
      have k613 : Kp [] w6 w13 := (k69.tr k912).trans hk13 (fun y hy hl => by
        have hy : v.ownBlock = some y := by simpa using hy
        have := (hblk y hy).1
        have := k68.size
        omega)
      refine ⟨.inl (.inr ⟨k613, hB613⟩), ?_⟩
      refine nextG τok 15 1 #[true, true, true, true, true, true, true, true, true, true, true, true, true, true, true, true, false] rfl rfl rfl (by kernel_rfl) ?_
      refine ⟨.inl (.inr ⟨k613, hB613⟩), ?_⟩
      refine nextG τok 16 0 #[true, true, true, true, true, true, true, true, true, true, true, true, true, true, true, true, true] rfl rfl rfl (by kernel_rfl) ?_
      have hone : v13.oneCell' = true := by
        obtain ⟨a13, c13, e⟩ := hO13.len
        rw [e]
        rfl
      refine st (b := b6) (o := 1) hB613 (by simp) hone fun w14 hB614 hs14 hk14 => ?_
      refine ⟨.inr (by kernel_rfl), ?_⟩
      refine doneG (by kernel_rfl) ?_
      refine int64 (by (try simp only); omega) (by (try simp only); omega) ?_
      refine ⟨(j + 1, v13), by simp only; omega, rfl, ⟨rfl, rfl, rfl, rfl, rfl, rfl, trivial⟩, hltj, k613.trans hk14 (fun y hy hl => by simp at hy; omega), hB614, ?_⟩
      rw [htk]
      exact hO13.kpl hk14 (by simp; omega)
    · rw [List.take_of_length_le (by omega)] at hOk
      have hblk := hO.block
      obtain ⟨a9, c9, rfl, hS9⟩ := hOk.den hkl
      have hB39 := hB3.kp k69 (by simp)
      refine ld (hB39.cl rfl).cell ?_
      refine ldN [.int .i64 s.params, .slice a9 s.kept.length c9] rfl (fun j v hj => by rw [Nat.zero_add]; exact hB6.cl hj) ?_
      refine fill [.int .i64 s.params, .slice a9 s.kept.length c9] rfl ?_
      refine new fun b10 w10 hb10 hB10 hs10 hk10 => ?_
      have k610 := k69.tr hk10
      have htk : q.shapes.take (k + 1) = q.shapes.take k ++ [s] := take_get hs
      have htl' : (q.shapes.take k).length = k := by simp; omega
      refine (hO.kp k610).ap1 τok rfl rfl (by decide) s [.int .i64 s.params, .slice a9 s.kept.length c9] ⟨a9, c9, rfl, hS9.mono fun b o t hu => ⟨?_, ?_, hu.2.kp hk10 (by simp)⟩, hp64⟩ (fun j u hj => by rw [Nat.zero_add]; exact hB10.cl hj) (by rw [htl']; omega) (by rw [htl']; simp only [maxLen]; omega) fun v11 w11 hO11 hk11 _ => ?_
      · have := hu.1; have := hO.low; have := k68.size; omega
      · intro e; have := (hblk b e.symm).2; have := hu.1; have := k68.size; omega
      have hB311 : Bk w11.heap b3 [.slice abd q.bodies.length cbd, vs, .slice am q.main.length cm, .int .i64 q.nat, .slice ap q.prims.length cp] 33 := (hB3.kp k610 (by simp)).kp hk11 (by
        intro hm
        have hm : vs.ownBlock = some b3 := by simpa using hm
        have := (hblk b3 hm).1
        omega)
      have k511 : Kp [b3] u w11 := (hkp.tr k610).trans hk11 (fun y hy hl => by
        have hy : vs.ownBlock = some y := by simpa using hy
        have := (hblk y hy).1
        omega)
      have hone : v11.oneCell' = true := by
        obtain ⟨a13, c13, e⟩ := hO11.len
        rw [e]
        rfl
      refine st (b := b3) (o := 1) hB311 (by simp) hone fun w12 hB312 hs12 hk12 => ?_
      refine int64 (by (try simp only); omega) (by (try simp only); omega) ?_
      refine ⟨(k + 1, v11), by simp only; omega, rfl, ⟨rfl, rfl, rfl, rfl, trivial⟩, hlt, k511.trans hk12 (fun y hy hl => hy), hB312, ?_⟩
      rw [htk]
      exact hO11.kpl hk12 (by simp; omega)
  · rw [List.take_of_length_le (by omega)] at hO
    obtain ⟨a9, c9, rfl, hS9⟩ := hO.den hlen
    have hb3w : w4.heap.size ≤ u.heap.size := k4u.size
    refine ldN [.slice abd q.bodies.length cbd, .slice a9 q.shapes.length c9, .slice am q.main.length cm, .int .i64 q.nat, .slice ap q.prims.length cp] rfl (fun j v hj => by rw [Nat.zero_add]; exact hB3.cl hj) ?_
    refine stN (vs := [.slice abd q.bodies.length cbd, .slice a9 q.shapes.length c9, .slice am q.main.length cm, .int .i64 q.nat, .slice ap q.prims.length cp]) hB2 rfl (by simp [Value.oneCell']) fun w7 hB7 hs7 hk7 => ?_
    refine resN τok rfl [.slice abd q.bodies.length cbd, .slice a9 q.shapes.length c9, .slice am q.main.length cm, .int .i64 q.nat, .slice ap q.prims.length cp] rfl (fun j v hj => hB7.cl hj) ?_
    have z1 := hk1.size
    have z2 := k0u.size
    have z3 := hkp.size
    have k46 : Kp [b3] w4 w6 := k4u.trans hkp (fun x hx _ => hx)
    refine ⟨_, rfl, ⟨abd, cbd, a9, c9, am, cm, ap, cp, rfl, ?_, ?_, ?_, ?_, g5, hcm, hcp⟩, k06.trans hk7 (fun y hy hl => by simp at hy; omega)⟩
    · exact hSb.mono fun b o v hv => ⟨by have := hv.1; omega, (hv.2.kp hkp (by have := hv.1; simp; omega)).kp hk7 (by have := hv.1; simp; omega)⟩
    · exact hS9.mono fun b o t hu => ⟨by have := hu.1; omega, hu.2.kp hk7 (by have := hu.1; simp; omega)⟩
    · exact hsm.mono fun b o v hv => ⟨by have := hv.1; omega, (hv.2.2.kp k46 (by simpa using hv.2.1)).kp hk7 (by have := hv.1; simp; omega)⟩
    · exact hsp.mono fun b o v hv => ⟨by have := hv.1; omega, (hv.2.2.kp k46 (by simpa using hv.2.1)).kp hk7 (by have := hv.1; simp; omega)⟩
end Go.Proofs.YtjpdkcejkogciaaDoor

