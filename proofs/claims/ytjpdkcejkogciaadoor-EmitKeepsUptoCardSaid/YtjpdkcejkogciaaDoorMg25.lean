/-
  Own texts put together: EmKe.
-/
import Derived.Test.YtjpdkcejkogciaaDoorMg24
/-
  Package emit: EmitKeeps. (Printed by emke.py from EmKe.tmpl.)
-/
set_option linter.unusedSimpArgs false
set_option linter.unusedVariables false
namespace Go.Wx
/-- numbers and marks in blocks lo, .., hi - 1 may have been written over -/
structure Scs (lo hi : Nat) (w w' : World) : Prop where
  os : w'.os = w.os
  tape : w'.tape = w.tape
  output : w'.output = w.output
  size : w'.heap.size = w.heap.size
  off : ∀ b, (b < lo ∨ hi ≤ b) → w'.heap[b]? = w.heap[b]?
  cell : ∀ b o v, Cu w.heap b o v → Cu w'.heap b o v ∨ (∃ j n m, v = .int j n ∧ Cu w'.heap b o (.int j m)) ∨ ∃ n m, v = .bool n ∧ Cu w'.heap b o (.bool m)

theorem Scs.refl (lo hi : Nat) (w : World) : Scs lo hi w w := ⟨rfl, rfl, rfl, rfl, fun _ _ => rfl, fun _ _ _ h => .inl h⟩
theorem Scs.sl {lo hi : Nat} {w w' : World} (h : Scs lo hi w w') {b o : Nat} {a : Option Addr} {n c : Nat} (hc : Cu w.heap b o (.slice a n c)) : Cl w'.heap b o (.slice a n c) := by
  rcases h.cell _ _ _ hc with h | ⟨_, _, _, e, _⟩ | ⟨_, _, e, _⟩
  · exact h.cl
  · cases e
  · cases e
theorem Scs.int {lo hi : Nat} {w w' : World} (h : Scs lo hi w w') {b o : Nat} {j : IntKind} {n : Int} (hc : Cu w.heap b o (.int j n)) : ∃ m, Cu w'.heap b o (.int j m) := by
  rcases h.cell _ _ _ hc with h | ⟨_, _, m, e, h⟩ | ⟨_, _, e, _⟩
  · exact ⟨n, h⟩
  · cases e; exact ⟨m, h⟩
  · cases e
theorem Scs.bool {lo hi : Nat} {w w' : World} (h : Scs lo hi w w') {b o : Nat} {n : Bool} (hc : Cu w.heap b o (.bool n)) : ∃ m, Cu w'.heap b o (.bool m) := by
  rcases h.cell _ _ _ hc with h | ⟨_, _, m, e, h⟩ | ⟨_, m, e, h⟩
  · exact ⟨n, h⟩
  · cases e
  · exact ⟨m, h⟩
theorem Scs.dr {lo hi : Nat} {w w' : World} (h : Scs lo hi w w') (m : Nat) : Scs lo hi w { w' with drawn := m } := ⟨h.os, h.tape, h.output, h.size, h.off, h.cell⟩
theorem Scs.kp {lo hi : Nat} {w w' w0 : World} (h : Scs lo hi w w') (k : Kp [] w0 w) (hl : w0.heap.size ≤ lo) : Kp [] w0 w' :=
  ⟨h.os.trans k.os, h.tape.trans k.tape, h.output.trans k.output, by rw [h.size]; exact k.size, fun b hb hx => by rw [h.off b (.inl (by omega))]; exact k.block b hb hx⟩

/-- v and v' are numbers of a kind, or marks -/
def alike : Value → Value → Prop
  | .int j _, .int j' _ => j = j'
  | .bool _, .bool _ => True
  | _, _ => False
/-- a number written over a number, a mark over a mark -/
theorem stS {lo hi : Nat} {w0 w : World} {b o : Nat} {v x : Value} {k : World → Prop} (hs : Scs lo hi w0 w) (hc : Cu w.heap b o v) (hx : alike v x) (h1 : lo ≤ b) (h2 : b < hi) (hk : ∀ w', Scs lo hi w0 w' → k w') : EvSt w ⟨b, o, none⟩ x k := by
  obtain ⟨c, T, g1, g2⟩ := hc
  have hB : Bk w.heap b c.toList T := by unfold Bk; simpa using g1
  have ho : o < c.toList.length := by
    have := (Array.getElem?_eq_some_iff.1 g2).1
    simpa using this
  have hone : x.oneCell' = true := by
    cases v <;> cases x <;> first | rfl | exact hx.elim
  refine st hB ho hone fun w' hB' hsz hkp => hk w' ?_
  have step : ∀ b' o' u, Cu w.heap b' o' u → Cu w'.heap b' o' u ∨ (b' = b ∧ o' = o ∧ u = v ∧ Cu w'.heap b' o' x) := fun b' o' u hv => by
    by_cases hb : b' = b
    · subst hb
      obtain ⟨c', T', e1, e2⟩ := hv
      rw [g1] at e1
      injection e1 with e1
      injection e1 with e1 e1'
      subst e1
      by_cases ho' : o' = o
      · subst ho'
        rw [g2] at e2
        injection e2 with e2
        exact .inr ⟨rfl, rfl, e2.symm, hB'.cu (by simp [List.getElem?_set]; simpa using ho)⟩
      · refine .inl (hB'.cu ?_)
        rw [List.getElem?_set_ne (fun e => ho' e.symm)]
        simpa using e2
    · exact .inl (hv.kp hkp (by simpa using hb))
  refine ⟨hkp.os.trans hs.os, hkp.tape.trans hs.tape, hkp.output.trans hs.output, hsz.trans hs.size, fun b' hb' => ?_, fun b' o' u hv => ?_⟩
  · rw [← hs.off b' hb']
    by_cases hl : b' < w.heap.size
    · exact hkp.block b' hl (by simp; omega)
    · rw [Array.getElem?_eq_none (by omega), Array.getElem?_eq_none (by omega)]
  · rcases hs.cell _ _ _ hv with h | ⟨j', n', m', rfl, h⟩ | ⟨n', m', rfl, h⟩
    · rcases step _ _ _ h with h' | ⟨rfl, rfl, rfl, h'⟩
      · exact .inl h'
      · cases u <;> cases x <;> simp only [alike] at hx
        · exact .inr (.inr ⟨_, _, rfl, h'⟩)
        · subst hx; exact .inr (.inl ⟨_, _, _, rfl, h'⟩)
    · rcases step _ _ _ h with h' | ⟨rfl, rfl, hu, h'⟩
      · exact .inr (.inl ⟨j', n', m', rfl, h'⟩)
      · subst hu
        cases x <;> simp only [alike] at hx
        subst hx
        exact .inr (.inl ⟨_, _, _, rfl, h'⟩)
    · rcases step _ _ _ h with h' | ⟨rfl, rfl, hu, h'⟩
      · exact .inr (.inr ⟨n', m', rfl, h'⟩)
      · subst hu
        cases x <;> simp only [alike] at hx
        exact .inr (.inr ⟨_, _, rfl, h'⟩)

/-- cells of new memory, out of some blocks -/
def NewX (n : Nat) (X : List Nat) (w : World) : Mem := fun b o v => n ≤ b ∧ b ∉ X ∧ Cu w.heap b o v
theorem NewX.of {n m : Nat} {X : List Nat} {w : World} (hn : n ≤ m) (hX : ∀ x ∈ X, x < m) : ∀ b o v, New m w b o v → NewX n X w b o v := fun b o v h => ⟨Nat.le_trans hn h.1, fun hb => by have := hX b hb; have := h.1; omega, h.2⟩
theorem NewX.kp {n : Nat} {X Y : List Nat} {w w' : World} (k : Kp Y w w') (hY : ∀ y ∈ Y, y ∈ X) : ∀ b o v, NewX n X w b o v → NewX n X w' b o v := fun b o v h => ⟨h.1, h.2.1, h.2.2.kp k fun hb => h.2.1 (hY b hb)⟩
theorem NewX.more {n x : Nat} {X : List Nat} {w w' : World} (k : Kp [] w w') (hx : w.heap.size ≤ x) : ∀ b o v, NewX n X w b o v → NewX n (x :: X) w' b o v := fun b o v h => ⟨h.1, fun hb => by
  rcases List.mem_cons.1 hb with e | hb
  · have := h.2.2.lt; omega
  · exact h.2.1 hb, h.2.2.kp k (by simp)⟩
theorem NewX.new {n : Nat} {X : List Nat} {w : World} : ∀ b o v, NewX n X w b o v → New n w b o v := fun b o v h => ⟨h.1, h.2.2⟩
end Go.Wx
namespace Go.Proofs.YtjpdkcejkogciaaDoor
open Go.Wx Cd
section
variable {C : Mem} {w : World}
set_option maxRecDepth 20000 in
set_option maxHeartbeats 4000000 in
theorem emitKeeps_ct (hS : Sub C w) (hT : Tab C) {p : Flt} {q : Brd} {cf cg : List Value} (hp : rFlt.den C cf p) (hq : rBrd.den C cg q) :
    CallOk Tryd.prog 6 ∧ Calls Tryd.prog 6 #[.agg cf.toArray, .agg cg.toArray] w (fun e w' => e = .returned (.bool true) ∧ Kp [] w w') := by
  refine ⟨⟨_, Tryd.func6, rfl, by decide⟩, ?_⟩
  have hp0 := hp
  have hq0 := hq
  obtain ⟨a1, c1, a2, c2, a3, c3, rfl, _⟩ := hp
  obtain ⟨d1, e1, d2, e2, d3, e3, d4, e4, rfl, _⟩ := hq
  refine calls_ev (args := [_, _]) 150 [.tmp 4] Tryd.func6 rfl rfl rfl (Nat.le_of_ble_eq_true rfl) ?_
  refine ev_seq τok ?_
  refine new fun b2 w1 hb2 hB2 hs1 hk1 => ?_
  refine new fun b3 w2 hb3 hB3 hs2 hk2 => ?_
  have hB2 := hB2.kp hk2 (by simp)
  have hk02 := hk1.tr hk2
  refine ev_seq τok ?_
  refine ev_call (awake_ct (hS.tr hk02) hT) ?_
  rintro e w3 ⟨rfl, hk3⟩
  have hB2 := hB2.kp hk3 (by simp)
  have hB3 := hB3.kp hk3 (by simp)
  have hk03 := hk02.tr hk3
  refine ev_seq τok ?_
  refine ldN _ rfl (fun j v hj => by rw [Nat.zero_add]; exact hB2.cl hj) ?_
  refine ldN _ rfl (fun j v hj => by rw [Nat.zero_add]; exact hB3.cl hj) ?_
  refine ev_call (heavy_ct (hS.tr hk03) hp0 hq0) ?_
  rintro e w4 ⟨b, rfl, hw, hk4⟩
  have hB2 := hB2.kp hk4 (by simp)
  have hB3 := hB3.kp hk4 (by simp)
  have hk04 := hk03.tr hk4
  refine br (fun g => ?_) (fun g => ?_)
  · exact ⟨rfl, hk04⟩
  have hw := hw g
  have hS4 := hS.tr hk04
  refine ev_mid τok (fun x : Nat × Nat => [(2, .pointer (some ⟨b2, 0, none⟩)), (3, .pointer (some ⟨b3, 0, none⟩)), (5, .pointer (some ⟨x.1, 0, none⟩)), (6, .pointer (some ⟨x.2, 0, none⟩))])
    (fun x w' => Kp [] w4 w' ∧ ∃ cf' cg', Bk w'.heap x.1 cf' 27 ∧ Bk w'.heap x.2 cg' 33 ∧ rFlt.den (New w4.heap.size w') cf' p ∧ rBrd.den (New w4.heap.size w') cg' q) ?_ ?_
  · have k0 : Kp [] w4 { w4 with drawn := w4.drawn + 1 } := (Kp.refl [] w4).dr _
    refine drawG τok (fun w' => Kp [] w4 w') ?_
    refine readsG τok [0, 2] 6 #[true, false, true, false, false, false, false, false] rfl rfl (by kernel_rfl) (by kernel_rfl) (by kernel_rfl) k0 ?_
    refine ldNK _ rfl (fun j v hj => by rw [Nat.zero_add]; exact hB2.cl hj) ?_
    refine ldNK _ rfl (fun j v hj => by rw [Nat.zero_add]; exact hB3.cl hj) ?_
    refine threeG τok 1 4 5 5 #[true, true, true, false, false, false, false, false] #[true, false, true, false, true, false, false, false] #[true, false, true, false, false, true, false, false] rfl rfl rfl rfl rfl rfl rfl (by kernel_rfl) ?_ ?_ ?_
    · skip
      refine ev_call (copyFlat_ct (hS4.tr k0) hp0) ?_
      rintro e u1 ⟨cs1, rfl, hd1, hk1⟩
      have hd1 : rFlt.den (NewX w4.heap.size [] u1) cs1 _ := rFlt.mono (NewX.of (by have := k0.size; exact this) (by simp)) hd1
      have k1 := k0.tr hk1
      refine ⟨.inl k1, ?_⟩
      refine threeG τok 3 4 5 4 #[true, true, true, true, false, false, false, false] #[true, true, true, false, true, false, false, false] #[true, true, true, false, false, true, false, false] rfl rfl rfl rfl rfl rfl rfl (by kernel_rfl) ?_ ?_ ?_
      · skip
        refine ev_call (copyBared_ct (hS4.tr k1) hq0) ?_
        rintro e u2 ⟨cs3, rfl, hd3, hk2⟩
        have hd3 : rBrd.den (NewX w4.heap.size [] u2) cs3 _ := rBrd.mono (NewX.of (by have := k1.size; exact this) (by simp)) hd3
        have hd1 := rFlt.mono (NewX.kp hk2 (by simp)) hd1
        have k2 := k1.tr hk2
        refine ⟨.inl k2, ?_⟩
        refine twoG τok 4 5 3 #[true, true, true, true, true, false, false, false] #[true, true, true, true, false, true, false, false] rfl rfl rfl rfl rfl (by kernel_rfl) ?_ ?_
        · skip
          refine new fun b5 u3 hb5 hB5 hs3 hk3 => ?_
          have l5 := hB5.lt
          have hd1 := rFlt.mono (NewX.more hk3 (Nat.le_of_eq hb5.symm)) hd1
          have hd3 := rBrd.mono (NewX.more hk3 (Nat.le_of_eq hb5.symm)) hd3
          have k3 := k2.tr hk3
          have n5 : w4.heap.size ≤ b5 := by have := k2.size; simp only [hb5]; exact this
          refine ⟨.inl k3, ?_⟩
          refine nextG τok 5 2 #[true, true, true, true, true, true, false, false] rfl rfl rfl (by kernel_rfl) ?_
          refine new fun b6 u4 hb6 hB6 hs4 hk4 => ?_
          have l6 := hB6.lt
          have d5_6 : b5 < b6 := by have := hB5.lt; omega
          have hB5 := hB5.kp hk4 (by simp)
          have l5 := hB5.lt
          have hd1 := rFlt.mono (NewX.more hk4 (Nat.le_of_eq hb6.symm)) hd1
          have hd3 := rBrd.mono (NewX.more hk4 (Nat.le_of_eq hb6.symm)) hd3
          have k4 := k3.tr hk4
          have n6 : w4.heap.size ≤ b6 := by have := k3.size; simp only [hb6]; exact this
          refine ⟨.inl k4, ?_⟩
          refine nextG τok 6 1 #[true, true, true, true, true, true, true, false] rfl rfl rfl (by kernel_rfl) ?_
          obtain ⟨u1, t1, u2, t2, u3, t3, rfl, ff⟩ := hd1
          obtain ⟨v1, r1, v2, r2, v3, r3, v4, r4, rfl, gg⟩ := hd3
          refine stN (vs := [.slice u1 p.funs.length t1, .slice u2 p.bodies.length t2, .slice u3 p.main.length t3]) hB5 rfl (by simp [Value.oneCell']) fun uA hB5 hsA hkA => ?_
          have hB6 := hB6.kp hkA (by simp; omega)
          have kA : Kp [] w4 uA := k4.trans hkA (fun x hx hl => by simp at hx; omega)
          refine ⟨.inl kA, ?_⟩
          refine nextG τok 7 0 #[true, true, true, true, true, true, true, true] rfl rfl rfl (by kernel_rfl) ?_
          refine stN (vs := [.slice v1 q.bodies.length r1, .slice v2 q.shapes.length r2, .slice v3 q.main.length r3, .int .i64 q.nat, .slice v4 q.prims.length r4]) hB6 rfl (by simp [Value.oneCell']) fun uB hB6 hsB hkB => ?_
          have hB5 := hB5.kp hkB (by simp; omega)
          have kB : Kp [] w4 uB := kA.trans hkB (fun x hx hl => by simp at hx; omega)
          refine ⟨.inl kB, ?_⟩
          refine doneG (by kernel_rfl) ?_
          refine ⟨(b5, b6), rfl, ⟨rfl, rfl, rfl, rfl, trivial⟩, kB, _, _, hB5, hB6, ?_, ?_⟩
          · exact rFlt.mono (fun b o v h => NewX.new b o v (NewX.kp hkB (by simp) b o v (NewX.kp hkA (by simp) b o v h))) ⟨u1, t1, u2, t2, u3, t3, rfl, ff⟩
          · exact rBrd.mono (fun b o v h => NewX.new b o v (NewX.kp hkB (by simp) b o v (NewX.kp hkA (by simp) b o v h))) ⟨v1, r1, v2, r2, v3, r3, v4, r4, rfl, gg⟩
        · skip
          refine new fun b6 u3 hb6 hB6 hs3 hk3 => ?_
          have l6 := hB6.lt
          have hd1 := rFlt.mono (NewX.more hk3 (Nat.le_of_eq hb6.symm)) hd1
          have hd3 := rBrd.mono (NewX.more hk3 (Nat.le_of_eq hb6.symm)) hd3
          have k3 := k2.tr hk3
          have n6 : w4.heap.size ≤ b6 := by have := k2.size; simp only [hb6]; exact this
          refine ⟨.inl k3, ?_⟩
          refine nextG τok 4 2 #[true, true, true, true, true, true, false, false] rfl rfl rfl (by kernel_rfl) ?_
          refine new fun b5 u4 hb5 hB5 hs4 hk4 => ?_
          have l5 := hB5.lt
          have d6_5 : b6 < b5 := by have := hB6.lt; omega
          have hB6 := hB6.kp hk4 (by simp)
          have l6 := hB6.lt
          have hd1 := rFlt.mono (NewX.more hk4 (Nat.le_of_eq hb5.symm)) hd1
          have hd3 := rBrd.mono (NewX.more hk4 (Nat.le_of_eq hb5.symm)) hd3
          have k4 := k3.tr hk4
          have n5 : w4.heap.size ≤ b5 := by have := k3.size; simp only [hb5]; exact this
          refine ⟨.inl k4, ?_⟩
          refine nextG τok 6 1 #[true, true, true, true, true, true, true, false] rfl rfl rfl (by kernel_rfl) ?_
          obtain ⟨u1, t1, u2, t2, u3, t3, rfl, ff⟩ := hd1
          obtain ⟨v1, r1, v2, r2, v3, r3, v4, r4, rfl, gg⟩ := hd3
          refine stN (vs := [.slice u1 p.funs.length t1, .slice u2 p.bodies.length t2, .slice u3 p.main.length t3]) hB5 rfl (by simp [Value.oneCell']) fun uA hB5 hsA hkA => ?_
          have hB6 := hB6.kp hkA (by simp; omega)
          have kA : Kp [] w4 uA := k4.trans hkA (fun x hx hl => by simp at hx; omega)
          refine ⟨.inl kA, ?_⟩
          refine nextG τok 7 0 #[true, true, true, true, true, true, true, true] rfl rfl rfl (by kernel_rfl) ?_
          refine stN (vs := [.slice v1 q.bodies.length r1, .slice v2 q.shapes.length r2, .slice v3 q.main.length r3, .int .i64 q.nat, .slice v4 q.prims.length r4]) hB6 rfl (by simp [Value.oneCell']) fun uB hB6 hsB hkB => ?_
          have hB5 := hB5.kp hkB (by simp; omega)
          have kB : Kp [] w4 uB := kA.trans hkB (fun x hx hl => by simp at hx; omega)
          refine ⟨.inl kB, ?_⟩
          refine doneG (by kernel_rfl) ?_
          refine ⟨(b5, b6), rfl, ⟨rfl, rfl, rfl, rfl, trivial⟩, kB, _, _, hB5, hB6, ?_, ?_⟩
          · exact rFlt.mono (fun b o v h => NewX.new b o v (NewX.kp hkB (by simp) b o v (NewX.kp hkA (by simp) b o v h))) ⟨u1, t1, u2, t2, u3, t3, rfl, ff⟩
          · exact rBrd.mono (fun b o v h => NewX.new b o v (NewX.kp hkB (by simp) b o v (NewX.kp hkA (by simp) b o v h))) ⟨v1, r1, v2, r2, v3, r3, v4, r4, rfl, gg⟩
      · skip
        refine new fun b5 u2 hb5 hB5 hs2 hk2 => ?_
        have l5 := hB5.lt
        have hd1 := rFlt.mono (NewX.more hk2 (Nat.le_of_eq hb5.symm)) hd1
        have k2 := k1.tr hk2
        have n5 : w4.heap.size ≤ b5 := by have := k1.size; simp only [hb5]; exact this
        refine ⟨.inl k2, ?_⟩
        refine twoG τok 3 5 3 #[true, true, true, true, true, false, false, false] #[true, true, true, false, true, true, false, false] rfl rfl rfl rfl rfl (by kernel_rfl) ?_ ?_
        · skip
          refine ev_call (copyBared_ct (hS4.tr k2) hq0) ?_
          rintro e u3 ⟨cs3, rfl, hd3, hk3⟩
          have hd3 : rBrd.den (NewX w4.heap.size [b5] u3) cs3 _ := rBrd.mono (NewX.of (by have := k2.size; exact this) (by simp; omega)) hd3
          have hB5 := hB5.kp hk3 (by simp)
          have l5 := hB5.lt
          have hd1 := rFlt.mono (NewX.kp hk3 (by simp)) hd1
          have k3 := k2.tr hk3
          refine ⟨.inl k3, ?_⟩
          refine nextG τok 5 2 #[true, true, true, true, true, true, false, false] rfl rfl rfl (by kernel_rfl) ?_
          refine new fun b6 u4 hb6 hB6 hs4 hk4 => ?_
          have l6 := hB6.lt
          have d5_6 : b5 < b6 := by have := hB5.lt; omega
          have hB5 := hB5.kp hk4 (by simp)
          have l5 := hB5.lt
          have hd1 := rFlt.mono (NewX.more hk4 (Nat.le_of_eq hb6.symm)) hd1
          have hd3 := rBrd.mono (NewX.more hk4 (Nat.le_of_eq hb6.symm)) hd3
          have k4 := k3.tr hk4
          have n6 : w4.heap.size ≤ b6 := by have := k3.size; simp only [hb6]; exact this
          refine ⟨.inl k4, ?_⟩
          refine nextG τok 6 1 #[true, true, true, true, true, true, true, false] rfl rfl rfl (by kernel_rfl) ?_
          obtain ⟨u1, t1, u2, t2, u3, t3, rfl, ff⟩ := hd1
          obtain ⟨v1, r1, v2, r2, v3, r3, v4, r4, rfl, gg⟩ := hd3
          refine stN (vs := [.slice u1 p.funs.length t1, .slice u2 p.bodies.length t2, .slice u3 p.main.length t3]) hB5 rfl (by simp [Value.oneCell']) fun uA hB5 hsA hkA => ?_
          have hB6 := hB6.kp hkA (by simp; omega)
          have kA : Kp [] w4 uA := k4.trans hkA (fun x hx hl => by simp at hx; omega)
          refine ⟨.inl kA, ?_⟩
          refine nextG τok 7 0 #[true, true, true, true, true, true, true, true] rfl rfl rfl (by kernel_rfl) ?_
          refine stN (vs := [.slice v1 q.bodies.length r1, .slice v2 q.shapes.length r2, .slice v3 q.main.length r3, .int .i64 q.nat, .slice v4 q.prims.length r4]) hB6 rfl (by simp [Value.oneCell']) fun uB hB6 hsB hkB => ?_
          have hB5 := hB5.kp hkB (by simp; omega)
          have kB : Kp [] w4 uB := kA.trans hkB (fun x hx hl => by simp at hx; omega)
          refine ⟨.inl kB, ?_⟩
          refine doneG (by kernel_rfl) ?_
          refine ⟨(b5, b6), rfl, ⟨rfl, rfl, rfl, rfl, trivial⟩, kB, _, _, hB5, hB6, ?_, ?_⟩
          · exact rFlt.mono (fun b o v h => NewX.new b o v (NewX.kp hkB (by simp) b o v (NewX.kp hkA (by simp) b o v h))) ⟨u1, t1, u2, t2, u3, t3, rfl, ff⟩
          · exact rBrd.mono (fun b o v h => NewX.new b o v (NewX.kp hkB (by simp) b o v (NewX.kp hkA (by simp) b o v h))) ⟨v1, r1, v2, r2, v3, r3, v4, r4, rfl, gg⟩
        · skip
          refine new fun b6 u3 hb6 hB6 hs3 hk3 => ?_
          have l6 := hB6.lt
          have d5_6 : b5 < b6 := by have := hB5.lt; omega
          have hB5 := hB5.kp hk3 (by simp)
          have l5 := hB5.lt
          have hd1 := rFlt.mono (NewX.more hk3 (Nat.le_of_eq hb6.symm)) hd1
          have k3 := k2.tr hk3
          have n6 : w4.heap.size ≤ b6 := by have := k2.size; simp only [hb6]; exact this
          refine ⟨.inl k3, ?_⟩
          refine nextG τok 3 2 #[true, true, true, true, true, true, false, false] rfl rfl rfl (by kernel_rfl) ?_
          refine ev_call (copyBared_ct (hS4.tr k3) hq0) ?_
          rintro e u4 ⟨cs3, rfl, hd3, hk4⟩
          have hd3 : rBrd.den (NewX w4.heap.size [b6, b5] u4) cs3 _ := rBrd.mono (NewX.of (by have := k3.size; exact this) (by simp; omega)) hd3
          have hB6 := hB6.kp hk4 (by simp)
          have l6 := hB6.lt
          have hB5 := hB5.kp hk4 (by simp)
          have l5 := hB5.lt
          have hd1 := rFlt.mono (NewX.kp hk4 (by simp)) hd1
          have k4 := k3.tr hk4
          refine ⟨.inl k4, ?_⟩
          refine nextG τok 6 1 #[true, true, true, true, true, true, true, false] rfl rfl rfl (by kernel_rfl) ?_
          obtain ⟨u1, t1, u2, t2, u3, t3, rfl, ff⟩ := hd1
          obtain ⟨v1, r1, v2, r2, v3, r3, v4, r4, rfl, gg⟩ := hd3
          refine stN (vs := [.slice u1 p.funs.length t1, .slice u2 p.bodies.length t2, .slice u3 p.main.length t3]) hB5 rfl (by simp [Value.oneCell']) fun uA hB5 hsA hkA => ?_
          have hB6 := hB6.kp hkA (by simp; omega)
          have kA : Kp [] w4 uA := k4.trans hkA (fun x hx hl => by simp at hx; omega)
          refine ⟨.inl kA, ?_⟩
          refine nextG τok 7 0 #[true, true, true, true, true, true, true, true] rfl rfl rfl (by kernel_rfl) ?_
          refine stN (vs := [.slice v1 q.bodies.length r1, .slice v2 q.shapes.length r2, .slice v3 q.main.length r3, .int .i64 q.nat, .slice v4 q.prims.length r4]) hB6 rfl (by simp [Value.oneCell']) fun uB hB6 hsB hkB => ?_
          have hB5 := hB5.kp hkB (by simp; omega)
          have kB : Kp [] w4 uB := kA.trans hkB (fun x hx hl => by simp at hx; omega)
          refine ⟨.inl kB, ?_⟩
          refine doneG (by kernel_rfl) ?_
          refine ⟨(b5, b6), rfl, ⟨rfl, rfl, rfl, rfl, trivial⟩, kB, _, _, hB5, hB6, ?_, ?_⟩
          · exact rFlt.mono (fun b o v h => NewX.new b o v (NewX.kp hkB (by simp) b o v (NewX.kp hkA (by simp) b o v h))) ⟨u1, t1, u2, t2, u3, t3, rfl, ff⟩
          · exact rBrd.mono (fun b o v h => NewX.new b o v (NewX.kp hkB (by simp) b o v (NewX.kp hkA (by simp) b o v h))) ⟨v1, r1, v2, r2, v3, r3, v4, r4, rfl, gg⟩
      · skip
        refine new fun b6 u2 hb6 hB6 hs2 hk2 => ?_
        have l6 := hB6.lt
        have hd1 := rFlt.mono (NewX.more hk2 (Nat.le_of_eq hb6.symm)) hd1
        have k2 := k1.tr hk2
        have n6 : w4.heap.size ≤ b6 := by have := k1.size; simp only [hb6]; exact this
        refine ⟨.inl k2, ?_⟩
        refine twoG τok 3 4 3 #[true, true, true, true, false, true, false, false] #[true, true, true, false, true, true, false, false] rfl rfl rfl rfl rfl (by kernel_rfl) ?_ ?_
        · skip
          refine ev_call (copyBared_ct (hS4.tr k2) hq0) ?_
          rintro e u3 ⟨cs3, rfl, hd3, hk3⟩
          have hd3 : rBrd.den (NewX w4.heap.size [b6] u3) cs3 _ := rBrd.mono (NewX.of (by have := k2.size; exact this) (by simp; omega)) hd3
          have hB6 := hB6.kp hk3 (by simp)
          have l6 := hB6.lt
          have hd1 := rFlt.mono (NewX.kp hk3 (by simp)) hd1
          have k3 := k2.tr hk3
          refine ⟨.inl k3, ?_⟩
          refine nextG τok 4 2 #[true, true, true, true, true, true, false, false] rfl rfl rfl (by kernel_rfl) ?_
          refine new fun b5 u4 hb5 hB5 hs4 hk4 => ?_
          have l5 := hB5.lt
          have d6_5 : b6 < b5 := by have := hB6.lt; omega
          have hB6 := hB6.kp hk4 (by simp)
          have l6 := hB6.lt
          have hd1 := rFlt.mono (NewX.more hk4 (Nat.le_of_eq hb5.symm)) hd1
          have hd3 := rBrd.mono (NewX.more hk4 (Nat.le_of_eq hb5.symm)) hd3
          have k4 := k3.tr hk4
          have n5 : w4.heap.size ≤ b5 := by have := k3.size; simp only [hb5]; exact this
          refine ⟨.inl k4, ?_⟩
          refine nextG τok 6 1 #[true, true, true, true, true, true, true, false] rfl rfl rfl (by kernel_rfl) ?_
          obtain ⟨u1, t1, u2, t2, u3, t3, rfl, ff⟩ := hd1
          obtain ⟨v1, r1, v2, r2, v3, r3, v4, r4, rfl, gg⟩ := hd3
          refine stN (vs := [.slice u1 p.funs.length t1, .slice u2 p.bodies.length t2, .slice u3 p.main.length t3]) hB5 rfl (by simp [Value.oneCell']) fun uA hB5 hsA hkA => ?_
          have hB6 := hB6.kp hkA (by simp; omega)
          have kA : Kp [] w4 uA := k4.trans hkA (fun x hx hl => by simp at hx; omega)
          refine ⟨.inl kA, ?_⟩
          refine nextG τok 7 0 #[true, true, true, true, true, true, true, true] rfl rfl rfl (by kernel_rfl) ?_
          refine stN (vs := [.slice v1 q.bodies.length r1, .slice v2 q.shapes.length r2, .slice v3 q.main.length r3, .int .i64 q.nat, .slice v4 q.prims.length r4]) hB6 rfl (by simp [Value.oneCell']) fun uB hB6 hsB hkB => ?_
          have hB5 := hB5.kp hkB (by simp; omega)
          have kB : Kp [] w4 uB := kA.trans hkB (fun x hx hl => by simp at hx; omega)
          refine ⟨.inl kB, ?_⟩
          refine doneG (by kernel_rfl) ?_
          refine ⟨(b5, b6), rfl, ⟨rfl, rfl, rfl, rfl, trivial⟩, kB, _, _, hB5, hB6, ?_, ?_⟩
          · exact rFlt.mono (fun b o v h => NewX.new b o v (NewX.kp hkB (by simp) b o v (NewX.kp hkA (by simp) b o v h))) ⟨u1, t1, u2, t2, u3, t3, rfl, ff⟩
          · exact rBrd.mono (fun b o v h => NewX.new b o v (NewX.kp hkB (by simp) b o v (NewX.kp hkA (by simp) b o v h))) ⟨v1, r1, v2, r2, v3, r3, v4, r4, rfl, gg⟩
        · skip
          refine new fun b5 u3 hb5 hB5 hs3 hk3 => ?_
          have l5 := hB5.lt
          have d6_5 : b6 < b5 := by have := hB6.lt; omega
          have hB6 := hB6.kp hk3 (by simp)
          have l6 := hB6.lt
          have hd1 := rFlt.mono (NewX.more hk3 (Nat.le_of_eq hb5.symm)) hd1
          have k3 := k2.tr hk3
          have n5 : w4.heap.size ≤ b5 := by have := k2.size; simp only [hb5]; exact this
          refine ⟨.inl k3, ?_⟩
          refine nextG τok 3 2 #[true, true, true, true, true, true, false, false] rfl rfl rfl (by kernel_rfl) ?_
          refine ev_call (copyBared_ct (hS4.tr k3) hq0) ?_
          rintro e u4 ⟨cs3, rfl, hd3, hk4⟩
          have hd3 : rBrd.den (NewX w4.heap.size [b5, b6] u4) cs3 _ := rBrd.mono (NewX.of (by have := k3.size; exact this) (by simp; omega)) hd3
          have hB5 := hB5.kp hk4 (by simp)
          have l5 := hB5.lt
          have hB6 := hB6.kp hk4 (by simp)
          have l6 := hB6.lt
          have hd1 := rFlt.mono (NewX.kp hk4 (by simp)) hd1
          have k4 := k3.tr hk4
          refine ⟨.inl k4, ?_⟩
          refine nextG τok 6 1 #[true, true, true, true, true, true, true, false] rfl rfl rfl (by kernel_rfl) ?_
          obtain ⟨u1, t1, u2, t2, u3, t3, rfl, ff⟩ := hd1
          obtain ⟨v1, r1, v2, r2, v3, r3, v4, r4, rfl, gg⟩ := hd3
          refine stN (vs := [.slice u1 p.funs.length t1, .slice u2 p.bodies.length t2, .slice u3 p.main.length t3]) hB5 rfl (by simp [Value.oneCell']) fun uA hB5 hsA hkA => ?_
          have hB6 := hB6.kp hkA (by simp; omega)
          have kA : Kp [] w4 uA := k4.trans hkA (fun x hx hl => by simp at hx; omega)
          refine ⟨.inl kA, ?_⟩
          refine nextG τok 7 0 #[true, true, true, true, true, true, true, true] rfl rfl rfl (by kernel_rfl) ?_
          refine stN (vs := [.slice v1 q.bodies.length r1, .slice v2 q.shapes.length r2, .slice v3 q.main.length r3, .int .i64 q.nat, .slice v4 q.prims.length r4]) hB6 rfl (by simp [Value.oneCell']) fun uB hB6 hsB hkB => ?_
          have hB5 := hB5.kp hkB (by simp; omega)
          have kB : Kp [] w4 uB := kA.trans hkB (fun x hx hl => by simp at hx; omega)
          refine ⟨.inl kB, ?_⟩
          refine doneG (by kernel_rfl) ?_
          refine ⟨(b5, b6), rfl, ⟨rfl, rfl, rfl, rfl, trivial⟩, kB, _, _, hB5, hB6, ?_, ?_⟩
          · exact rFlt.mono (fun b o v h => NewX.new b o v (NewX.kp hkB (by simp) b o v (NewX.kp hkA (by simp) b o v h))) ⟨u1, t1, u2, t2, u3, t3, rfl, ff⟩
          · exact rBrd.mono (fun b o v h => NewX.new b o v (NewX.kp hkB (by simp) b o v (NewX.kp hkA (by simp) b o v h))) ⟨v1, r1, v2, r2, v3, r3, v4, r4, rfl, gg⟩
    · skip
      refine new fun b5 u1 hb5 hB5 hs1 hk1 => ?_
      have l5 := hB5.lt
      have k1 := k0.tr hk1
      have n5 : w4.heap.size ≤ b5 := by have := k0.size; simp only [hb5]; exact this
      refine ⟨.inl k1, ?_⟩
      refine twoG τok 1 5 4 #[true, true, true, false, true, false, false, false] #[true, false, true, false, true, true, false, false] rfl rfl rfl rfl rfl (by kernel_rfl) ?_ ?_
      · skip
        refine ev_call (copyFlat_ct (hS4.tr k1) hp0) ?_
        rintro e u2 ⟨cs1, rfl, hd1, hk2⟩
        have hd1 : rFlt.den (NewX w4.heap.size [b5] u2) cs1 _ := rFlt.mono (NewX.of (by have := k1.size; exact this) (by simp; omega)) hd1
        have hB5 := hB5.kp hk2 (by simp)
        have l5 := hB5.lt
        have k2 := k1.tr hk2
        refine ⟨.inl k2, ?_⟩
        refine twoG τok 3 5 3 #[true, true, true, true, true, false, false, false] #[true, true, true, false, true, true, false, false] rfl rfl rfl rfl rfl (by kernel_rfl) ?_ ?_
        · skip
          refine ev_call (copyBared_ct (hS4.tr k2) hq0) ?_
          rintro e u3 ⟨cs3, rfl, hd3, hk3⟩
          have hd3 : rBrd.den (NewX w4.heap.size [b5] u3) cs3 _ := rBrd.mono (NewX.of (by have := k2.size; exact this) (by simp; omega)) hd3
          have hB5 := hB5.kp hk3 (by simp)
          have l5 := hB5.lt
          have hd1 := rFlt.mono (NewX.kp hk3 (by simp)) hd1
          have k3 := k2.tr hk3
          refine ⟨.inl k3, ?_⟩
          refine nextG τok 5 2 #[true, true, true, true, true, true, false, false] rfl rfl rfl (by kernel_rfl) ?_
          refine new fun b6 u4 hb6 hB6 hs4 hk4 => ?_
          have l6 := hB6.lt
          have d5_6 : b5 < b6 := by have := hB5.lt; omega
          have hB5 := hB5.kp hk4 (by simp)
          have l5 := hB5.lt
          have hd1 := rFlt.mono (NewX.more hk4 (Nat.le_of_eq hb6.symm)) hd1
          have hd3 := rBrd.mono (NewX.more hk4 (Nat.le_of_eq hb6.symm)) hd3
          have k4 := k3.tr hk4
          have n6 : w4.heap.size ≤ b6 := by have := k3.size; simp only [hb6]; exact this
          refine ⟨.inl k4, ?_⟩
          refine nextG τok 6 1 #[true, true, true, true, true, true, true, false] rfl rfl rfl (by kernel_rfl) ?_
          obtain ⟨u1, t1, u2, t2, u3, t3, rfl, ff⟩ := hd1
          obtain ⟨v1, r1, v2, r2, v3, r3, v4, r4, rfl, gg⟩ := hd3
          refine stN (vs := [.slice u1 p.funs.length t1, .slice u2 p.bodies.length t2, .slice u3 p.main.length t3]) hB5 rfl (by simp [Value.oneCell']) fun uA hB5 hsA hkA => ?_
          have hB6 := hB6.kp hkA (by simp; omega)
          have kA : Kp [] w4 uA := k4.trans hkA (fun x hx hl => by simp at hx; omega)
          refine ⟨.inl kA, ?_⟩
          refine nextG τok 7 0 #[true, true, true, true, true, true, true, true] rfl rfl rfl (by kernel_rfl) ?_
          refine stN (vs := [.slice v1 q.bodies.length r1, .slice v2 q.shapes.length r2, .slice v3 q.main.length r3, .int .i64 q.nat, .slice v4 q.prims.length r4]) hB6 rfl (by simp [Value.oneCell']) fun uB hB6 hsB hkB => ?_
          have hB5 := hB5.kp hkB (by simp; omega)
          have kB : Kp [] w4 uB := kA.trans hkB (fun x hx hl => by simp at hx; omega)
          refine ⟨.inl kB, ?_⟩
          refine doneG (by kernel_rfl) ?_
          refine ⟨(b5, b6), rfl, ⟨rfl, rfl, rfl, rfl, trivial⟩, kB, _, _, hB5, hB6, ?_, ?_⟩
          · exact rFlt.mono (fun b o v h => NewX.new b o v (NewX.kp hkB (by simp) b o v (NewX.kp hkA (by simp) b o v h))) ⟨u1, t1, u2, t2, u3, t3, rfl, ff⟩
          · exact rBrd.mono (fun b o v h => NewX.new b o v (NewX.kp hkB (by simp) b o v (NewX.kp hkA (by simp) b o v h))) ⟨v1, r1, v2, r2, v3, r3, v4, r4, rfl, gg⟩
        · skip
          refine new fun b6 u3 hb6 hB6 hs3 hk3 => ?_
          have l6 := hB6.lt
          have d5_6 : b5 < b6 := by have := hB5.lt; omega
          have hB5 := hB5.kp hk3 (by simp)
          have l5 := hB5.lt
          have hd1 := rFlt.mono (NewX.more hk3 (Nat.le_of_eq hb6.symm)) hd1
          have k3 := k2.tr hk3
          have n6 : w4.heap.size ≤ b6 := by have := k2.size; simp only [hb6]; exact this
          refine ⟨.inl k3, ?_⟩
          refine nextG τok 3 2 #[true, true, true, true, true, true, false, false] rfl rfl rfl (by kernel_rfl) ?_
          refine ev_call (copyBared_ct (hS4.tr k3) hq0) ?_
          rintro e u4 ⟨cs3, rfl, hd3, hk4⟩
          have hd3 : rBrd.den (NewX w4.heap.size [b6, b5] u4) cs3 _ := rBrd.mono (NewX.of (by have := k3.size; exact this) (by simp; omega)) hd3
          have hB6 := hB6.kp hk4 (by simp)
          have l6 := hB6.lt
          have hB5 := hB5.kp hk4 (by simp)
          have l5 := hB5.lt
          have hd1 := rFlt.mono (NewX.kp hk4 (by simp)) hd1
          have k4 := k3.tr hk4
          refine ⟨.inl k4, ?_⟩
          refine nextG τok 6 1 #[true, true, true, true, true, true, true, false] rfl rfl rfl (by kernel_rfl) ?_
          obtain ⟨u1, t1, u2, t2, u3, t3, rfl, ff⟩ := hd1
          obtain ⟨v1, r1, v2, r2, v3, r3, v4, r4, rfl, gg⟩ := hd3
          refine stN (vs := [.slice u1 p.funs.length t1, .slice u2 p.bodies.length t2, .slice u3 p.main.length t3]) hB5 rfl (by simp [Value.oneCell']) fun uA hB5 hsA hkA => ?_
          have hB6 := hB6.kp hkA (by simp; omega)
          have kA : Kp [] w4 uA := k4.trans hkA (fun x hx hl => by simp at hx; omega)
          refine ⟨.inl kA, ?_⟩
          refine nextG τok 7 0 #[true, true, true, true, true, true, true, true] rfl rfl rfl (by kernel_rfl) ?_
          refine stN (vs := [.slice v1 q.bodies.length r1, .slice v2 q.shapes.length r2, .slice v3 q.main.length r3, .int .i64 q.nat, .slice v4 q.prims.length r4]) hB6 rfl (by simp [Value.oneCell']) fun uB hB6 hsB hkB => ?_
          have hB5 := hB5.kp hkB (by simp; omega)
          have kB : Kp [] w4 uB := kA.trans hkB (fun x hx hl => by simp at hx; omega)
          refine ⟨.inl kB, ?_⟩
          refine doneG (by kernel_rfl) ?_
          refine ⟨(b5, b6), rfl, ⟨rfl, rfl, rfl, rfl, trivial⟩, kB, _, _, hB5, hB6, ?_, ?_⟩
          · exact rFlt.mono (fun b o v h => NewX.new b o v (NewX.kp hkB (by simp) b o v (NewX.kp hkA (by simp) b o v h))) ⟨u1, t1, u2, t2, u3, t3, rfl, ff⟩
          · exact rBrd.mono (fun b o v h => NewX.new b o v (NewX.kp hkB (by simp) b o v (NewX.kp hkA (by simp) b o v h))) ⟨v1, r1, v2, r2, v3, r3, v4, r4, rfl, gg⟩
      · skip
        refine new fun b6 u2 hb6 hB6 hs2 hk2 => ?_
        have l6 := hB6.lt
        have d5_6 : b5 < b6 := by have := hB5.lt; omega
        have hB5 := hB5.kp hk2 (by simp)
        have l5 := hB5.lt
        have k2 := k1.tr hk2
        have n6 : w4.heap.size ≤ b6 := by have := k1.size; simp only [hb6]; exact this
        refine ⟨.inl k2, ?_⟩
        refine nextG τok 1 3 #[true, true, true, false, true, true, false, false] rfl rfl rfl (by kernel_rfl) ?_
        refine ev_call (copyFlat_ct (hS4.tr k2) hp0) ?_
        rintro e u3 ⟨cs1, rfl, hd1, hk3⟩
        have hd1 : rFlt.den (NewX w4.heap.size [b6, b5] u3) cs1 _ := rFlt.mono (NewX.of (by have := k2.size; exact this) (by simp; omega)) hd1
        have hB6 := hB6.kp hk3 (by simp)
        have l6 := hB6.lt
        have hB5 := hB5.kp hk3 (by simp)
        have l5 := hB5.lt
        have k3 := k2.tr hk3
        refine ⟨.inl k3, ?_⟩
        refine nextG τok 3 2 #[true, true, true, true, true, true, false, false] rfl rfl rfl (by kernel_rfl) ?_
        refine ev_call (copyBared_ct (hS4.tr k3) hq0) ?_
        rintro e u4 ⟨cs3, rfl, hd3, hk4⟩
        have hd3 : rBrd.den (NewX w4.heap.size [b6, b5] u4) cs3 _ := rBrd.mono (NewX.of (by have := k3.size; exact this) (by simp; omega)) hd3
        have hB6 := hB6.kp hk4 (by simp)
        have l6 := hB6.lt
        have hB5 := hB5.kp hk4 (by simp)
        have l5 := hB5.lt
        have hd1 := rFlt.mono (NewX.kp hk4 (by simp)) hd1
        have k4 := k3.tr hk4
        refine ⟨.inl k4, ?_⟩
        refine nextG τok 6 1 #[true, true, true, true, true, true, true, false] rfl rfl rfl (by kernel_rfl) ?_
        obtain ⟨u1, t1, u2, t2, u3, t3, rfl, ff⟩ := hd1
        obtain ⟨v1, r1, v2, r2, v3, r3, v4, r4, rfl, gg⟩ := hd3
        refine stN (vs := [.slice u1 p.funs.length t1, .slice u2 p.bodies.length t2, .slice u3 p.main.length t3]) hB5 rfl (by simp [Value.oneCell']) fun uA hB5 hsA hkA => ?_
        have hB6 := hB6.kp hkA (by simp; omega)
        have kA : Kp [] w4 uA := k4.trans hkA (fun x hx hl => by simp at hx; omega)
        refine ⟨.inl kA, ?_⟩
        refine nextG τok 7 0 #[true, true, true, true, true, true, true, true] rfl rfl rfl (by kernel_rfl) ?_
        refine stN (vs := [.slice v1 q.bodies.length r1, .slice v2 q.shapes.length r2, .slice v3 q.main.length r3, .int .i64 q.nat, .slice v4 q.prims.length r4]) hB6 rfl (by simp [Value.oneCell']) fun uB hB6 hsB hkB => ?_
        have hB5 := hB5.kp hkB (by simp; omega)
        have kB : Kp [] w4 uB := kA.trans hkB (fun x hx hl => by simp at hx; omega)
        refine ⟨.inl kB, ?_⟩
        refine doneG (by kernel_rfl) ?_
        refine ⟨(b5, b6), rfl, ⟨rfl, rfl, rfl, rfl, trivial⟩, kB, _, _, hB5, hB6, ?_, ?_⟩
        · exact rFlt.mono (fun b o v h => NewX.new b o v (NewX.kp hkB (by simp) b o v (NewX.kp hkA (by simp) b o v h))) ⟨u1, t1, u2, t2, u3, t3, rfl, ff⟩
        · exact rBrd.mono (fun b o v h => NewX.new b o v (NewX.kp hkB (by simp) b o v (NewX.kp hkA (by simp) b o v h))) ⟨v1, r1, v2, r2, v3, r3, v4, r4, rfl, gg⟩
    · skip
      refine new fun b6 u1 hb6 hB6 hs1 hk1 => ?_
      have l6 := hB6.lt
      have k1 := k0.tr hk1
      have n6 : w4.heap.size ≤ b6 := by have := k0.size; simp only [hb6]; exact this
      refine ⟨.inl k1, ?_⟩
      refine twoG τok 1 4 4 #[true, true, true, false, false, true, false, false] #[true, false, true, false, true, true, false, false] rfl rfl rfl rfl rfl (by kernel_rfl) ?_ ?_
      · skip
        refine ev_call (copyFlat_ct (hS4.tr k1) hp0) ?_
        rintro e u2 ⟨cs1, rfl, hd1, hk2⟩
        have hd1 : rFlt.den (NewX w4.heap.size [b6] u2) cs1 _ := rFlt.mono (NewX.of (by have := k1.size; exact this) (by simp; omega)) hd1
        have hB6 := hB6.kp hk2 (by simp)
        have l6 := hB6.lt
        have k2 := k1.tr hk2
        refine ⟨.inl k2, ?_⟩
        refine twoG τok 3 4 3 #[true, true, true, true, false, true, false, false] #[true, true, true, false, true, true, false, false] rfl rfl rfl rfl rfl (by kernel_rfl) ?_ ?_
        · skip
          refine ev_call (copyBared_ct (hS4.tr k2) hq0) ?_
          rintro e u3 ⟨cs3, rfl, hd3, hk3⟩
          have hd3 : rBrd.den (NewX w4.heap.size [b6] u3) cs3 _ := rBrd.mono (NewX.of (by have := k2.size; exact this) (by simp; omega)) hd3
          have hB6 := hB6.kp hk3 (by simp)
          have l6 := hB6.lt
          have hd1 := rFlt.mono (NewX.kp hk3 (by simp)) hd1
          have k3 := k2.tr hk3
          refine ⟨.inl k3, ?_⟩
          refine nextG τok 4 2 #[true, true, true, true, true, true, false, false] rfl rfl rfl (by kernel_rfl) ?_
          refine new fun b5 u4 hb5 hB5 hs4 hk4 => ?_
          have l5 := hB5.lt
          have d6_5 : b6 < b5 := by have := hB6.lt; omega
          have hB6 := hB6.kp hk4 (by simp)
          have l6 := hB6.lt
          have hd1 := rFlt.mono (NewX.more hk4 (Nat.le_of_eq hb5.symm)) hd1
          have hd3 := rBrd.mono (NewX.more hk4 (Nat.le_of_eq hb5.symm)) hd3
          have k4 := k3.tr hk4
          have n5 : w4.heap.size ≤ b5 := by have := k3.size; simp only [hb5]; exact this
          refine ⟨.inl k4, ?_⟩
          refine nextG τok 6 1 #[true, true, true, true, true, true, true, false] rfl rfl rfl (by kernel_rfl) ?_
          obtain ⟨u1, t1, u2, t2, u3, t3, rfl, ff⟩ := hd1
          obtain ⟨v1, r1, v2, r2, v3, r3, v4, r4, rfl, gg⟩ := hd3
          refine stN (vs := [.slice u1 p.funs.length t1, .slice u2 p.bodies.length t2, .slice u3 p.main.length t3]) hB5 rfl (by simp [Value.oneCell']) fun uA hB5 hsA hkA => ?_
          have hB6 := hB6.kp hkA (by simp; omega)
          have kA : Kp [] w4 uA := k4.trans hkA (fun x hx hl => by simp at hx; omega)
          refine ⟨.inl kA, ?_⟩
          refine nextG τok 7 0 #[true, true, true, true, true, true, true, true] rfl rfl rfl (by kernel_rfl) ?_
          refine stN (vs := [.slice v1 q.bodies.length r1, .slice v2 q.shapes.length r2, .slice v3 q.main.length r3, .int .i64 q.nat, .slice v4 q.prims.length r4]) hB6 rfl (by simp [Value.oneCell']) fun uB hB6 hsB hkB => ?_
          have hB5 := hB5.kp hkB (by simp; omega)
          have kB : Kp [] w4 uB := kA.trans hkB (fun x hx hl => by simp at hx; omega)
          refine ⟨.inl kB, ?_⟩
          refine doneG (by kernel_rfl) ?_
          refine ⟨(b5, b6), rfl, ⟨rfl, rfl, rfl, rfl, trivial⟩, kB, _, _, hB5, hB6, ?_, ?_⟩
          · exact rFlt.mono (fun b o v h => NewX.new b o v (NewX.kp hkB (by simp) b o v (NewX.kp hkA (by simp) b o v h))) ⟨u1, t1, u2, t2, u3, t3, rfl, ff⟩
          · exact rBrd.mono (fun b o v h => NewX.new b o v (NewX.kp hkB (by simp) b o v (NewX.kp hkA (by simp) b o v h))) ⟨v1, r1, v2, r2, v3, r3, v4, r4, rfl, gg⟩
        · skip
          refine new fun b5 u3 hb5 hB5 hs3 hk3 => ?_
          have l5 := hB5.lt
          have d6_5 : b6 < b5 := by have := hB6.lt; omega
          have hB6 := hB6.kp hk3 (by simp)
          have l6 := hB6.lt
          have hd1 := rFlt.mono (NewX.more hk3 (Nat.le_of_eq hb5.symm)) hd1
          have k3 := k2.tr hk3
          have n5 : w4.heap.size ≤ b5 := by have := k2.size; simp only [hb5]; exact this
          refine ⟨.inl k3, ?_⟩
          refine nextG τok 3 2 #[true, true, true, true, true, true, false, false] rfl rfl rfl (by kernel_rfl) ?_
          refine ev_call (copyBared_ct (hS4.tr k3) hq0) ?_
          rintro e u4 ⟨cs3, rfl, hd3, hk4⟩
          have hd3 : rBrd.den (NewX w4.heap.size [b5, b6] u4) cs3 _ := rBrd.mono (NewX.of (by have := k3.size; exact this) (by simp; omega)) hd3
          have hB5 := hB5.kp hk4 (by simp)
          have l5 := hB5.lt
          have hB6 := hB6.kp hk4 (by simp)
          have l6 := hB6.lt
          have hd1 := rFlt.mono (NewX.kp hk4 (by simp)) hd1
          have k4 := k3.tr hk4
          refine ⟨.inl k4, ?_⟩
          refine nextG τok 6 1 #[true, true, true, true, true, true, true, false] rfl rfl rfl (by kernel_rfl) ?_
          obtain ⟨u1, t1, u2, t2, u3, t3, rfl, ff⟩ := hd1
          obtain ⟨v1, r1, v2, r2, v3, r3, v4, r4, rfl, gg⟩ := hd3
          refine stN (vs := [.slice u1 p.funs.length t1, .slice u2 p.bodies.length t2, .slice u3 p.main.length t3]) hB5 rfl (by simp [Value.oneCell']) fun uA hB5 hsA hkA => ?_
          have hB6 := hB6.kp hkA (by simp; omega)
          have kA : Kp [] w4 uA := k4.trans hkA (fun x hx hl => by simp at hx; omega)
          refine ⟨.inl kA, ?_⟩
          refine nextG τok 7 0 #[true, true, true, true, true, true, true, true] rfl rfl rfl (by kernel_rfl) ?_
          refine stN (vs := [.slice v1 q.bodies.length r1, .slice v2 q.shapes.length r2, .slice v3 q.main.length r3, .int .i64 q.nat, .slice v4 q.prims.length r4]) hB6 rfl (by simp [Value.oneCell']) fun uB hB6 hsB hkB => ?_
          have hB5 := hB5.kp hkB (by simp; omega)
          have kB : Kp [] w4 uB := kA.trans hkB (fun x hx hl => by simp at hx; omega)
          refine ⟨.inl kB, ?_⟩
          refine doneG (by kernel_rfl) ?_
          refine ⟨(b5, b6), rfl, ⟨rfl, rfl, rfl, rfl, trivial⟩, kB, _, _, hB5, hB6, ?_, ?_⟩
          · exact rFlt.mono (fun b o v h => NewX.new b o v (NewX.kp hkB (by simp) b o v (NewX.kp hkA (by simp) b o v h))) ⟨u1, t1, u2, t2, u3, t3, rfl, ff⟩
          · exact rBrd.mono (fun b o v h => NewX.new b o v (NewX.kp hkB (by simp) b o v (NewX.kp hkA (by simp) b o v h))) ⟨v1, r1, v2, r2, v3, r3, v4, r4, rfl, gg⟩
      · skip
        refine new fun b5 u2 hb5 hB5 hs2 hk2 => ?_
        have l5 := hB5.lt
        have d6_5 : b6 < b5 := by have := hB6.lt; omega
        have hB6 := hB6.kp hk2 (by simp)
        have l6 := hB6.lt
        have k2 := k1.tr hk2
        have n5 : w4.heap.size ≤ b5 := by have := k1.size; simp only [hb5]; exact this
        refine ⟨.inl k2, ?_⟩
        refine nextG τok 1 3 #[true, true, true, false, true, true, false, false] rfl rfl rfl (by kernel_rfl) ?_
        refine ev_call (copyFlat_ct (hS4.tr k2) hp0) ?_
        rintro e u3 ⟨cs1, rfl, hd1, hk3⟩
        have hd1 : rFlt.den (NewX w4.heap.size [b5, b6] u3) cs1 _ := rFlt.mono (NewX.of (by have := k2.size; exact this) (by simp; omega)) hd1
        have hB5 := hB5.kp hk3 (by simp)
        have l5 := hB5.lt
        have hB6 := hB6.kp hk3 (by simp)
        have l6 := hB6.lt
        have k3 := k2.tr hk3
        refine ⟨.inl k3, ?_⟩
        refine nextG τok 3 2 #[true, true, true, true, true, true, false, false] rfl rfl rfl (by kernel_rfl) ?_
        refine ev_call (copyBared_ct (hS4.tr k3) hq0) ?_
        rintro e u4 ⟨cs3, rfl, hd3, hk4⟩
        have hd3 : rBrd.den (NewX w4.heap.size [b5, b6] u4) cs3 _ := rBrd.mono (NewX.of (by have := k3.size; exact this) (by simp; omega)) hd3
        have hB5 := hB5.kp hk4 (by simp)
        have l5 := hB5.lt
        have hB6 := hB6.kp hk4 (by simp)
        have l6 := hB6.lt
        have hd1 := rFlt.mono (NewX.kp hk4 (by simp)) hd1
        have k4 := k3.tr hk4
        refine ⟨.inl k4, ?_⟩
        refine nextG τok 6 1 #[true, true, true, true, true, true, true, false] rfl rfl rfl (by kernel_rfl) ?_
        obtain ⟨u1, t1, u2, t2, u3, t3, rfl, ff⟩ := hd1
        obtain ⟨v1, r1, v2, r2, v3, r3, v4, r4, rfl, gg⟩ := hd3
        refine stN (vs := [.slice u1 p.funs.length t1, .slice u2 p.bodies.length t2, .slice u3 p.main.length t3]) hB5 rfl (by simp [Value.oneCell']) fun uA hB5 hsA hkA => ?_
        have hB6 := hB6.kp hkA (by simp; omega)
        have kA : Kp [] w4 uA := k4.trans hkA (fun x hx hl => by simp at hx; omega)
        refine ⟨.inl kA, ?_⟩
        refine nextG τok 7 0 #[true, true, true, true, true, true, true, true] rfl rfl rfl (by kernel_rfl) ?_
        refine stN (vs := [.slice v1 q.bodies.length r1, .slice v2 q.shapes.length r2, .slice v3 q.main.length r3, .int .i64 q.nat, .slice v4 q.prims.length r4]) hB6 rfl (by simp [Value.oneCell']) fun uB hB6 hsB hkB => ?_
        have hB5 := hB5.kp hkB (by simp; omega)
        have kB : Kp [] w4 uB := kA.trans hkB (fun x hx hl => by simp at hx; omega)
        refine ⟨.inl kB, ?_⟩
        refine doneG (by kernel_rfl) ?_
        refine ⟨(b5, b6), rfl, ⟨rfl, rfl, rfl, rfl, trivial⟩, kB, _, _, hB5, hB6, ?_, ?_⟩
        · exact rFlt.mono (fun b o v h => NewX.new b o v (NewX.kp hkB (by simp) b o v (NewX.kp hkA (by simp) b o v h))) ⟨u1, t1, u2, t2, u3, t3, rfl, ff⟩
        · exact rBrd.mono (fun b o v h => NewX.new b o v (NewX.kp hkB (by simp) b o v (NewX.kp hkA (by simp) b o v h))) ⟨v1, r1, v2, r2, v3, r3, v4, r4, rfl, gg⟩
  rintro ⟨b5, b6⟩ w5 ⟨k45, cf', cg', hB5, hB6, hdp, hdq⟩
  refine ev_of τok ?_
  simp only at hB5 hB6
  have hdp0 := hdp
  have hdq0 := hdq
  obtain ⟨u1, t1, u2, t2, u3, t3, rfl, _⟩ := hdp
  obtain ⟨v1, r1, v2, r2, v3, r3, v4, r4, rfl, _⟩ := hdq
  have k05 := hk04.tr k45
  have hB2 := hB2.kp k45 (by simp)
  have hB3 := hB3.kp k45 (by simp)
  have hS5 : Sub (orM C (New w4.heap.size w5)) w5 := orM_sub (hS.tr k05) (New.sub _ _)
  have hp5 : rFlt.den (orM C (New w4.heap.size w5)) [.slice u1 p.funs.length t1, .slice u2 p.bodies.length t2, .slice u3 p.main.length t3] p := rFlt.mono (fun b o v hv => .inr hv) hdp0
  have hq5 : rBrd.den (orM C (New w4.heap.size w5)) [.slice v1 q.bodies.length r1, .slice v2 q.shapes.length r2, .slice v3 q.main.length r3, .int .i64 q.nat, .slice v4 q.prims.length r4] q := rBrd.mono (fun b o v hv => .inr hv) hdq0
  obtain ⟨M, hM⟩ : ∃ m, makeM p q = m := ⟨_, rfl⟩
  have mk5 := fun {w} (h : Sub (orM C (New w4.heap.size w5)) w) => make_ct h hT.or hp5 hq5 hw
  rw [hM] at mk5
  have mk21 := fun {w} (h : Sub C w) => make21_ct h hp0 hq0 hw
  rw [hM] at mk21
  refine ldN _ rfl (fun j v hj => by rw [Nat.zero_add]; exact hB5.cl hj) ?_
  refine ldN _ rfl (fun j v hj => by rw [Nat.zero_add]; exact hB6.cl hj) ?_
  refine ev_call (mk5 hS5) ?_
  rintro e w6 ⟨cs6, rfl, hd6, hk6⟩
  obtain ⟨x1, y1, x2, y2, x3, y3, x4, y4, rfl, hshp, _, _, hins, _⟩ := hd6
  refine new fun b7 w7 hb7 hB7 hs7 hk7 => ?_
  refine stN (vs := [.int .i64 M.1.nat, .slice x1 M.1.shapes.length y1, .slice x2 M.1.funs.length y2, .slice x3 M.1.bodies.length y3, .slice x4 M.1.main.length y4]) hB7 rfl (by simp [Value.oneCell']) fun w8 hB7 hs8 hk8 => ?_
  have k68 : Kp [] w6 w8 := hk7.newSt hb7 hk8
  have k58 := hk6.tr k68
  have z56 := hk6.size
  have hb7l := hB7.lt
  obtain ⟨lo, hlo⟩ : ∃ n, n = w5.heap.size := ⟨_, rfl⟩
  obtain ⟨hi, hhi⟩ : ∃ n, n = w8.heap.size := ⟨_, rfl⟩
  have hins : Sl rIns (fun b o v => lo ≤ b ∧ b < hi ∧ Cu w8.heap b o v) x4 M.1.main := hins.mono fun b o v h => ⟨by have := h.1; omega, by have := (h.2.kp k68 (by simp)).lt; omega, h.2.kp k68 (by simp)⟩
  have hshp : Sl rShp (fun b o v => lo ≤ b ∧ b < hi ∧ Cu w8.heap b o v) x1 M.1.shapes := hshp.mono fun b o v h => ⟨by have := h.1; omega, by have := (h.2.kp k68 (by simp)).lt; omega, h.2.kp k68 (by simp)⟩
  obtain ⟨E, hE⟩ : ∃ e, M.2 = e := ⟨_, rfl⟩
  rw [hE] at mk5 mk21
  rw [hE]
  obtain ⟨nm, hnm⟩ : ∃ n, M.1.main.length = n := ⟨_, rfl⟩
  obtain ⟨ns, hns⟩ : ∃ n, M.1.shapes.length = n := ⟨_, rfl⟩
  have hnml := hins.1
  have hnsl := hshp.1
  have at4 : ∀ {u}, Scs lo hi w8 u → Cl u.heap b7 4 (.slice x4 M.1.main.length y4) := fun h => h.sl (hB7.cu rfl)
  have at1 : ∀ {u}, Scs lo hi w8 u → Cl u.heap b7 1 (.slice x1 M.1.shapes.length y1) := fun h => h.sl (hB7.cu rfl)
  rw [hnm] at at4 hnml
  rw [hns] at at1 hnsl
  refine lp τok (σ := Nat) (fun i => [(2, .pointer (some ⟨b2, 0, none⟩)), (3, .pointer (some ⟨b3, 0, none⟩)), (5, .pointer (some ⟨b5, 0, none⟩)), (6, .pointer (some ⟨b6, 0, none⟩)), (7, .pointer (some ⟨b7, 0, none⟩)), (9, .int .i64 i)]) (fun i u => Scs lo hi w8 u) (fun i => nm - i) 0 rfl ⟨rfl, rfl, rfl, rfl, rfl, rfl, trivial⟩ (Scs.refl _ _ _) ?_
  rintro i u hs
  refine ld (at4 hs).cell ?_
  refine br_dec (fun g3 => ?_) (fun g3 => ?_)
  · have hlt : i < nm := by omega
    obtain ⟨n, hn, _⟩ := drop_get (l := M.1.main) (k := i) (by omega)
    obtain ⟨bm, om, hax, an, tc, hto, _, _, _, hcells⟩ := sl_ins hins hn
    subst hax
    have htl := hto.1
    have q0 := hcells 0 _ rfl
    have q3 : ∀ {u}, Scs lo hi w8 u → Cl u.heap bm (om + i * 4 + 3) (.slice an n.to.length tc) := fun h => h.sl (hcells 3 _ rfl).2.2
    obtain ⟨m0, hm0⟩ := hs.int q0.2.2
    refine ld (at4 hs).cell ?_
    refine ix i rfl hlt ?_
    refine stS hs hm0 rfl q0.1 q0.2.1 fun u' hs' => ?_
    refine lp τok (σ := Nat) (fun j => [(2, .pointer (some ⟨b2, 0, none⟩)), (3, .pointer (some ⟨b3, 0, none⟩)), (5, .pointer (some ⟨b5, 0, none⟩)), (6, .pointer (some ⟨b6, 0, none⟩)), (7, .pointer (some ⟨b7, 0, none⟩)), (9, .int .i64 i), (10, .int .i64 j)]) (fun j u => Scs lo hi w8 u) (fun j => n.to.length - j) 0 rfl ⟨rfl, rfl, rfl, rfl, rfl, rfl, rfl, trivial⟩ hs' ?_
    clear hs hs'
    rintro j u hs
    refine ld (at4 hs).cell ?_
    refine ix i rfl hlt ?_
    refine ld (q3 hs).cell ?_
    refine br_dec (fun g4 => ?_) (fun g4 => ?_)
    · have hltj : j < n.to.length := by omega
      obtain ⟨x, hx, _⟩ := drop_get hltj
      obtain ⟨bt, ot, hat, ⟨n1, n2, hcu⟩, _⟩ := hto.int hx
      subst hat
      obtain ⟨m, hm⟩ := hs.int hcu
      refine ld (at4 hs).cell ?_
      refine ix i rfl hlt ?_
      refine ld (q3 hs).cell ?_
      refine ix j rfl hltj ?_
      refine stS hs hm rfl n1 n2 fun u' hs' => ?_
      refine int64 (by omega) (by omega) ?_
      exact ⟨j + 1, by omega, rfl, ⟨rfl, rfl, rfl, rfl, rfl, rfl, rfl, trivial⟩, hs'⟩
    · refine int64 (by omega) (by omega) ?_
      exact ⟨i + 1, by omega, rfl, ⟨rfl, rfl, rfl, rfl, rfl, rfl, trivial⟩, hs⟩
  refine lp τok (σ := Nat) (fun i => [(2, .pointer (some ⟨b2, 0, none⟩)), (3, .pointer (some ⟨b3, 0, none⟩)), (5, .pointer (some ⟨b5, 0, none⟩)), (6, .pointer (some ⟨b6, 0, none⟩)), (7, .pointer (some ⟨b7, 0, none⟩)), (11, .int .i64 i)]) (fun i u => Scs lo hi w8 u) (fun i => ns - i) 0 rfl ⟨rfl, rfl, rfl, rfl, rfl, rfl, trivial⟩ hs ?_
  clear hs g3
  clear u i
  rintro i u hs
  refine ld (at1 hs).cell ?_
  refine br_dec (fun g3 => ?_) (fun g3 => ?_)
  · have hlt : i < ns := by omega
    obtain ⟨s, hsh, _⟩ := drop_get (l := M.1.shapes) (k := i) (by omega)
    obtain ⟨bm, om, hax, ak, ck, hkept, _, hcp, hck⟩ := sl_shp hshp hsh
    subst hax
    have hkl := hkept.1
    have q1 : ∀ {u}, Scs lo hi w8 u → Cl u.heap bm (om + i * 2 + 1) (.slice ak s.kept.length ck) := fun h => h.sl hck.2.2
    refine lp τok (σ := Nat) (fun j => [(2, .pointer (some ⟨b2, 0, none⟩)), (3, .pointer (some ⟨b3, 0, none⟩)), (5, .pointer (some ⟨b5, 0, none⟩)), (6, .pointer (some ⟨b6, 0, none⟩)), (7, .pointer (some ⟨b7, 0, none⟩)), (11, .int .i64 i), (12, .int .i64 j)]) (fun j u => Scs lo hi w8 u) (fun j => s.kept.length - j) 0 rfl ⟨rfl, rfl, rfl, rfl, rfl, rfl, rfl, trivial⟩ hs ?_
    clear hs
    rintro j u hs
    refine ld (at1 hs).cell ?_
    refine ix i rfl hlt ?_
    refine ld (q1 hs).cell ?_
    refine br_dec (fun g4 => ?_) (fun g4 => ?_)
    · have hltj : j < s.kept.length := by omega
      obtain ⟨x, hx, _⟩ := drop_get hltj
      obtain ⟨bt, ot, hat, ax, cx, hcell, hsx⟩ := hkept.sl hx
      subst hat
      have hxl := hsx.1
      have q2 : ∀ {u}, Scs lo hi w8 u → Cl u.heap bt (ot + j * 1) (.slice ax x.length cx) := fun h => h.sl hcell.2.2
      refine lp τok (σ := Nat) (fun k => [(2, .pointer (some ⟨b2, 0, none⟩)), (3, .pointer (some ⟨b3, 0, none⟩)), (5, .pointer (some ⟨b5, 0, none⟩)), (6, .pointer (some ⟨b6, 0, none⟩)), (7, .pointer (some ⟨b7, 0, none⟩)), (11, .int .i64 i), (12, .int .i64 j), (13, .int .i64 k)]) (fun k u => Scs lo hi w8 u) (fun k => x.length - k) 0 rfl ⟨rfl, rfl, rfl, rfl, rfl, rfl, rfl, rfl, trivial⟩ hs ?_
      clear hs
      rintro k u hs
      refine ld (at1 hs).cell ?_
      refine ix i rfl hlt ?_
      refine ld (q1 hs).cell ?_
      refine ix j rfl hltj ?_
      refine ld (q2 hs).cell ?_
      refine br_dec (fun g5 => ?_) (fun g5 => ?_)
      · have hltk : k < x.length := by omega
        obtain ⟨y, hy, _⟩ := drop_get hltk
        obtain ⟨by', oy, hay, n1, n2, hcu⟩ := hsx.bool hy
        subst hay
        obtain ⟨m, hm⟩ := hs.bool hcu
        refine drawG τok (fun u' => Scs lo hi w8 u' ∧ Cu u'.heap by' (oy + k * 1) (.bool m)) ?_
        refine readsG τok [0, 1, 2, 3, 4, 5, 6, 7, 8, 9, 10, 11, 12, 13, 14, 15, 16, 17, 18, 19, 20, 21, 22] 2 #[true, true, true, true, true, true, true, true, true, true, true, true, true, true, true, true, true, true, true, true, true, true, true, false, false] rfl rfl (by kernel_rfl) (by kernel_rfl) (by kernel_rfl) ⟨hs.dr _, hm⟩ ?_
        refine ldQ (fun z hz => at1 hz.1) ?_
        refine ix i rfl hlt ?_
        refine ldQ (fun z hz => q1 hz.1) ?_
        refine ix j rfl hltj ?_
        refine ldQ (fun z hz => q2 hz.1) ?_
        refine ldQ (fun z hz => at1 hz.1) ?_
        refine ix i rfl hlt ?_
        refine ldQ (fun z hz => q1 hz.1) ?_
        refine ix j rfl hltj ?_
        refine ldQ (fun z hz => q2 hz.1) ?_
        refine ix k rfl hltk ?_
        refine ldQ (fun z hz => hz.2.cl) ?_
        refine nextG τok 23 1 #[true, true, true, true, true, true, true, true, true, true, true, true, true, true, true, true, true, true, true, true, true, true, true, true, false] rfl rfl rfl (by kernel_rfl) ?_
        refine ix k rfl hltk ?_
        refine ⟨.inl ⟨hs.dr _, hm⟩, ?_⟩
        refine nextG τok 24 0 #[true, true, true, true, true, true, true, true, true, true, true, true, true, true, true, true, true, true, true, true, true, true, true, true, true] rfl rfl rfl (by kernel_rfl) ?_
        refine stS (hs.dr _) hm trivial n1 n2 fun u' hs' => ?_
        refine ⟨.inr (by kernel_rfl), ?_⟩
        refine doneG (by kernel_rfl) ?_
        refine int64 (by omega) (by omega) ?_
        exact ⟨k + 1, by omega, rfl, ⟨rfl, rfl, rfl, rfl, rfl, rfl, rfl, rfl, trivial⟩, hs'⟩
      · refine int64 (by omega) (by omega) ?_
        exact ⟨j + 1, by omega, rfl, ⟨rfl, rfl, rfl, rfl, rfl, rfl, rfl, trivial⟩, hs⟩
    · refine int64 (by omega) (by omega) ?_
      exact ⟨i + 1, by omega, rfl, ⟨rfl, rfl, rfl, rfl, rfl, rfl, trivial⟩, hs⟩
  have k5u : Kp [] w5 u := hs.kp k58 (by omega)
  have k0u := k05.tr k5u
  have hB2u := hB2.kp k5u (by simp)
  have hB3u := hB3.kp k5u (by simp)
  have hB5u := hB5.kp k5u (by simp)
  have hB6u := hB6.kp k5u (by simp)
  refine ldN _ rfl (fun j v hj => by rw [Nat.zero_add]; exact hB5u.cl hj) ?_
  refine ldN _ rfl (fun j v hj => by rw [Nat.zero_add]; exact hB6u.cl hj) ?_
  refine ev_call (mk5 (hS5.tr k5u)) ?_
  rintro e w9 ⟨cs9, rfl, hd9, hk9⟩
  have hd9' := hd9
  obtain ⟨s1, o1, s2, o2, s3, o3, s4, o4, rfl, _⟩ := hd9
  refine new fun b14 w10 hb14 hB14 hs10 hk10 => ?_
  refine stN (vs := [.int .i64 M.1.nat, .slice s1 M.1.shapes.length o1, .slice s2 M.1.funs.length o2, .slice s3 M.1.bodies.length o3, .slice s4 M.1.main.length o4]) hB14 rfl (by simp [Value.oneCell']) fun w11 hB14 hs11 hk11 => ?_
  have k911 : Kp [] w9 w11 := hk10.newSt hb14 hk11
  have ku11 := hk9.tr k911
  have hB2u := hB2u.kp ku11 (by simp)
  have hB3u := hB3u.kp ku11 (by simp)
  refine ldN _ rfl (fun j v hj => by rw [Nat.zero_add]; exact hB2u.cl hj) ?_
  refine ldN _ rfl (fun j v hj => by rw [Nat.zero_add]; exact hB3u.cl hj) ?_
  refine ev_call (mk21 (hS.tr (k0u.tr ku11))) ?_
  rintro e w12 ⟨cs12, rfl, hd12, hk12⟩
  have hd12' := hd12
  obtain ⟨m1, l1, m2, l2, m3, l3, m4, l4, rfl, _⟩ := hd12
  refine new fun b16 w13 hb16 hB16 hs13 hk13 => ?_
  refine stN (vs := [.int .i64 M.1.nat, .slice m1 M.1.shapes.length l1, .slice m2 M.1.funs.length l2, .slice m3 M.1.bodies.length l3, .slice m4 M.1.main.length l4]) hB16 rfl (by simp [Value.oneCell']) fun w14 hB16 hs14 hk14 => ?_
  have k1214 : Kp [] w12 w14 := hk13.newSt hb16 hk14
  have k1114 := hk12.tr k1214
  have ku14 := ku11.tr k1114
  have k014 := k0u.tr ku14
  have hB2v := hB2u.kp k1114 (by simp)
  have hB3v := hB3u.kp k1114 (by simp)
  have hB5v := hB5u.kp ku14 (by simp)
  have hB6v := hB6u.kp ku14 (by simp)
  have hB14v := hB14.kp k1114 (by simp)
  have hS14 : Sub (New w4.heap.size w5) w14 := (New.sub w4.heap.size w5).tr (k5u.tr ku14)
  refine ldN _ rfl (fun j v hj => by rw [Nat.zero_add]; exact hB2v.cl hj) ?_
  refine ldN _ rfl (fun j v hj => by rw [Nat.zero_add]; exact hB5v.cl hj) ?_
  refine ev_call (sameFlatted_ct (hS.tr k014) hS14 p hp0 hdp0) ?_
  rintro e w15 ⟨rfl, hk15⟩
  refine ldN _ rfl (fun j v hj => by rw [Nat.zero_add]; exact (hB3v.kp hk15 (by simp)).cl hj) ?_
  refine ldN _ rfl (fun j v hj => by rw [Nat.zero_add]; exact (hB6v.kp hk15 (by simp)).cl hj) ?_
  refine ev_call (sameBrd_ct (hS.tr (k014.tr hk15)) (hS14.tr hk15) q hq0 hdq0) ?_
  rintro e w16 ⟨rfl, hk16⟩
  have k1416 := hk15.tr hk16
  refine br_dec (fun _ => ?_) (fun g9 => ?_)
  · refine ldN _ rfl (fun j v hj => by rw [Nat.zero_add]; exact (hB14v.kp k1416 (by simp)).cl hj) ?_
    refine ldN _ rfl (fun j v hj => by rw [Nat.zero_add]; exact (hB16.kp k1416 (by simp)).cl hj) ?_
    refine ev_call (same20_ct ((New.sub u.heap.size w9).tr ((k911.tr k1114).tr k1416)) ((New.sub w11.heap.size w12).tr (k1214.tr k1416)) M.1 hd9' hd12') ?_
    rintro e w17 ⟨rfl, hk17⟩
    exact ⟨rfl, (k014.tr k1416).tr hk17⟩
  · exact absurd rfl g9
end
end Go.Proofs.YtjpdkcejkogciaaDoor

