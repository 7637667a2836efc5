/-
  Code: copies: CopyBared, where no box but shapes is told. (Printed by cdzb.py from CdZb.tmpl.)
-/
import Derived.Test.YtjogpbiilokldaaCdZa
set_option linter.unusedSimpArgs false
set_option linter.unusedVariables false
namespace Go.Wx
theorem ap_none {P : Program} {τ : Tau} (hτ : TauOk P τ) {T e sz bs : Nat} (hs : look τ.slcs T = some (e, sz, bs)) {w : World} {b : Nat} (hB : Bk w.heap b [] e) {k : Value → World → Prop} {ty c : Nat} (h : k (.slice (some ⟨b, 0, none⟩) 0 0) w) :
    EvRun P (Builtin.append_ #[T, T] ty #[.slice (some ⟨b, 0, none⟩) 0 0, .slice none 0 c]) w k := by
  obtain ⟨hu, inf, hinf, hsize, hbs⟩ := hτ.slcs T e sz bs hs
  exact run (append_none T ty e inf hu hinf _ 0 [] (own_bk (base := 0) (sz := sz) (n := 0) hB (Nat.zero_le _) (by simp) (by simp [maxLen])) c) h
end Go.Wx
namespace Go.Proofs.Ytjogpbiilokldaa
open Go.Wx Cd

theorem copyBared_ct {C : Mem} {w : World} (hS : Sub C w) (l : List Shp) (nat : Int) (a : Option Addr) (cap : Nat) (hl : Sl rShp C a l) :
    CallOk Try.prog 48 ∧ Calls Try.prog 48 #[.agg #[.slice none 0 0, .slice a l.length cap, .slice none 0 0, .int .i64 nat, .slice none 0 0]] w
      (fun e w' => ∃ a' c' x y, e = .returned (.agg #[.slice none 0 0, .slice a' l.length c', .slice (some ⟨x, 0, none⟩) 0 0, .int .i64 nat, .slice (some ⟨y, 0, none⟩) 0 0]) ∧ Sl rShp (New w.heap.size w') a' l ∧ Kp [] w w') := by
  refine ⟨⟨_, Try.func48, rfl, by decide⟩, ?_⟩
  have hlen := hl.1
  refine calls_ev (args := [_]) 86 [.cell 2 71] Try.func48 rfl rfl rfl (Nat.le_of_ble_eq_true rfl) ?_
  refine ev_seq τok ?_
  refine new fun b1 w1 hb1 hB1 hs1 hk1 => ?_
  refine new fun b2 w2 hb2 hB2 hs2 hk2 => ?_
  have hB1 : Bk w2.heap b1 [.slice none 0 0, .slice a l.length cap, .slice none 0 0, .int .i64 nat, .slice none 0 0] 71 := Bk.kp hB1 hk2 (by simp)
  have hk02 := hk1.tr hk2
  refine ev_mid τok (fun x : Nat × Nat × Nat => [(1, .pointer (some ⟨b1, 0, none⟩)), (2, .pointer (some ⟨b2, 0, none⟩)), (3, .pointer (some ⟨x.1, 0, none⟩))])
    (fun x w' => Kp [] w2 w' ∧ Bk w'.heap x.1 [.slice none 0 0, .slice none 0 0, .slice (some ⟨x.2.1, 0, none⟩) 0 0, .int .i64 nat, .slice (some ⟨x.2.2, 0, none⟩) 0 0] 71 ∧ w2.heap.size ≤ x.1) ?_ ?_
  · have k0 : Kp [] w2 { w2 with drawn := w2.drawn + 1 } := (Kp.refl [] w2).dr _
    refine drawG τok (fun w' => Kp [] w2 w') ?_
    refine readsG τok [1, 2, 4, 5, 7, 8] 7 #[false, true, true, false, true, true, false, true, true, false, false, false, false] rfl rfl (by kernel_rfl) (by kernel_rfl) (by kernel_rfl) k0 ?_
    refine ldK (hB1.cl rfl) ?_
    refine ldK (hB1.cl rfl) ?_
    refine ldK (hB1.cl rfl) ?_
    refine threeG τok 0 6 11 6 #[true, true, true, false, true, true, false, true, true, false, false, false, false] #[false, true, true, false, true, true, true, true, true, false, false, false, false] #[false, true, true, false, true, true, false, true, true, false, false, true, false] rfl rfl rfl rfl rfl rfl rfl (by kernel_rfl) ?_ ?_ ?_
    · skip
      refine fill [] rfl ?_
      refine new fun b8 u1 hb8 hB8 hs1 hk1 => ?_
      have n8 : w2.heap.size ≤ b8 := by have := k0.size; omega
      have k1 := k0.tr hk1
      refine ⟨.inl k1, ?_⟩
      refine threeG τok 3 6 11 5 #[true, true, true, true, true, true, false, true, true, false, false, false, false] #[true, true, true, false, true, true, true, true, true, false, false, false, false] #[true, true, true, false, true, true, false, true, true, false, false, true, false] rfl rfl rfl rfl rfl rfl rfl (by kernel_rfl) ?_ ?_ ?_
      · skip
        refine ap_none τok rfl hB8 ?_
        refine ⟨.inl k1, ?_⟩
        refine twoG τok 6 11 4 #[true, true, true, true, true, true, true, true, true, false, false, false, false] #[true, true, true, true, true, true, false, true, true, false, false, true, false] rfl rfl rfl rfl rfl (by kernel_rfl) ?_ ?_
        · skip
          refine fill [] rfl ?_
          refine new fun b14 u2 hb14 hB14 hs2 hk2 => ?_
          have hB8 := hB8.kp hk2 (by simp)
          have n14 : w2.heap.size ≤ b14 := by have := k1.size; omega
          have k2 := k1.tr hk2
          refine ⟨.inl k2, ?_⟩
          refine twoG τok 9 11 3 #[true, true, true, true, true, true, true, true, true, true, false, false, false] #[true, true, true, true, true, true, true, true, true, false, false, true, false] rfl rfl rfl rfl rfl (by kernel_rfl) ?_ ?_
          · skip
            refine ap_none τok rfl hB14 ?_
            refine ⟨.inl k2, ?_⟩
            refine twoG τok 10 11 2 #[true, true, true, true, true, true, true, true, true, true, true, false, false] #[true, true, true, true, true, true, true, true, true, true, false, true, false] rfl rfl rfl rfl rfl (by kernel_rfl) ?_ ?_
            · skip
              refine ⟨.inl k2, ?_⟩
              refine nextG τok 11 1 #[true, true, true, true, true, true, true, true, true, true, true, true, false] rfl rfl rfl (by kernel_rfl) ?_
              refine new fun b3 u3 hb3 hB3 hs3 hk3 => ?_
              have hB8 := hB8.kp hk3 (by simp)
              have hB14 := hB14.kp hk3 (by simp)
              have n3 : w2.heap.size ≤ b3 := by have := k2.size; omega
              have k3 := k2.tr hk3
              refine ⟨.inl k3, ?_⟩
              refine nextG τok 12 0 #[true, true, true, true, true, true, true, true, true, true, true, true, true] rfl rfl rfl (by kernel_rfl) ?_
              refine stN (vs := [.slice none 0 0, .slice none 0 0, .slice (some ⟨b8, 0, none⟩) 0 0, .int .i64 nat, .slice (some ⟨b14, 0, none⟩) 0 0]) hB3 rfl (by simp [Value.oneCell']) fun u hB3 hs hk => ?_
              have kk : Kp [] w2 u := k3.trans hk (fun x hx hl => by simp at hx; omega)
              refine ⟨.inl kk, ?_⟩
              refine doneG (by kernel_rfl) ?_
              exact ⟨(b3, b8, b14), rfl, ⟨rfl, rfl, rfl, trivial⟩, kk, hB3, n3⟩
            · skip
              refine new fun b3 u3 hb3 hB3 hs3 hk3 => ?_
              have hB8 := hB8.kp hk3 (by simp)
              have hB14 := hB14.kp hk3 (by simp)
              have n3 : w2.heap.size ≤ b3 := by have := k2.size; omega
              have k3 := k2.tr hk3
              refine ⟨.inl k3, ?_⟩
              refine nextG τok 10 1 #[true, true, true, true, true, true, true, true, true, true, true, true, false] rfl rfl rfl (by kernel_rfl) ?_
              refine ⟨.inl k3, ?_⟩
              refine nextG τok 12 0 #[true, true, true, true, true, true, true, true, true, true, true, true, true] rfl rfl rfl (by kernel_rfl) ?_
              refine stN (vs := [.slice none 0 0, .slice none 0 0, .slice (some ⟨b8, 0, none⟩) 0 0, .int .i64 nat, .slice (some ⟨b14, 0, none⟩) 0 0]) hB3 rfl (by simp [Value.oneCell']) fun u hB3 hs hk => ?_
              have kk : Kp [] w2 u := k3.trans hk (fun x hx hl => by simp at hx; omega)
              refine ⟨.inl kk, ?_⟩
              refine doneG (by kernel_rfl) ?_
              exact ⟨(b3, b8, b14), rfl, ⟨rfl, rfl, rfl, trivial⟩, kk, hB3, n3⟩
          · skip
            refine new fun b3 u3 hb3 hB3 hs3 hk3 => ?_
            have hB8 := hB8.kp hk3 (by simp)
            have hB14 := hB14.kp hk3 (by simp)
            have n3 : w2.heap.size ≤ b3 := by have := k2.size; omega
            have k3 := k2.tr hk3
            refine ⟨.inl k3, ?_⟩
            refine nextG τok 9 2 #[true, true, true, true, true, true, true, true, true, true, false, true, false] rfl rfl rfl (by kernel_rfl) ?_
            refine ap_none τok rfl hB14 ?_
            refine ⟨.inl k3, ?_⟩
            refine nextG τok 10 1 #[true, true, true, true, true, true, true, true, true, true, true, true, false] rfl rfl rfl (by kernel_rfl) ?_
            refine ⟨.inl k3, ?_⟩
            refine nextG τok 12 0 #[true, true, true, true, true, true, true, true, true, true, true, true, true] rfl rfl rfl (by kernel_rfl) ?_
            refine stN (vs := [.slice none 0 0, .slice none 0 0, .slice (some ⟨b8, 0, none⟩) 0 0, .int .i64 nat, .slice (some ⟨b14, 0, none⟩) 0 0]) hB3 rfl (by simp [Value.oneCell']) fun u hB3 hs hk => ?_
            have kk : Kp [] w2 u := k3.trans hk (fun x hx hl => by simp at hx; omega)
            refine ⟨.inl kk, ?_⟩
            refine doneG (by kernel_rfl) ?_
            exact ⟨(b3, b8, b14), rfl, ⟨rfl, rfl, rfl, trivial⟩, kk, hB3, n3⟩
        · skip
          refine new fun b3 u2 hb3 hB3 hs2 hk2 => ?_
          have hB8 := hB8.kp hk2 (by simp)
          have n3 : w2.heap.size ≤ b3 := by have := k1.size; omega
          have k2 := k1.tr hk2
          refine ⟨.inl k2, ?_⟩
          refine nextG τok 6 3 #[true, true, true, true, true, true, true, true, true, false, false, true, false] rfl rfl rfl (by kernel_rfl) ?_
          refine fill [] rfl ?_
          refine new fun b14 u3 hb14 hB14 hs3 hk3 => ?_
          have hB8 := hB8.kp hk3 (by simp)
          have hB3 := hB3.kp hk3 (by simp)
          have n14 : w2.heap.size ≤ b14 := by have := k2.size; omega
          have k3 := k2.tr hk3
          refine ⟨.inl k3, ?_⟩
          refine nextG τok 9 2 #[true, true, true, true, true, true, true, true, true, true, false, true, false] rfl rfl rfl (by kernel_rfl) ?_
          refine ap_none τok rfl hB14 ?_
          refine ⟨.inl k3, ?_⟩
          refine nextG τok 10 1 #[true, true, true, true, true, true, true, true, true, true, true, true, false] rfl rfl rfl (by kernel_rfl) ?_
          refine ⟨.inl k3, ?_⟩
          refine nextG τok 12 0 #[true, true, true, true, true, true, true, true, true, true, true, true, true] rfl rfl rfl (by kernel_rfl) ?_
          refine stN (vs := [.slice none 0 0, .slice none 0 0, .slice (some ⟨b8, 0, none⟩) 0 0, .int .i64 nat, .slice (some ⟨b14, 0, none⟩) 0 0]) hB3 rfl (by simp [Value.oneCell']) fun u hB3 hs hk => ?_
          have kk : Kp [] w2 u := k3.trans hk (fun x hx hl => by simp at hx; omega)
          refine ⟨.inl kk, ?_⟩
          refine doneG (by kernel_rfl) ?_
          exact ⟨(b3, b8, b14), rfl, ⟨rfl, rfl, rfl, trivial⟩, kk, hB3, n3⟩
      · skip
        refine fill [] rfl ?_
        refine new fun b14 u2 hb14 hB14 hs2 hk2 => ?_
        have hB8 := hB8.kp hk2 (by simp)
        have n14 : w2.heap.size ≤ b14 := by have := k1.size; omega
        have k2 := k1.tr hk2
        refine ⟨.inl k2, ?_⟩
        refine twoG τok 3 11 4 #[true, true, true, true, true, true, true, true, true, false, false, false, false] #[true, true, true, false, true, true, true, true, true, false, false, true, false] rfl rfl rfl rfl rfl (by kernel_rfl) ?_ ?_
        · skip
          refine ap_none τok rfl hB8 ?_
          refine ⟨.inl k2, ?_⟩
          refine twoG τok 9 11 3 #[true, true, true, true, true, true, true, true, true, true, false, false, false] #[true, true, true, true, true, true, true, true, true, false, false, true, false] rfl rfl rfl rfl rfl (by kernel_rfl) ?_ ?_
          · skip
            refine ap_none τok rfl hB14 ?_
            refine ⟨.inl k2, ?_⟩
            refine twoG τok 10 11 2 #[true, true, true, true, true, true, true, true, true, true, true, false, false] #[true, true, true, true, true, true, true, true, true, true, false, true, false] rfl rfl rfl rfl rfl (by kernel_rfl) ?_ ?_
            · skip
              refine ⟨.inl k2, ?_⟩
              refine nextG τok 11 1 #[true, true, true, true, true, true, true, true, true, true, true, true, false] rfl rfl rfl (by kernel_rfl) ?_
              refine new fun b3 u3 hb3 hB3 hs3 hk3 => ?_
              have hB8 := hB8.kp hk3 (by simp)
              have hB14 := hB14.kp hk3 (by simp)
              have n3 : w2.heap.size ≤ b3 := by have := k2.size; omega
              have k3 := k2.tr hk3
              refine ⟨.inl k3, ?_⟩
              refine nextG τok 12 0 #[true, true, true, true, true, true, true, true, true, true, true, true, true] rfl rfl rfl (by kernel_rfl) ?_
              refine stN (vs := [.slice none 0 0, .slice none 0 0, .slice (some ⟨b8, 0, none⟩) 0 0, .int .i64 nat, .slice (some ⟨b14, 0, none⟩) 0 0]) hB3 rfl (by simp [Value.oneCell']) fun u hB3 hs hk => ?_
              have kk : Kp [] w2 u := k3.trans hk (fun x hx hl => by simp at hx; omega)
              refine ⟨.inl kk, ?_⟩
              refine doneG (by kernel_rfl) ?_
              exact ⟨(b3, b8, b14), rfl, ⟨rfl, rfl, rfl, trivial⟩, kk, hB3, n3⟩
            · skip
              refine new fun b3 u3 hb3 hB3 hs3 hk3 => ?_
              have hB8 := hB8.kp hk3 (by simp)
              have hB14 := hB14.kp hk3 (by simp)
              have n3 : w2.heap.size ≤ b3 := by have := k2.size; omega
              have k3 := k2.tr hk3
              refine ⟨.inl k3, ?_⟩
              refine nextG τok 10 1 #[true, true, true, true, true, true, true, true, true, true, true, true, false] rfl rfl rfl (by kernel_rfl) ?_
              refine ⟨.inl k3, ?_⟩
              refine nextG τok 12 0 #[true, true, true, true, true, true, true, true, true, true, true, true, true] rfl rfl rfl (by kernel_rfl) ?_
              refine stN (vs := [.slice none 0 0, .slice none 0 0, .slice (some ⟨b8, 0, none⟩) 0 0, .int .i64 nat, .slice (some ⟨b14, 0, none⟩) 0 0]) hB3 rfl (by simp [Value.oneCell']) fun u hB3 hs hk => ?_
              have kk : Kp [] w2 u := k3.trans hk (fun x hx hl => by simp at hx; omega)
              refine ⟨.inl kk, ?_⟩
              refine doneG (by kernel_rfl) ?_
              exact ⟨(b3, b8, b14), rfl, ⟨rfl, rfl, rfl, trivial⟩, kk, hB3, n3⟩
          · skip
            refine new fun b3 u3 hb3 hB3 hs3 hk3 => ?_
            have hB8 := hB8.kp hk3 (by simp)
            have hB14 := hB14.kp hk3 (by simp)
            have n3 : w2.heap.size ≤ b3 := by have := k2.size; omega
            have k3 := k2.tr hk3
            refine ⟨.inl k3, ?_⟩
            refine nextG τok 9 2 #[true, true, true, true, true, true, true, true, true, true, false, true, false] rfl rfl rfl (by kernel_rfl) ?_
            refine ap_none τok rfl hB14 ?_
            refine ⟨.inl k3, ?_⟩
            refine nextG τok 10 1 #[true, true, true, true, true, true, true, true, true, true, true, true, false] rfl rfl rfl (by kernel_rfl) ?_
            refine ⟨.inl k3, ?_⟩
            refine nextG τok 12 0 #[true, true, true, true, true, true, true, true, true, true, true, true, true] rfl rfl rfl (by kernel_rfl) ?_
            refine stN (vs := [.slice none 0 0, .slice none 0 0, .slice (some ⟨b8, 0, none⟩) 0 0, .int .i64 nat, .slice (some ⟨b14, 0, none⟩) 0 0]) hB3 rfl (by simp [Value.oneCell']) fun u hB3 hs hk => ?_
            have kk : Kp [] w2 u := k3.trans hk (fun x hx hl => by simp at hx; omega)
            refine ⟨.inl kk, ?_⟩
            refine doneG (by kernel_rfl) ?_
            exact ⟨(b3, b8, b14), rfl, ⟨rfl, rfl, rfl, trivial⟩, kk, hB3, n3⟩
        · skip
          refine new fun b3 u3 hb3 hB3 hs3 hk3 => ?_
          have hB8 := hB8.kp hk3 (by simp)
          have hB14 := hB14.kp hk3 (by simp)
          have n3 : w2.heap.size ≤ b3 := by have := k2.size; omega
          have k3 := k2.tr hk3
          refine ⟨.inl k3, ?_⟩
          refine nextG τok 3 3 #[true, true, true, true, true, true, true, true, true, false, false, true, false] rfl rfl rfl (by kernel_rfl) ?_
          refine ap_none τok rfl hB8 ?_
          refine ⟨.inl k3, ?_⟩
          refine nextG τok 9 2 #[true, true, true, true, true, true, true, true, true, true, false, true, false] rfl rfl rfl (by kernel_rfl) ?_
          refine ap_none τok rfl hB14 ?_
          refine ⟨.inl k3, ?_⟩
          refine nextG τok 10 1 #[true, true, true, true, true, true, true, true, true, true, true, true, false] rfl rfl rfl (by kernel_rfl) ?_
          refine ⟨.inl k3, ?_⟩
          refine nextG τok 12 0 #[true, true, true, true, true, true, true, true, true, true, true, true, true] rfl rfl rfl (by kernel_rfl) ?_
          refine stN (vs := [.slice none 0 0, .slice none 0 0, .slice (some ⟨b8, 0, none⟩) 0 0, .int .i64 nat, .slice (some ⟨b14, 0, none⟩) 0 0]) hB3 rfl (by simp [Value.oneCell']) fun u hB3 hs hk => ?_
          have kk : Kp [] w2 u := k3.trans hk (fun x hx hl => by simp at hx; omega)
          refine ⟨.inl kk, ?_⟩
          refine doneG (by kernel_rfl) ?_
          exact ⟨(b3, b8, b14), rfl, ⟨rfl, rfl, rfl, trivial⟩, kk, hB3, n3⟩
      · skip
        refine new fun b3 u2 hb3 hB3 hs2 hk2 => ?_
        have hB8 := hB8.kp hk2 (by simp)
        have n3 : w2.heap.size ≤ b3 := by have := k1.size; omega
        have k2 := k1.tr hk2
        refine ⟨.inl k2, ?_⟩
        refine twoG τok 3 6 4 #[true, true, true, true, true, true, false, true, true, false, false, true, false] #[true, true, true, false, true, true, true, true, true, false, false, true, false] rfl rfl rfl rfl rfl (by kernel_rfl) ?_ ?_
        · skip
          refine ap_none τok rfl hB8 ?_
          refine ⟨.inl k2, ?_⟩
          refine nextG τok 6 3 #[true, true, true, true, true, true, true, true, true, false, false, true, false] rfl rfl rfl (by kernel_rfl) ?_
          refine fill [] rfl ?_
          refine new fun b14 u3 hb14 hB14 hs3 hk3 => ?_
          have hB8 := hB8.kp hk3 (by simp)
          have hB3 := hB3.kp hk3 (by simp)
          have n14 : w2.heap.size ≤ b14 := by have := k2.size; omega
          have k3 := k2.tr hk3
          refine ⟨.inl k3, ?_⟩
          refine nextG τok 9 2 #[true, true, true, true, true, true, true, true, true, true, false, true, false] rfl rfl rfl (by kernel_rfl) ?_
          refine ap_none τok rfl hB14 ?_
          refine ⟨.inl k3, ?_⟩
          refine nextG τok 10 1 #[true, true, true, true, true, true, true, true, true, true, true, true, false] rfl rfl rfl (by kernel_rfl) ?_
          refine ⟨.inl k3, ?_⟩
          refine nextG τok 12 0 #[true, true, true, true, true, true, true, true, true, true, true, true, true] rfl rfl rfl (by kernel_rfl) ?_
          refine stN (vs := [.slice none 0 0, .slice none 0 0, .slice (some ⟨b8, 0, none⟩) 0 0, .int .i64 nat, .slice (some ⟨b14, 0, none⟩) 0 0]) hB3 rfl (by simp [Value.oneCell']) fun u hB3 hs hk => ?_
          have kk : Kp [] w2 u := k3.trans hk (fun x hx hl => by simp at hx; omega)
          refine ⟨.inl kk, ?_⟩
          refine doneG (by kernel_rfl) ?_
          exact ⟨(b3, b8, b14), rfl, ⟨rfl, rfl, rfl, trivial⟩, kk, hB3, n3⟩
        · skip
          refine fill [] rfl ?_
          refine new fun b14 u3 hb14 hB14 hs3 hk3 => ?_
          have hB8 := hB8.kp hk3 (by simp)
          have hB3 := hB3.kp hk3 (by simp)
          have n14 : w2.heap.size ≤ b14 := by have := k2.size; omega
          have k3 := k2.tr hk3
          refine ⟨.inl k3, ?_⟩
          refine nextG τok 3 3 #[true, true, true, true, true, true, true, true, true, false, false, true, false] rfl rfl rfl (by kernel_rfl) ?_
          refine ap_none τok rfl hB8 ?_
          refine ⟨.inl k3, ?_⟩
          refine nextG τok 9 2 #[true, true, true, true, true, true, true, true, true, true, false, true, false] rfl rfl rfl (by kernel_rfl) ?_
          refine ap_none τok rfl hB14 ?_
          refine ⟨.inl k3, ?_⟩
          refine nextG τok 10 1 #[true, true, true, true, true, true, true, true, true, true, true, true, false] rfl rfl rfl (by kernel_rfl) ?_
          refine ⟨.inl k3, ?_⟩
          refine nextG τok 12 0 #[true, true, true, true, true, true, true, true, true, true, true, true, true] rfl rfl rfl (by kernel_rfl) ?_
          refine stN (vs := [.slice none 0 0, .slice none 0 0, .slice (some ⟨b8, 0, none⟩) 0 0, .int .i64 nat, .slice (some ⟨b14, 0, none⟩) 0 0]) hB3 rfl (by simp [Value.oneCell']) fun u hB3 hs hk => ?_
          have kk : Kp [] w2 u := k3.trans hk (fun x hx hl => by simp at hx; omega)
          refine ⟨.inl kk, ?_⟩
          refine doneG (by kernel_rfl) ?_
          exact ⟨(b3, b8, b14), rfl, ⟨rfl, rfl, rfl, trivial⟩, kk, hB3, n3⟩
    · skip
      refine fill [] rfl ?_
      refine new fun b14 u1 hb14 hB14 hs1 hk1 => ?_
      have n14 : w2.heap.size ≤ b14 := by have := k0.size; omega
      have k1 := k0.tr hk1
      refine ⟨.inl k1, ?_⟩
      refine twoG τok 0 11 5 #[true, true, true, false, true, true, true, true, true, false, false, false, false] #[false, true, true, false, true, true, true, true, true, false, false, true, false] rfl rfl rfl rfl rfl (by kernel_rfl) ?_ ?_
      · skip
        refine fill [] rfl ?_
        refine new fun b8 u2 hb8 hB8 hs2 hk2 => ?_
        have hB14 := hB14.kp hk2 (by simp)
        have n8 : w2.heap.size ≤ b8 := by have := k1.size; omega
        have k2 := k1.tr hk2
        refine ⟨.inl k2, ?_⟩
        refine twoG τok 3 11 4 #[true, true, true, true, true, true, true, true, true, false, false, false, false] #[true, true, true, false, true, true, true, true, true, false, false, true, false] rfl rfl rfl rfl rfl (by kernel_rfl) ?_ ?_
        · skip
          refine ap_none τok rfl hB8 ?_
          refine ⟨.inl k2, ?_⟩
          refine twoG τok 9 11 3 #[true, true, true, true, true, true, true, true, true, true, false, false, false] #[true, true, true, true, true, true, true, true, true, false, false, true, false] rfl rfl rfl rfl rfl (by kernel_rfl) ?_ ?_
          · skip
            refine ap_none τok rfl hB14 ?_
            refine ⟨.inl k2, ?_⟩
            refine twoG τok 10 11 2 #[true, true, true, true, true, true, true, true, true, true, true, false, false] #[true, true, true, true, true, true, true, true, true, true, false, true, false] rfl rfl rfl rfl rfl (by kernel_rfl) ?_ ?_
            · skip
              refine ⟨.inl k2, ?_⟩
              refine nextG τok 11 1 #[true, true, true, true, true, true, true, true, true, true, true, true, false] rfl rfl rfl (by kernel_rfl) ?_
              refine new fun b3 u3 hb3 hB3 hs3 hk3 => ?_
              have hB14 := hB14.kp hk3 (by simp)
              have hB8 := hB8.kp hk3 (by simp)
              have n3 : w2.heap.size ≤ b3 := by have := k2.size; omega
              have k3 := k2.tr hk3
              refine ⟨.inl k3, ?_⟩
              refine nextG τok 12 0 #[true, true, true, true, true, true, true, true, true, true, true, true, true] rfl rfl rfl (by kernel_rfl) ?_
              refine stN (vs := [.slice none 0 0, .slice none 0 0, .slice (some ⟨b8, 0, none⟩) 0 0, .int .i64 nat, .slice (some ⟨b14, 0, none⟩) 0 0]) hB3 rfl (by simp [Value.oneCell']) fun u hB3 hs hk => ?_
              have kk : Kp [] w2 u := k3.trans hk (fun x hx hl => by simp at hx; omega)
              refine ⟨.inl kk, ?_⟩
              refine doneG (by kernel_rfl) ?_
              exact ⟨(b3, b8, b14), rfl, ⟨rfl, rfl, rfl, trivial⟩, kk, hB3, n3⟩
            · skip
              refine new fun b3 u3 hb3 hB3 hs3 hk3 => ?_
              have hB14 := hB14.kp hk3 (by simp)
              have hB8 := hB8.kp hk3 (by simp)
              have n3 : w2.heap.size ≤ b3 := by have := k2.size; omega
              have k3 := k2.tr hk3
              refine ⟨.inl k3, ?_⟩
              refine nextG τok 10 1 #[true, true, true, true, true, true, true, true, true, true, true, true, false] rfl rfl rfl (by kernel_rfl) ?_
              refine ⟨.inl k3, ?_⟩
              refine nextG τok 12 0 #[true, true, true, true, true, true, true, true, true, true, true, true, true] rfl rfl rfl (by kernel_rfl) ?_
              refine stN (vs := [.slice none 0 0, .slice none 0 0, .slice (some ⟨b8, 0, none⟩) 0 0, .int .i64 nat, .slice (some ⟨b14, 0, none⟩) 0 0]) hB3 rfl (by simp [Value.oneCell']) fun u hB3 hs hk => ?_
              have kk : Kp [] w2 u := k3.trans hk (fun x hx hl => by simp at hx; omega)
              refine ⟨.inl kk, ?_⟩
              refine doneG (by kernel_rfl) ?_
              exact ⟨(b3, b8, b14), rfl, ⟨rfl, rfl, rfl, trivial⟩, kk, hB3, n3⟩
          · skip
            refine new fun b3 u3 hb3 hB3 hs3 hk3 => ?_
            have hB14 := hB14.kp hk3 (by simp)
            have hB8 := hB8.kp hk3 (by simp)
            have n3 : w2.heap.size ≤ b3 := by have := k2.size; omega
            have k3 := k2.tr hk3
            refine ⟨.inl k3, ?_⟩
            refine nextG τok 9 2 #[true, true, true, true, true, true, true, true, true, true, false, true, false] rfl rfl rfl (by kernel_rfl) ?_
            refine ap_none τok rfl hB14 ?_
            refine ⟨.inl k3, ?_⟩
            refine nextG τok 10 1 #[true, true, true, true, true, true, true, true, true, true, true, true, false] rfl rfl rfl (by kernel_rfl) ?_
            refine ⟨.inl k3, ?_⟩
            refine nextG τok 12 0 #[true, true, true, true, true, true, true, true, true, true, true, true, true] rfl rfl rfl (by kernel_rfl) ?_
            refine stN (vs := [.slice none 0 0, .slice none 0 0, .slice (some ⟨b8, 0, none⟩) 0 0, .int .i64 nat, .slice (some ⟨b14, 0, none⟩) 0 0]) hB3 rfl (by simp [Value.oneCell']) fun u hB3 hs hk => ?_
            have kk : Kp [] w2 u := k3.trans hk (fun x hx hl => by simp at hx; omega)
            refine ⟨.inl kk, ?_⟩
            refine doneG (by kernel_rfl) ?_
            exact ⟨(b3, b8, b14), rfl, ⟨rfl, rfl, rfl, trivial⟩, kk, hB3, n3⟩
        · skip
          refine new fun b3 u3 hb3 hB3 hs3 hk3 => ?_
          have hB14 := hB14.kp hk3 (by simp)
          have hB8 := hB8.kp hk3 (by simp)
          have n3 : w2.heap.size ≤ b3 := by have := k2.size; omega
          have k3 := k2.tr hk3
          refine ⟨.inl k3, ?_⟩
          refine nextG τok 3 3 #[true, true, true, true, true, true, true, true, true, false, false, true, false] rfl rfl rfl (by kernel_rfl) ?_
          refine ap_none τok rfl hB8 ?_
          refine ⟨.inl k3, ?_⟩
          refine nextG τok 9 2 #[true, true, true, true, true, true, true, true, true, true, false, true, false] rfl rfl rfl (by kernel_rfl) ?_
          refine ap_none τok rfl hB14 ?_
          refine ⟨.inl k3, ?_⟩
          refine nextG τok 10 1 #[true, true, true, true, true, true, true, true, true, true, true, true, false] rfl rfl rfl (by kernel_rfl) ?_
          refine ⟨.inl k3, ?_⟩
          refine nextG τok 12 0 #[true, true, true, true, true, true, true, true, true, true, true, true, true] rfl rfl rfl (by kernel_rfl) ?_
          refine stN (vs := [.slice none 0 0, .slice none 0 0, .slice (some ⟨b8, 0, none⟩) 0 0, .int .i64 nat, .slice (some ⟨b14, 0, none⟩) 0 0]) hB3 rfl (by simp [Value.oneCell']) fun u hB3 hs hk => ?_
          have kk : Kp [] w2 u := k3.trans hk (fun x hx hl => by simp at hx; omega)
          refine ⟨.inl kk, ?_⟩
          refine doneG (by kernel_rfl) ?_
          exact ⟨(b3, b8, b14), rfl, ⟨rfl, rfl, rfl, trivial⟩, kk, hB3, n3⟩
      · skip
        refine new fun b3 u2 hb3 hB3 hs2 hk2 => ?_
        have hB14 := hB14.kp hk2 (by simp)
        have n3 : w2.heap.size ≤ b3 := by have := k1.size; omega
        have k2 := k1.tr hk2
        refine ⟨.inl k2, ?_⟩
        refine nextG τok 0 4 #[true, true, true, false, true, true, true, true, true, false, false, true, false] rfl rfl rfl (by kernel_rfl) ?_
        refine fill [] rfl ?_
        refine new fun b8 u3 hb8 hB8 hs3 hk3 => ?_
        have hB14 := hB14.kp hk3 (by simp)
        have hB3 := hB3.kp hk3 (by simp)
        have n8 : w2.heap.size ≤ b8 := by have := k2.size; omega
        have k3 := k2.tr hk3
        refine ⟨.inl k3, ?_⟩
        refine nextG τok 3 3 #[true, true, true, true, true, true, true, true, true, false, false, true, false] rfl rfl rfl (by kernel_rfl) ?_
        refine ap_none τok rfl hB8 ?_
        refine ⟨.inl k3, ?_⟩
        refine nextG τok 9 2 #[true, true, true, true, true, true, true, true, true, true, false, true, false] rfl rfl rfl (by kernel_rfl) ?_
        refine ap_none τok rfl hB14 ?_
        refine ⟨.inl k3, ?_⟩
        refine nextG τok 10 1 #[true, true, true, true, true, true, true, true, true, true, true, true, false] rfl rfl rfl (by kernel_rfl) ?_
        refine ⟨.inl k3, ?_⟩
        refine nextG τok 12 0 #[true, true, true, true, true, true, true, true, true, true, true, true, true] rfl rfl rfl (by kernel_rfl) ?_
        refine stN (vs := [.slice none 0 0, .slice none 0 0, .slice (some ⟨b8, 0, none⟩) 0 0, .int .i64 nat, .slice (some ⟨b14, 0, none⟩) 0 0]) hB3 rfl (by simp [Value.oneCell']) fun u hB3 hs hk => ?_
        have kk : Kp [] w2 u := k3.trans hk (fun x hx hl => by simp at hx; omega)
        refine ⟨.inl kk, ?_⟩
        refine doneG (by kernel_rfl) ?_
        exact ⟨(b3, b8, b14), rfl, ⟨rfl, rfl, rfl, trivial⟩, kk, hB3, n3⟩
    · skip
      refine new fun b3 u1 hb3 hB3 hs1 hk1 => ?_
      have n3 : w2.heap.size ≤ b3 := by have := k0.size; omega
      have k1 := k0.tr hk1
      refine ⟨.inl k1, ?_⟩
      refine twoG τok 0 6 5 #[true, true, true, false, true, true, false, true, true, false, false, true, false] #[false, true, true, false, true, true, true, true, true, false, false, true, false] rfl rfl rfl rfl rfl (by kernel_rfl) ?_ ?_
      · skip
        refine fill [] rfl ?_
        refine new fun b8 u2 hb8 hB8 hs2 hk2 => ?_
        have hB3 := hB3.kp hk2 (by simp)
        have n8 : w2.heap.size ≤ b8 := by have := k1.size; omega
        have k2 := k1.tr hk2
        refine ⟨.inl k2, ?_⟩
        refine twoG τok 3 6 4 #[true, true, true, true, true, true, false, true, true, false, false, true, false] #[true, true, true, false, true, true, true, true, true, false, false, true, false] rfl rfl rfl rfl rfl (by kernel_rfl) ?_ ?_
        · skip
          refine ap_none τok rfl hB8 ?_
          refine ⟨.inl k2, ?_⟩
          refine nextG τok 6 3 #[true, true, true, true, true, true, true, true, true, false, false, true, false] rfl rfl rfl (by kernel_rfl) ?_
          refine fill [] rfl ?_
          refine new fun b14 u3 hb14 hB14 hs3 hk3 => ?_
          have hB3 := hB3.kp hk3 (by simp)
          have hB8 := hB8.kp hk3 (by simp)
          have n14 : w2.heap.size ≤ b14 := by have := k2.size; omega
          have k3 := k2.tr hk3
          refine ⟨.inl k3, ?_⟩
          refine nextG τok 9 2 #[true, true, true, true, true, true, true, true, true, true, false, true, false] rfl rfl rfl (by kernel_rfl) ?_
          refine ap_none τok rfl hB14 ?_
          refine ⟨.inl k3, ?_⟩
          refine nextG τok 10 1 #[true, true, true, true, true, true, true, true, true, true, true, true, false] rfl rfl rfl (by kernel_rfl) ?_
          refine ⟨.inl k3, ?_⟩
          refine nextG τok 12 0 #[true, true, true, true, true, true, true, true, true, true, true, true, true] rfl rfl rfl (by kernel_rfl) ?_
          refine stN (vs := [.slice none 0 0, .slice none 0 0, .slice (some ⟨b8, 0, none⟩) 0 0, .int .i64 nat, .slice (some ⟨b14, 0, none⟩) 0 0]) hB3 rfl (by simp [Value.oneCell']) fun u hB3 hs hk => ?_
          have kk : Kp [] w2 u := k3.trans hk (fun x hx hl => by simp at hx; omega)
          refine ⟨.inl kk, ?_⟩
          refine doneG (by kernel_rfl) ?_
          exact ⟨(b3, b8, b14), rfl, ⟨rfl, rfl, rfl, trivial⟩, kk, hB3, n3⟩
        · skip
          refine fill [] rfl ?_
          refine new fun b14 u3 hb14 hB14 hs3 hk3 => ?_
          have hB3 := hB3.kp hk3 (by simp)
          have hB8 := hB8.kp hk3 (by simp)
          have n14 : w2.heap.size ≤ b14 := by have := k2.size; omega
          have k3 := k2.tr hk3
          refine ⟨.inl k3, ?_⟩
          refine nextG τok 3 3 #[true, true, true, true, true, true, true, true, true, false, false, true, false] rfl rfl rfl (by kernel_rfl) ?_
          refine ap_none τok rfl hB8 ?_
          refine ⟨.inl k3, ?_⟩
          refine nextG τok 9 2 #[true, true, true, true, true, true, true, true, true, true, false, true, false] rfl rfl rfl (by kernel_rfl) ?_
          refine ap_none τok rfl hB14 ?_
          refine ⟨.inl k3, ?_⟩
          refine nextG τok 10 1 #[true, true, true, true, true, true, true, true, true, true, true, true, false] rfl rfl rfl (by kernel_rfl) ?_
          refine ⟨.inl k3, ?_⟩
          refine nextG τok 12 0 #[true, true, true, true, true, true, true, true, true, true, true, true, true] rfl rfl rfl (by kernel_rfl) ?_
          refine stN (vs := [.slice none 0 0, .slice none 0 0, .slice (some ⟨b8, 0, none⟩) 0 0, .int .i64 nat, .slice (some ⟨b14, 0, none⟩) 0 0]) hB3 rfl (by simp [Value.oneCell']) fun u hB3 hs hk => ?_
          have kk : Kp [] w2 u := k3.trans hk (fun x hx hl => by simp at hx; omega)
          refine ⟨.inl kk, ?_⟩
          refine doneG (by kernel_rfl) ?_
          exact ⟨(b3, b8, b14), rfl, ⟨rfl, rfl, rfl, trivial⟩, kk, hB3, n3⟩
      · skip
        refine fill [] rfl ?_
        refine new fun b14 u2 hb14 hB14 hs2 hk2 => ?_
        have hB3 := hB3.kp hk2 (by simp)
        have n14 : w2.heap.size ≤ b14 := by have := k1.size; omega
        have k2 := k1.tr hk2
        refine ⟨.inl k2, ?_⟩
        refine nextG τok 0 4 #[true, true, true, false, true, true, true, true, true, false, false, true, false] rfl rfl rfl (by kernel_rfl) ?_
        refine fill [] rfl ?_
        refine new fun b8 u3 hb8 hB8 hs3 hk3 => ?_
        have hB3 := hB3.kp hk3 (by simp)
        have hB14 := hB14.kp hk3 (by simp)
        have n8 : w2.heap.size ≤ b8 := by have := k2.size; omega
        have k3 := k2.tr hk3
        refine ⟨.inl k3, ?_⟩
        refine nextG τok 3 3 #[true, true, true, true, true, true, true, true, true, false, false, true, false] rfl rfl rfl (by kernel_rfl) ?_
        refine ap_none τok rfl hB8 ?_
        refine ⟨.inl k3, ?_⟩
        refine nextG τok 9 2 #[true, true, true, true, true, true, true, true, true, true, false, true, false] rfl rfl rfl (by kernel_rfl) ?_
        refine ap_none τok rfl hB14 ?_
        refine ⟨.inl k3, ?_⟩
        refine nextG τok 10 1 #[true, true, true, true, true, true, true, true, true, true, true, true, false] rfl rfl rfl (by kernel_rfl) ?_
        refine ⟨.inl k3, ?_⟩
        refine nextG τok 12 0 #[true, true, true, true, true, true, true, true, true, true, true, true, true] rfl rfl rfl (by kernel_rfl) ?_
        refine stN (vs := [.slice none 0 0, .slice none 0 0, .slice (some ⟨b8, 0, none⟩) 0 0, .int .i64 nat, .slice (some ⟨b14, 0, none⟩) 0 0]) hB3 rfl (by simp [Value.oneCell']) fun u hB3 hs hk => ?_
        have kk : Kp [] w2 u := k3.trans hk (fun x hx hl => by simp at hx; omega)
        refine ⟨.inl kk, ?_⟩
        refine doneG (by kernel_rfl) ?_
        exact ⟨(b3, b8, b14), rfl, ⟨rfl, rfl, rfl, trivial⟩, kk, hB3, n3⟩
  rintro ⟨b3, x8, x14⟩ w4 ⟨k24, hB3, n3⟩
  simp only at hB3 n3
  refine ev_of τok ?_
  have hB1 := hB1.kp k24 (by simp)
  have hB2 := hB2.kp k24 (by simp)
  have hk04 := hk02.tr k24
  have hb3l := hB3.lt
  refine lp τok (fun _ : Unit => [(1, .pointer (some ⟨b1, 0, none⟩)), (2, .pointer (some ⟨b2, 0, none⟩)), (3, .pointer (some ⟨b3, 0, none⟩)), (4, .int .i64 0)]) (fun _ w' => w' = w4) (fun _ => 0) () rfl ⟨rfl, rfl, rfl, rfl, trivial⟩ rfl ?_
  rintro _ w5 rfl
  refine ld (hB1.cl rfl).cell ?_
  refine lp τok (σ := Nat × Value) (fun q => [(1, .pointer (some ⟨b1, 0, none⟩)), (2, .pointer (some ⟨b2, 0, none⟩)), (3, .pointer (some ⟨b3, 0, none⟩)), (5, .int .i64 q.1)])
    (fun q w' => q.1 ≤ l.length ∧ Kp [b3] w5 w' ∧ Bk w'.heap b3 [.slice none 0 0, q.2, .slice (some ⟨x8, 0, none⟩) 0 0, .int .i64 nat, .slice (some ⟨x14, 0, none⟩) 0 0] 71 ∧ Own rShp 56 w5.heap.size w' q.2 (l.take q.1)) (fun q => l.length - q.1) (0, .slice none 0 0) rfl
    ⟨rfl, rfl, rfl, rfl, trivial⟩ ⟨Nat.zero_le _, Kp.refl _ _, hB3, by simpa using Own.nil rShp 56 (Nat.le_refl _)⟩ ?_
  rintro ⟨k, vs⟩ w6 ⟨hk, hkp, hB3, hO⟩
  simp only at hk hB3 hO
  have hB1 := hB1.kp hkp (by simp; omega)
  have hB2 := hB2.kp hkp (by simp; omega)
  have k06 : Kp [] w w6 := hk04.trans hkp (fun x hx hl => by simp at hx; have := hk02.size; omega)
  have hB16 := hB1
  refine ld (hB1.cl rfl).cell ?_
  refine br_dec (fun g1 => ?_) (fun g1 => ?_)
  · have hlt : k < l.length := by omega
    obtain ⟨s, hs, hd⟩ := drop_get hlt
    obtain ⟨b, o, rfl, ak, ck, hkept, hp64, hcp, hck⟩ := sl_shp hl hs
    have hkl := hkept.1
    have q0 : ∀ {u}, Kp [] w u → Cl u.heap b (o + k * 2) (.int .i64 s.params) := fun k => (hS.tr k) _ _ _ hcp
    have q1 : ∀ {u}, Kp [] w u → Cl u.heap b (o + k * 2 + 1) (.slice ak s.kept.length ck) := fun k => (hS.tr k) _ _ _ hck
    refine ld (hB1.cl rfl).cell ?_
    refine ix k rfl hlt ?_
    refine ld (q0 k06).cell ?_
    refine new fun b6 w7 hb6 hB6 hs7 hk7 => ?_
    refine stN (vs := [.int .i64 s.params, .slice none 0 0]) hB6 rfl (by simp [Value.oneCell']) fun w8 hB6 hs8 hk8 => ?_
    have k68 : Kp [] w6 w8 := hk7.newSt hb6 hk8
    have hb6l := hB6.lt
    refine lp τok (σ := Nat × Value) (fun q => [(1, .pointer (some ⟨b1, 0, none⟩)), (2, .pointer (some ⟨b2, 0, none⟩)), (3, .pointer (some ⟨b3, 0, none⟩)), (5, .int .i64 k), (6, .pointer (some ⟨b6, 0, none⟩)), (7, .int .i64 q.1)])
      (fun q w' => q.1 ≤ s.kept.length ∧ Kp [] w6 w' ∧ Bk w'.heap b6 [.int .i64 s.params, q.2] 56 ∧ Own (rSl rBool) 99 w8.heap.size w' q.2 (s.kept.take q.1)) (fun q => s.kept.length - q.1) (0, .slice none 0 0) rfl
      ⟨rfl, rfl, rfl, rfl, rfl, rfl, trivial⟩ ⟨Nat.zero_le _, k68, hB6, by simpa using Own.nil (rSl rBool) 99 (Nat.le_refl _)⟩ ?_
    rintro ⟨j, v⟩ w9 ⟨hj, k69, hB6, hOk⟩
    simp only at hj hB6 hOk
    have hB1 := hB1.kp k69 (by simp)
    have k09 := k06.tr k69
    refine ld (hB1.cl rfl).cell ?_
    refine ix k rfl hlt ?_
    refine ld (q1 k09).cell ?_
    refine br_dec (fun g2 => ?_) (fun g2 => ?_)
    · have hltj : j < s.kept.length := by omega
      obtain ⟨x, hx, _⟩ := drop_get hltj
      obtain ⟨bt, ot, rfl, ax, cx, hcell, hsx⟩ := hkept.sl hx
      have hxl := hsx.1
      refine drawG τok (fun w' => Kp [] w9 w' ∨ (Kp [] w6 w' ∧ Bk w'.heap b6 [.int .i64 s.params, v] 56)) ?_
      refine readsG τok [0, 1, 3, 4, 5, 6, 7, 8, 9, 10, 11] 6 #[true, true, false, true, true, true, true, true, true, true, true, true, false, false, false, false, false] rfl rfl (by kernel_rfl) (by kernel_rfl) (by kernel_rfl) (.inl ((Kp.refl _ _).dr _)) ?_
      have e6 : ∀ u, (Kp [] w9 u ∨ (Kp [] w6 u ∧ Bk u.heap b6 [.int .i64 s.params, v] 56)) → Kp [] w6 u ∧ Bk u.heap b6 [.int .i64 s.params, v] 56 := fun u h => by
        rcases h with h | h
        · exact ⟨k69.tr h, hB6.kp h (by simp)⟩
        · exact h
      refine ldQ (fun w' h => (e6 w' h).2.cl rfl) ?_
      refine ldQ (fun w' h => (hB16.kp (e6 w' h).1 (by simp)).cl rfl) ?_
      refine ix k rfl hlt ?_
      refine ldQ (fun w' h => q1 (k06.tr (e6 w' h).1)) ?_
      refine ix j rfl hltj ?_
      refine ldQ (fun w' h => (hS.tr (k06.tr (e6 w' h).1)) _ _ _ hcell) ?_
      refine nextG τok 2 5 #[true, true, true, true, true, true, true, true, true, true, true, true, false, false, false, false, false] rfl rfl rfl (by kernel_rfl) ?_
      refine fill [] rfl ?_
      refine new fun b10 w10 hb10 hB10 hs10 hk10 => ?_
      have hk10 : Kp [] w9 w10 := hk10.rd
      have hb10 : b10 = w9.heap.size := hb10
      refine ⟨.inl (.inl hk10), ?_⟩
      refine nextG τok 12 4 #[true, true, true, true, true, true, true, true, true, true, true, true, true, false, false, false, false] rfl rfl rfl (by kernel_rfl) ?_
      have hO10 : Own rBool 4 w9.heap.size w10 (.slice (some ⟨b10, 0, none⟩) 0 0) [] := Own.empty rBool hB10 (by omega)
      refine hO10.apF τok rfl rfl Nat.one_pos flatB (hS.tr (k09.tr hk10)) x hsx (by simp; omega) (by simp [maxLen]; omega) fun v11 w11 hO11 hk11 _ => ?_
      have k911 : Kp [] w9 w11 := hk10.own hk11 hO10
      obtain ⟨a11, c11, rfl, hS11⟩ := Own.den hO11 (by simpa using hxl)
      simp only [List.nil_append] at hS11
      refine ⟨.inl (.inl k911), ?_⟩
      refine nextG τok 13 3 #[true, true, true, true, true, true, true, true, true, true, true, true, true, true, false, false, false] rfl rfl rfl (by kernel_rfl) ?_
      refine fill [.slice a11 x.length c11] rfl ?_
      refine new fun b12 w12 hb12 hB12 hs12 hk12 => ?_
      have k912 := k911.tr hk12
      refine ⟨.inl (.inl k912), ?_⟩
      refine nextG τok 14 2 #[true, true, true, true, true, true, true, true, true, true, true, true, true, true, true, false, false] rfl rfl rfl (by kernel_rfl) ?_
      have hblk := hOk.block
      have htk : s.kept.take (j + 1) = s.kept.take j ++ [x] := take_get hx
      have htl' : (s.kept.take j).length = j := by simp; omega
      refine (hOk.kp k912).ap1 τok rfl rfl (by decide) x [.slice a11 x.length c11] ⟨a11, c11, rfl, hS11.mono fun b o u hu => ⟨?_, ?_, hu.2.kp hk12 (by simp)⟩⟩ (fun j u hj => by rw [Nat.zero_add]; exact hB12.cl hj) (by rw [htl']; omega) (by rw [htl']; simp only [maxLen]; omega) fun v13 w13 hO13 hk13 hb13 => ?_
      · have := hu.1; have := hOk.low; omega
      · intro e; have := (hblk b e.symm).2; have := hu.1; omega
      have hB613 : Bk w13.heap b6 [.int .i64 s.params, v] 56 := (hB6.kp k912 (by simp)).kp hk13 (by
        intro hm
        have hm : v.ownBlock = some b6 := by simpa using hm
        have := (hblk b6 hm).1
        omega)
      have k613 : Kp [] w6 w13 := (k69.tr k912).trans hk13 (fun y hy hl => by
        have hy : v.ownBlock = some y := by simpa using hy
        have := (hblk y hy).1
        have := k68.size
        omega)
      refine ⟨.inl (.inr ⟨k613, hB613⟩), ?_⟩
      refine nextG τok 15 1 #[true, true, true, true, true, true, true, true, true, true, true, true, true, true, true, true, false] rfl rfl rfl (by kernel_rfl) ?_
      refine ⟨.inl (.inr ⟨k613, hB613⟩), ?_⟩
      refine nextG τok 16 0 #[true, true, true, true, true, true, true, true, true, true, true, true, true, true, true, true, true] rfl rfl rfl (by kernel_rfl) ?_
      have hone : v13.oneCell' = true := by
        obtain ⟨a13, c13, e⟩ := hO13.len
        rw [e]
        rfl
      refine st (b := b6) (o := 1) hB613 (by simp) hone fun w14 hB614 hs14 hk14 => ?_
      refine ⟨.inr (by kernel_rfl), ?_⟩
      refine doneG (by kernel_rfl) ?_
      refine int64 (by (try simp only); omega) (by (try simp only); omega) ?_
      refine ⟨(j + 1, v13), by simp only; omega, rfl, ⟨rfl, rfl, rfl, rfl, rfl, rfl, trivial⟩, hltj, k613.trans hk14 (fun y hy hl => by simp at hy; omega), hB614, ?_⟩
      rw [htk]
      exact hO13.kpl hk14 (by simp; omega)
    · rw [List.take_of_length_le (by omega)] at hOk
      have hblk := hO.block
      obtain ⟨a9, c9, rfl, hS9⟩ := hOk.den hkl
      have hB39 := hB3.kp k69 (by simp)
      refine ld (hB39.cl rfl).cell ?_
      refine ldN [.int .i64 s.params, .slice a9 s.kept.length c9] rfl (fun j v hj => by rw [Nat.zero_add]; exact hB6.cl hj) ?_
      refine fill [.int .i64 s.params, .slice a9 s.kept.length c9] rfl ?_
      refine new fun b10 w10 hb10 hB10 hs10 hk10 => ?_
      have k610 := k69.tr hk10
      have htk : l.take (k + 1) = l.take k ++ [s] := take_get hs
      have htl' : (l.take k).length = k := by simp; omega
      refine (hO.kp k610).ap1 τok rfl rfl (by decide) s [.int .i64 s.params, .slice a9 s.kept.length c9] ⟨a9, c9, rfl, hS9.mono fun b o u hu => ⟨?_, ?_, hu.2.kp hk10 (by simp)⟩, hp64⟩ (fun j u hj => by rw [Nat.zero_add]; exact hB10.cl hj) (by rw [htl']; omega) (by rw [htl']; simp only [maxLen]; omega) fun v11 w11 hO11 hk11 _ => ?_
      · have := hu.1; have := hO.low; have := k68.size; omega
      · intro e; have := (hblk b e.symm).2; have := hu.1; have := k68.size; omega
      have hB311 : Bk w11.heap b3 [.slice none 0 0, vs, .slice (some ⟨x8, 0, none⟩) 0 0, .int .i64 nat, .slice (some ⟨x14, 0, none⟩) 0 0] 71 := (hB3.kp k610 (by simp)).kp hk11 (by
        intro hm
        have hm : vs.ownBlock = some b3 := by simpa using hm
        have := (hblk b3 hm).1
        omega)
      have k511 : Kp [b3] w5 w11 := (hkp.tr k610).trans hk11 (fun y hy hl => by
        have hy : vs.ownBlock = some y := by simpa using hy
        have := (hblk y hy).1
        omega)
      have hone : v11.oneCell' = true := by
        obtain ⟨a13, c13, e⟩ := hO11.len
        rw [e]
        rfl
      refine st (b := b3) (o := 1) hB311 (by simp) hone fun w12 hB312 hs12 hk12 => ?_
      refine int64 (by (try simp only); omega) (by (try simp only); omega) ?_
      refine ⟨(k + 1, v11), by simp only; omega, rfl, ⟨rfl, rfl, rfl, rfl, trivial⟩, hlt, k511.trans hk12 (fun y hy hl => hy), hB312, ?_⟩
      rw [htk]
      exact hO11.kpl hk12 (by simp; omega)
  · rw [List.take_of_length_le (by omega)] at hO
    obtain ⟨a9, c9, rfl, hS9⟩ := hO.den hlen
    refine ldN [.slice none 0 0, .slice a9 l.length c9, .slice (some ⟨x8, 0, none⟩) 0 0, .int .i64 nat, .slice (some ⟨x14, 0, none⟩) 0 0] rfl (fun j v hj => by rw [Nat.zero_add]; exact hB3.cl hj) ?_
    refine stN (vs := [.slice none 0 0, .slice a9 l.length c9, .slice (some ⟨x8, 0, none⟩) 0 0, .int .i64 nat, .slice (some ⟨x14, 0, none⟩) 0 0]) hB2 rfl (by simp [Value.oneCell']) fun w7 hB7 hs7 hk7 => ?_
    refine resN τok rfl [.slice none 0 0, .slice a9 l.length c9, .slice (some ⟨x8, 0, none⟩) 0 0, .int .i64 nat, .slice (some ⟨x14, 0, none⟩) 0 0] rfl (fun j v hj => hB7.cl hj) ?_
    have z1 := hk1.size
    have z2 := hk04.size
    refine ⟨a9, c9, x8, x14, rfl, hS9.mono fun b o u hu => ⟨by have := hu.1; omega, hu.2.kp hk7 (by have := hu.1; have := k24.size; simp; omega)⟩, k06.trans hk7 (fun y hy hl => by simp at hy; omega)⟩
end Go.Proofs.Ytjogpbiilokldaa
