/-
  Code: the reference's reader of numbers.
-/
import Derived.Test.YtjogpbiilokldaaCdZp
set_option linter.unusedSimpArgs false
set_option linter.unusedVariables false
namespace Go.Proofs.Ytjogpbiilokldaa
open Go.Wx Cd

theorem sl_byt {C : Mem} {a : Option Addr} {l : List Nat} (h : Sl rU8 C a l) : Byt l := fun y hy => by
  obtain ⟨i, hi⟩ := List.getElem?_of_mem hy
  obtain ⟨_, _, _, _, h⟩ := h.u8 hi
  exact h

/-- what is left of a row of bytes -/
theorem sl_drop {D : Mem} {a : Option Addr} {l : List Nat} {cap k : Nat} (h : Sl rU8 D a l) (hk : k ≤ l.length) (hc : l.length ≤ cap) : ∃ a' cap', sliced a k l.length cap 1 = .slice a' (l.drop k).length cap' ∧ Sl rU8 D a' (l.drop k) ∧ (l.drop k).length ≤ cap' := by
  have hl := h.1
  refine ⟨(if cap = k then a else a.map (·.add (k * 1))), cap - k, by rw [List.length_drop]; rfl, ⟨by rw [List.length_drop]; omega, ?_⟩, by rw [List.length_drop]; omega⟩
  by_cases h0 : k = l.length
  · exact .inl (by rw [List.length_drop]; omega)
  · obtain ⟨b, o, ha, hcl⟩ := h.at (i := k) (by omega)
    refine .inr ⟨b, o + k * 1, ?_, fun i x hi => ?_⟩
    · rw [if_neg (by omega), ha, Option.map_some, add_off]
    · rw [List.getElem?_drop] at hi
      have := hcl (k + i) x hi
      have e : o + (k + i) * rU8.sz = o + k * 1 + i * rU8.sz := by
        show o + (k + i) * 1 = o + k * 1 + i * 1
        omega
      rw [e] at this
      exact this

theorem begins_ct {C D : Mem} {w : World} (hS : Sub C w) (hD : Sub D w) (l m : List Nat) (a a' : Option Addr) (c c' : Nat) (hl : Sl rU8 C a l) (hm : Sl rU8 D a' m) :
    CallOk Try.prog 86 ∧ Calls Try.prog 86 #[.slice a l.length c, .slice a' m.length c'] w (fun e w' => e = .returned (.bool (decide (l <+: m))) ∧ Kp [] w w') := by
  refine ⟨⟨_, Try.func86, rfl, by decide⟩, ?_⟩
  have hlen := hl.1
  have hlem := hm.1
  obtain ⟨RES, hRES⟩ : ∃ r, decide (l <+: m) = r := ⟨_, rfl⟩
  rw [hRES]
  refine calls_of (args := [_, _]) 26 [.tmp 4] τok Try.func86 rfl rfl rfl (Nat.le_of_ble_eq_true rfl) ?_
  refine br_dec (fun h1 => ?_) (fun h1 => ?_)
  · have : ¬ l <+: m := fun e => by
      have := e.length_le
      have h1 : (m.length : Int) < l.length := h1
      omega
    exact ⟨by rw [← hRES, decide_eq_false this]; rfl, Kp.refl _ _⟩
  have h1 : l.length ≤ m.length := by
    have h1 : ¬ (m.length : Int) < l.length := h1
    omega
  refine lp τok (σ := Nat) (fun k => [(0, .slice a l.length c), (1, .slice a' m.length c'), (5, .int .i64 k)]) (fun k w' => k ≤ l.length ∧ Kp [] w w' ∧ RES = decide (l.drop k <+: m.drop k)) (fun k => l.length - k) 0 rfl
    ⟨rfl, rfl, rfl, trivial⟩ ⟨Nat.zero_le _, Kp.refl _ _, hRES.symm⟩ ?_
  rintro k w1 ⟨hk, hkp, hr⟩
  refine br_dec (fun h => ?_) (fun h => ?_)
  · have hlt : k < l.length := by omega
    obtain ⟨x, hx, hd⟩ := drop_get hlt
    obtain ⟨y, hy, hd'⟩ := drop_get (l := m) (k := k) (by omega)
    rw [hd, hd'] at hr
    obtain ⟨b, o, rfl, hcell, _⟩ := hl.u8 hx
    obtain ⟨b', o', rfl, hcell', _⟩ := hm.u8 hy
    have hc1 := (hS.tr hkp) _ _ _ hcell
    have hc2 := (hD.tr hkp) _ _ _ hcell'
    refine drawR τok (by kernel_rfl) ?_
    refine ix k rfl hlt ?_
    refine ldR hc1 ?_
    refine ix k rfl (by omega) ?_
    refine ldR hc2 ?_
    intro m'
    refine br_dec (fun hc => ?_) (fun hc => ?_)
    · have : x ≠ y := fun e => hc (by rw [e])
      refine ⟨?_, hkp.dr _⟩
      rw [hr, decide_eq_false (by rw [List.cons_prefix_cons]; exact fun h => this h.1)]
      rfl
    · have : x = y := by
        have : (x : Int) = y := by simpa using hc
        omega
      subst this
      refine int64 (by omega) (by omega) ?_
      refine ⟨k + 1, by omega, rfl, ⟨rfl, rfl, rfl, trivial⟩, hlt, hkp.dr _, ?_⟩
      rw [hr]
      simp [List.cons_prefix_cons]
  · refine ⟨?_, hkp⟩
    have e : l.drop k = [] := List.drop_eq_nil_of_le (by omega)
    rw [hr, e, decide_eq_true List.nil_prefix]
    rfl

/-- how a reader of the reference stands -/
structure Rd2 (D : Mem) (p : Nat) (s : RS) (w : World) : Prop where
  sub : Sub D w
  ap : ∀ b o v, D b o v → b ≠ p
  row : ∃ a cap, Bk w.heap p [.slice a s.1.length cap, .int .i64 s.2] 97 ∧ Sl rU8 D a s.1 ∧ s.1.length ≤ cap
theorem Rd2.kp {D : Mem} {p : Nat} {s : RS} {w w' : World} (h : Rd2 D p s w) (k : Kp [] w w') : Rd2 D p s w' := by
  obtain ⟨h1, h2, a, cap, h3, h4, h5⟩ := h
  exact ⟨h1.tr k, h2, a, cap, h3.kp k (by simp), h4, h5⟩
theorem Rd2.kpX {D : Mem} {p : Nat} {s : RS} {w w' : World} {X : List Nat} (h : Rd2 D p s w) (k : Kp X w w') (hp : p ∉ X) (hD : ∀ b o v, D b o v → b ∉ X) : Rd2 D p s w' := by
  obtain ⟨h1, h2, a, cap, h3, h4, h5⟩ := h
  exact ⟨h1.kp k hD, h2, a, cap, h3.kp k hp, h4, h5⟩
theorem Rd2.lt {D : Mem} {p : Nat} {s : RS} {w : World} (h : Rd2 D p s w) : p < w.heap.size := by
  obtain ⟨h1, h2, a, cap, h3, h4, h5⟩ := h
  exact h3.lt
theorem Rd2.set {D : Mem} {p : Nat} {s : RS} {w w' : World} (h : Rd2 D p s w) (k : Kp [p] w w') {a : Option Addr} {cap : Nat} {r : List Nat} {e : Int} (hB : Bk w'.heap p [.slice a r.length cap, .int .i64 e] 97) (hs : Sl rU8 D a r) (hc : r.length ≤ cap) : Rd2 D p (r, e) w' :=
  ⟨h.sub.kp k fun b o v hd => by simpa using h.ap b o v hd, h.ap, a, cap, hB, hs, hc⟩

theorem wrapN (x : Nat) : IntKind.wrap .u64 (x : Int) = ((x % W64 : Nat) : Int) := by
  rw [wrap64', Int.natCast_emod]
  rfl
theorem mod_step {A B d M : Nat} : (A % M + (B % M * d) % M) % M = (A + d * B) % M := by
  rw [Nat.add_mod, Nat.mod_mod, Nat.mod_mod, ← Nat.add_mod, Nat.add_mod A, Nat.mul_mod, Nat.mod_mod, ← Nat.mul_mod, Nat.mul_comm B d, ← Nat.add_mod]

set_option maxRecDepth 20000 in
theorem next02_ct {D : Mem} {p : Nat} {s : RS} {w : World} (h : Rd2 D p s w) (most : Nat) (hm : most ≤ 1048576) :
    CallOk Try.prog 67 ∧ Calls Try.prog 67 #[.pointer (some ⟨p, 0, none⟩), .int .u64 (most : Int)] w (fun e w' => e = .returned (.int .u64 ((numM most s).1 : Int)) ∧ Rd2 D p (numM most s).2 w' ∧ Kp [p] w w') := by
  refine ⟨⟨_, Try.func67, rfl, by decide⟩, ?_⟩
  have hh := h
  obtain ⟨hD, hap, a, cap, hB, hSl, hcap⟩ := h
  have hlen := hSl.1
  have hbyt := sl_byt hSl
  refine calls_of (args := [_, _]) 125 [.tmp 4] τok Try.func67 rfl rfl rfl (Nat.le_of_ble_eq_true rfl) ?_
  refine ld (hB.cl rfl).cell ?_
  refine br_dec (fun h0 => ?_) (fun h0 => ?_)
  · rw [num_dead h0]
    exact ⟨rfl, hh, (Kp.refl [] w).weak (by simp)⟩
  have h0 : s.2 = 0 := by simpa using h0
  obtain ⟨Q, hQ⟩ : ∃ q, numM most s = q := ⟨_, rfl⟩
  rw [hQ]
  have err : ∀ e w' w1, nx most 0 0 s.1 = .error e → Kp [] w w1 → Kp [p] w1 w' → Bk w'.heap p [.slice a s.1.length cap, .int .i64 e] 97 → Ending.returned (one [.int .u64 0]) = .returned (.int .u64 (Q.1 : Int)) ∧ Rd2 D p Q.2 w' ∧ Kp [p] w w' := fun e w' w1 he k1 k2 hB' => by
    have : Q = (0, (s.1, e)) := by rw [← hQ]; exact num_err h0 he
    rw [this]
    have k : Kp [p] w w' := (k1.weak (by simp)).trans k2 (fun x hx _ => hx)
    exact ⟨rfl, hh.set k hB' hSl hcap, k⟩
  refine lp τok (σ := Nat) (fun i => [(0, .pointer (some ⟨p, 0, none⟩)), (1, .int .u64 (most : Int)), (5, .int .u64 ((val (s.1.take i) % W64 : Nat) : Int)), (6, .int .u64 ((128 ^ i % W64 : Nat) : Int)), (7, .int .i64 i)])
    (fun i w' => i ≤ s.1.length ∧ i ≤ 10 ∧ hi (s.1.take i) ∧ w' = w) (fun i => s.1.length - i) 0 rfl ⟨rfl, rfl, rfl, rfl, rfl, trivial⟩ ⟨Nat.zero_le _, Nat.zero_le _, fun c hc => by simp at hc, rfl⟩ ?_
  rintro i w1 ⟨hil, hi10, hhi, rfl⟩
  have hW : ∀ x : Nat, x % W64 < 18446744073709551616 := fun x => Nat.mod_lt _ (by decide)
  refine ld (hB.cl rfl).cell ?_
  refine br_dec (fun g1 => ?_) (fun g1 => ?_)
  · have g1 : i < s.1.length := by omega
    refine br_dec (fun g2 => ?_) (fun g2 => ?_)
    · have g2 : i < 10 := by omega
      obtain ⟨c, hc, hdc⟩ := drop_get g1
      obtain ⟨b, o, ha, hcell, hc256⟩ := hSl.u8 hc
      subst ha
      have htk := take_get hc
      have hlt : (s.1.take i).length = i := by simp; omega
      have hval : val (s.1.take (i + 1)) = val (s.1.take i) + c % 128 * 128 ^ i := by rw [htk, val_snoc, hlt]
      obtain ⟨V, hV⟩ : ∃ V, V = val (s.1.take i) := ⟨_, rfl⟩
      obtain ⟨Wt, hWt⟩ : ∃ V, V = 128 ^ i := ⟨_, rfl⟩
      obtain ⟨N, hN⟩ : ∃ N, N = val (s.1.take (i + 1)) % W64 := ⟨_, rfl⟩
      have hNV : N = (V % W64 + (Wt % W64 * (c % 128)) % W64) % W64 := by
        rw [hN, hval, ← hV, ← hWt, mod_step]
      have hNlt : N < 18446744073709551616 := by rw [hN]; exact hW _
      refine ld (hB.cl rfl).cell ?_
      refine ix i rfl g1 ?_
      refine ldC hD hcell ?_
      refine remU (x := c) (y := 128) (c % 128) (by omega) rfl ?_
      refine u64n (c % 128) (by omega) (by simp) ?_
      refine intv (((Wt % W64 * (c % 128)) % W64 : Nat) : Int) (by rw [← Int.natCast_mul, wrapN, hWt]) ?_
      refine intv ((N : Nat) : Int) (by rw [← Int.natCast_add, wrapN, hNV, hV]) ?_
      refine intv (((128 ^ (i + 1)) % W64 : Nat) : Int) (by rw [show ((128 ^ i % W64 : Nat) : Int) * 128 = ((128 ^ i % W64 * 128 : Nat) : Int) by simp, wrapN, Nat.mod_mul_mod, Nat.pow_succ]) ?_
      refine ld (hB.cl rfl).cell ?_
      refine ix i rfl g1 ?_
      refine ldC hD hcell ?_
      refine br_dec (fun g3 => ?_) (fun g3 => ?_)
      · have g3 : c < 128 := by
          have g3 : (c : Int) < 128 := g3
          omega
        have hnx := next_end hm hbyt hhi hc g3 g2 N hN
        have hform := formM_len10 hNlt
        refine drawG τok (fun u => Kp [] w1 u) ?_
        refine readsG τok [0, 1, 2, 3] 16 #[true, true, true, true, false, false, false, false, false, false, false, false, false, false, false, false, false, false, false, false] rfl rfl (by kernel_rfl) (by kernel_rfl) (by kernel_rfl) ((Kp.refl _ _).dr _) ?_
        refine readsG τok [4, 6, 7, 8, 9] 11 #[true, true, true, true, true, false, true, true, true, true, false, false, false, false, false, false, false, false, false, false] rfl rfl (by kernel_rfl) (by kernel_rfl) (by kernel_rfl) ((Kp.refl _ _).dr _) ?_
        have no : ∀ u, Kp [] w1 u → ¬ (N ≤ most ∧ formM N <+: s.1 ∧ (formM N).length = i + 1) → ∀ w3, Kp [p] u w3 → Bk w3.heap p [.slice (some ⟨b, o, none⟩) s.1.length cap, .int .i64 3] 97 → _ := fun u ku hn w3 k3 hB3 => err 3 w3 u (by rw [hnx, if_neg hn]) ku k3 hB3
        refine br_dec (fun g4 => ?_) (fun g4 => ?_)
        · have g4 : N ≤ most := by
            have g4 : (N : Int) ≤ most := g4
            omega
          refine ldQ (fun u hu => (hB.kp hu (by simp)).cl rfl) ?_
          refine nextG τok 5 10 #[true, true, true, true, true, true, true, true, true, true, false, false, false, false, false, false, false, false, false, false] rfl rfl rfl (by kernel_rfl) ?_
          refine ev_call (form02_ct N hNlt _) ?_
          rintro e w2 ⟨v2, rfl, hO2, hk2⟩
          obtain ⟨a2, cap2, rfl, hSl2⟩ := hO2.den (by omega)
          have hk2 : Kp [] w1 w2 := hk2.rd
          refine ⟨.inl hk2, ?_⟩
          refine nextG τok 10 9 #[true, true, true, true, true, true, true, true, true, true, true, false, false, false, false, false, false, false, false, false] rfl rfl rfl (by kernel_rfl) ?_
          obtain ⟨Bg, hBg⟩ : ∃ b, decide (formM N <+: s.1) = b := ⟨_, rfl⟩
          have ctb := begins_ct (New.sub _ _) (hD.tr hk2) (formM N) s.1 a2 (some ⟨b, o, none⟩) cap2 cap hSl2 hSl
          rw [hBg] at ctb
          refine ev_call ctb ?_
          rintro e w3 ⟨rfl, hk3⟩
          have hk3 := hk2.tr hk3
          refine ⟨.inl hk3, ?_⟩
          refine readsG τok [11, 12] 7 #[true, true, true, true, true, true, true, true, true, true, true, true, true, false, false, false, false, false, false, false] rfl rfl (by kernel_rfl) (by kernel_rfl) (by kernel_rfl) hk3 ?_
          refine readsG τok [13, 16, 17] 4 #[true, true, true, true, true, true, true, true, true, true, true, true, true, true, false, false, true, true, false, false] rfl rfl (by kernel_rfl) (by kernel_rfl) (by kernel_rfl) hk3 ?_
          refine br (fun g5 => ?_) (fun g5 => ?_)
          · have g5 : formM N <+: s.1 := of_decide_eq_true (hBg.trans g5)
            refine int64 (by omega) (by omega) ?_
            refine nextG τok 14 3 #[true, true, true, true, true, true, true, true, true, true, true, true, true, true, true, false, true, true, false, false] rfl rfl rfl (by kernel_rfl) ?_
            refine ev_call (form02_ct N hNlt _) ?_
            rintro e w4 ⟨v4, rfl, hO4, hk4⟩
            obtain ⟨a4, cap4, rfl⟩ := hO4.len
            have hk4 := hk3.tr hk4
            refine ⟨.inl hk4, ?_⟩
            refine readsG τok [15, 18, 19] 0 #[true, true, true, true, true, true, true, true, true, true, true, true, true, true, true, true, true, true, true, true] rfl rfl (by kernel_rfl) (by kernel_rfl) (by kernel_rfl) hk4 ?_
            refine doneG (by kernel_rfl) ?_
            have hB4 := hB.kp hk4 (by simp)
            refine br_dec (fun g6 => ?_) (fun g6 => ?_)
            · have g6 : (formM N).length = i + 1 := by
                have g6 : ((formM N).length : Int) = (i : Int) + 1 := g6
                omega
              refine ld (hB4.cl rfl).cell ?_
              refine int64 (by omega) (by omega) ?_
              obtain ⟨a', cap', hsl', hSl', hcap'⟩ := sl_drop (k := i + 1) hSl (by omega) hcap
              refine slcL' τok rfl (i + 1) _ (by simp) (by omega) hsl' ?_
              refine st hB4 (by simp) rfl fun w5 hB5 hs5 hk5 => ?_
              have hQe : Q = (N, (s.1.drop (i + 1), 0)) := by
                rw [← hQ]
                exact num_ok h0 (by rw [hnx, if_pos ⟨g4, g5, g6⟩])
              rw [hQe]
              have k : Kp [p] w1 w5 := (hk4.weak (by simp)).trans hk5 (fun x hx _ => hx)
              rw [h0] at hB5
              exact ⟨rfl, hh.set k hB5 hSl' hcap', k⟩
            · refine st hB4 (by simp) rfl fun w5 hB5 hs5 hk5 => ?_
              exact no w4 hk4 (fun h => g6 (by rw [h.2.2]; simp)) w5 hk5 hB5
          · have g5 : ¬ formM N <+: s.1 := of_decide_eq_false (hBg.trans g5)
            refine nextG τok 14 3 #[true, true, true, true, true, true, true, true, true, true, true, true, true, true, true, false, true, true, false, false] rfl rfl rfl (by kernel_rfl) ?_
            refine ⟨.inl hk3, ?_⟩
            refine readsG τok [15, 18, 19] 0 #[true, true, true, true, true, true, true, true, true, true, true, true, true, true, true, true, true, true, true, true] rfl rfl (by kernel_rfl) (by kernel_rfl) (by kernel_rfl) hk3 ?_
            refine doneG (by kernel_rfl) ?_
            refine st (hB.kp hk3 (by simp)) (by simp) rfl fun w5 hB5 hs5 hk5 => ?_
            exact no w3 hk3 (fun h => g5 h.2.1) w5 hk5 hB5
        · have g4 : ¬ N ≤ most := by
            have g4 : ¬ (N : Int) ≤ most := g4
            omega
          have hkd : Kp [] w1 { w1 with drawn := w1.drawn + 1 } := (Kp.refl _ _).dr _
          refine nextG τok 5 10 #[true, true, true, true, true, true, true, true, true, true, false, false, false, false, false, false, false, false, false, false] rfl rfl rfl (by kernel_rfl) ?_
          refine ⟨.inl hkd, ?_⟩
          refine nextG τok 10 9 #[true, true, true, true, true, true, true, true, true, true, true, false, false, false, false, false, false, false, false, false] rfl rfl rfl (by kernel_rfl) ?_
          refine ⟨.inl hkd, ?_⟩
          refine readsG τok [11, 12, 13, 16, 17] 4 #[true, true, true, true, true, true, true, true, true, true, true, true, true, true, false, false, true, true, false, false] rfl rfl (by kernel_rfl) (by kernel_rfl) (by kernel_rfl) hkd ?_
          refine nextG τok 14 3 #[true, true, true, true, true, true, true, true, true, true, true, true, true, true, true, false, true, true, false, false] rfl rfl rfl (by kernel_rfl) ?_
          refine ⟨.inl hkd, ?_⟩
          refine readsG τok [15, 18, 19] 0 #[true, true, true, true, true, true, true, true, true, true, true, true, true, true, true, true, true, true, true, true] rfl rfl (by kernel_rfl) (by kernel_rfl) (by kernel_rfl) hkd ?_
          refine doneG (by kernel_rfl) ?_
          refine st (hB.kp hkd (by simp)) (by simp) rfl fun w5 hB5 hs5 hk5 => ?_
          exact no _ hkd (fun h => g4 h.1) w5 hk5 hB5
      · have g3 : ¬ c < 128 := by
          have g3 : ¬ (c : Int) < 128 := g3
          omega
        refine int64 (by omega) (by omega) ?_
        refine ⟨i + 1, by omega, rfl, ⟨rfl, rfl, by rw [← hN]; rfl, rfl, rfl, trivial⟩, g1, by omega, ?_, rfl⟩
        rw [htk]
        intro x hx
        rcases List.mem_append.1 hx with hx | hx
        · exact hhi x hx
        · simp at hx; omega
    · have g2 : i = 10 := by omega
      subst g2
      refine st hB (by simp) rfl fun w2 hB2 hs2 hk2 => ?_
      refine ld (hB2.cl rfl).cell ?_
      refine br_dec (fun g3 => ?_) (fun g3 => ?_)
      · refine intw ?_
        refine drawG τok (fun u => Kp [] w2 u) ?_
        refine readsG τok [0, 1, 2, 3, 4, 5, 6, 7, 8, 9, 10, 11] 14 #[true, true, true, true, true, true, true, true, true, true, true, true, false, false, false, false, false, false, false, false, false, false, false, false, false, false] rfl rfl (by kernel_rfl) (by kernel_rfl) (by kernel_rfl) ((Kp.refl _ _).dr _) ?_
        refine ldQ (fun u hu => (hB2.kp hu (by simp)).cl rfl) ?_
        refine br_dec (fun g4 => ?_) (fun g4 => ?_)
        · refine readsG τok [12, 13, 14, 15, 16, 17, 18, 19, 20, 21] 4 #[true, true, true, true, true, true, true, true, true, true, true, true, true, true, true, true, true, true, true, true, true, true, false, false, false, false] rfl rfl (by kernel_rfl) (by kernel_rfl) (by kernel_rfl) ((Kp.refl _ _).dr _) ?_
          refine nextG τok 22 3 #[true, true, true, true, true, true, true, true, true, true, true, true, true, true, true, true, true, true, true, true, true, true, true, false, false, false] rfl rfl rfl (by kernel_rfl) ?_
          refine ⟨.inl ((Kp.refl _ _).dr _), ?_⟩
          refine nextG τok 23 2 #[true, true, true, true, true, true, true, true, true, true, true, true, true, true, true, true, true, true, true, true, true, true, true, true, false, false] rfl rfl rfl (by kernel_rfl) ?_
          refine ⟨.inl ((Kp.refl _ _).dr _), ?_⟩
          refine readsG τok [24, 25] 0 #[true, true, true, true, true, true, true, true, true, true, true, true, true, true, true, true, true, true, true, true, true, true, true, true, true, true] rfl rfl (by kernel_rfl) (by kernel_rfl) (by kernel_rfl) ((Kp.refl _ _).dr _) ?_
          refine doneG (by kernel_rfl) ?_
          refine st (hB2.kp ((Kp.refl [] w2).dr _) (by simp)) (by simp) rfl fun w5 hB5 hs5 hk5 => ?_
          exact err 3 w5 w1 (next_long hm hbyt hhi (by omega)) (Kp.refl _ _) ((hk2.dr _).trans hk5 (fun x hx _ => hx)) hB5
        · exact absurd g4 (by omega)
      · exact absurd g3 (by omega)
  · have g1 : i = s.1.length := by omega
    subst g1
    rw [List.take_length] at hhi
    refine st hB (by simp) rfl fun w2 hB2 hs2 hk2 => ?_
    refine ld (hB2.cl rfl).cell ?_
    refine br_dec (fun g3 => ?_) (fun g3 => ?_)
    rotate_left
    · have h00 : s.1 = [] := List.length_eq_zero_iff.1 (by omega)
      exact err 4 w2 w1 (by rw [h00]; rfl) (Kp.refl _ _) hk2 hB2
    have g3 : 0 < s.1.length := by omega
    by_cases g9 : 9 < s.1.length
    · refine intw ?_
      refine drawG τok (fun u => Kp [] w2 u) ?_
      refine readsG τok [0, 1, 2, 3, 4, 5, 6, 7, 8, 9, 10, 11] 14 #[true, true, true, true, true, true, true, true, true, true, true, true, false, false, false, false, false, false, false, false, false, false, false, false, false, false] rfl rfl (by kernel_rfl) (by kernel_rfl) (by kernel_rfl) ((Kp.refl _ _).dr _) ?_
      refine ldQ (fun u hu => (hB2.kp hu (by simp)).cl rfl) ?_
      refine br_dec (fun g4 => ?_) (fun g4 => ?_)
      · refine readsG τok [12, 13, 14, 15, 16, 17, 18, 19, 20, 21] 4 #[true, true, true, true, true, true, true, true, true, true, true, true, true, true, true, true, true, true, true, true, true, true, false, false, false, false] rfl rfl (by kernel_rfl) (by kernel_rfl) (by kernel_rfl) ((Kp.refl _ _).dr _) ?_
        refine nextG τok 22 3 #[true, true, true, true, true, true, true, true, true, true, true, true, true, true, true, true, true, true, true, true, true, true, true, false, false, false] rfl rfl rfl (by kernel_rfl) ?_
        refine ⟨.inl ((Kp.refl _ _).dr _), ?_⟩
        refine nextG τok 23 2 #[true, true, true, true, true, true, true, true, true, true, true, true, true, true, true, true, true, true, true, true, true, true, true, true, false, false] rfl rfl rfl (by kernel_rfl) ?_
        refine ⟨.inl ((Kp.refl _ _).dr _), ?_⟩
        refine readsG τok [24, 25] 0 #[true, true, true, true, true, true, true, true, true, true, true, true, true, true, true, true, true, true, true, true, true, true, true, true, true, true] rfl rfl (by kernel_rfl) (by kernel_rfl) (by kernel_rfl) ((Kp.refl _ _).dr _) ?_
        refine doneG (by kernel_rfl) ?_
        refine st (hB2.kp ((Kp.refl [] w2).dr _) (by simp)) (by simp) rfl fun w5 hB5 hs5 hk5 => ?_
        exact err 3 w5 w1 (next_long hm hbyt (by rw [List.take_of_length_le hi10]; exact hhi) g9) (Kp.refl _ _) ((hk2.dr _).trans hk5 (fun x hx _ => hx)) hB5
      · exact absurd g4 (by omega)
    have hvl := val_lt s.1
    have hp9 : 128 ^ s.1.length ≤ 128 ^ 9 := Nat.pow_le_pow_right (by omega) (by omega)
    have hpw : 128 ^ s.1.length % W64 = 128 ^ s.1.length := Nat.mod_eq_of_lt (by unfold W64; omega)
    obtain ⟨Ls, hLs⟩ : ∃ x, x = (val (s.1.take s.1.length) % W64 + 128 ^ s.1.length % W64) % W64 := ⟨_, rfl⟩
    have hLv : Ls = val s.1 + 128 ^ s.1.length := by
      rw [hLs, List.take_length, hpw, Nat.mod_eq_of_lt (a := val s.1) (by unfold W64; omega), Nat.mod_eq_of_lt (by unfold W64; omega)]
    have hLlt : Ls < 18446744073709551616 := by rw [hLs]; exact hW _
    refine intv ((Ls : Nat) : Int) (by rw [← Int.natCast_add, wrapN, hLs]) ?_
    refine drawG τok (fun u => Kp [] w2 u) ?_
    refine readsG τok [0, 1, 2, 3, 4, 5, 6, 7, 8, 9, 10, 11] 14 #[true, true, true, true, true, true, true, true, true, true, true, true, false, false, false, false, false, false, false, false, false, false, false, false, false, false] rfl rfl (by kernel_rfl) (by kernel_rfl) (by kernel_rfl) ((Kp.refl _ _).dr _) ?_
    refine ldQ (fun u hu => (hB2.kp hu (by simp)).cl rfl) ?_
    refine br_dec (fun g4 => ?_) (fun g4 => ?_)
    · exact absurd g4 (by omega)
    refine readsG τok [12, 13, 14, 15, 16] 9 #[true, true, true, true, true, true, true, true, true, true, true, true, true, true, true, true, true, false, false, false, false, false, false, false, false, false] rfl rfl (by kernel_rfl) (by kernel_rfl) (by kernel_rfl) ((Kp.refl _ _).dr _) ?_
    refine br_dec (fun g5 => ?_) (fun g5 => ?_)
    · have g5 : (Ls : Int) < ((128 ^ s.1.length % W64 : Nat) : Int) := g5
      exact absurd g5 (by rw [hpw]; omega)
    refine readsG τok [17, 18, 19, 20, 21] 4 #[true, true, true, true, true, true, true, true, true, true, true, true, true, true, true, true, true, true, true, true, true, true, false, false, false, false] rfl rfl (by kernel_rfl) (by kernel_rfl) (by kernel_rfl) ((Kp.refl _ _).dr _) ?_
    refine br_dec (fun g6 => ?_) (fun g6 => ?_)
    · have g6 : (most : Int) < Ls := g6
      refine nextG τok 22 3 #[true, true, true, true, true, true, true, true, true, true, true, true, true, true, true, true, true, true, true, true, true, true, true, false, false, false] rfl rfl rfl (by kernel_rfl) ?_
      refine ⟨.inl ((Kp.refl _ _).dr _), ?_⟩
      refine nextG τok 23 2 #[true, true, true, true, true, true, true, true, true, true, true, true, true, true, true, true, true, true, true, true, true, true, true, true, false, false] rfl rfl rfl (by kernel_rfl) ?_
      refine ⟨.inl ((Kp.refl _ _).dr _), ?_⟩
      refine readsG τok [24, 25] 0 #[true, true, true, true, true, true, true, true, true, true, true, true, true, true, true, true, true, true, true, true, true, true, true, true, true, true] rfl rfl (by kernel_rfl) (by kernel_rfl) (by kernel_rfl) ((Kp.refl _ _).dr _) ?_
      refine doneG (by kernel_rfl) ?_
      refine st (hB2.kp ((Kp.refl [] w2).dr _) (by simp)) (by simp) rfl fun w5 hB5 hs5 hk5 => ?_
      exact err 3 w5 w1 (by rw [next_short hhi g3, if_neg (by omega)]) (Kp.refl _ _) ((hk2.dr _).trans hk5 (fun x hx _ => hx)) hB5
    · have g6 : ¬ (most : Int) < Ls := g6
      refine ldQ (fun u hu => (hB2.kp hu (by simp)).cl rfl) ?_
      refine nextG τok 22 3 #[true, true, true, true, true, true, true, true, true, true, true, true, true, true, true, true, true, true, true, true, true, true, true, false, false, false] rfl rfl rfl (by kernel_rfl) ?_
      refine ev_call (form02_ct Ls hLlt _) ?_
      rintro e w3 ⟨v3, rfl, hO3, hk3⟩
      have hf10 := formM_len10 hLlt
      obtain ⟨a3, cap3, rfl, hSl3⟩ := hO3.den (by omega)
      have hk3 : Kp [] w2 w3 := hk3.rd
      refine ⟨.inl hk3, ?_⟩
      refine nextG τok 23 2 #[true, true, true, true, true, true, true, true, true, true, true, true, true, true, true, true, true, true, true, true, true, true, true, true, false, false] rfl rfl rfl (by kernel_rfl) ?_
      have ctb := begins_ct ((hD.kp hk2 (fun b o v hd => by simpa using hap b o v hd)).tr hk3) (New.sub _ _) s.1 (formM Ls) a a3 cap cap3 hSl hSl3
      rw [decide_eq_true (show s.1 <+: formM Ls by rw [hLv, form_more s.1 hhi hbyt]; exact List.prefix_append _ _)] at ctb
      refine ev_call ctb ?_
      rintro e w4 ⟨rfl, hk4⟩
      have hk4 := hk3.tr hk4
      refine ⟨.inl hk4, ?_⟩
      refine readsG τok [24, 25] 0 #[true, true, true, true, true, true, true, true, true, true, true, true, true, true, true, true, true, true, true, true, true, true, true, true, true, true] rfl rfl (by kernel_rfl) (by kernel_rfl) (by kernel_rfl) hk4 ?_
      refine doneG (by kernel_rfl) ?_
      exact err 4 w4 w1 (by rw [next_short hhi g3, if_pos (by omega)]) (Kp.refl _ _) (hk2.tr hk4) (hB2.kp hk4 (by simp))
end Go.Proofs.Ytjogpbiilokldaa

namespace Cd
open Go Go.Wx
/-- another reading of the same: the same error; without one, the same -/
def Ag {α : Type} (q : α × RS) (x : α) (s : RS) : Prop := s.2 = q.2.2 ∧ (q.2.2 = 0 → s = q.2 ∧ x = q.1)
theorem Ag.rfl {α : Type} (q : α × RS) : Ag q q.1 q.2 := ⟨_root_.rfl, fun _ => ⟨_root_.rfl, _root_.rfl⟩⟩
/-- two states that agree -/
def As (t s : RS) : Prop := s.2 = t.2 ∧ (t.2 = 0 → s = t)
theorem Ag.as {α : Type} {q : α × RS} {x : α} {s : RS} (h : Ag q x s) : As q.2 s := ⟨h.1, fun e => (h.2 e).1⟩
theorem Ag.seq {α : Type} {p : RS → α × RS} (hd : Dead p) {t s s' : RS} {x : α} (h : As t s) (h' : Ag (p s) x s') : Ag (p t) x s' := by
  by_cases h0 : t.2 = 0
  · rw [← h.2 h0]; exact h'
  · have h1 := hd t h0
    have h2 := hd s (by rw [h.1]; exact h0)
    have h3 : s'.2 = (p t).2.2 := by rw [h'.1, h1, h2, h.1]
    exact ⟨h3, fun e => absurd (h1.symm.trans e) h0⟩
theorem As.num {most : Nat} {t s : RS} (h : As t s) : As (numM most t).2 (numM most s).2 ∧ (t.2 = 0 → (numM most s).1 = (numM most t).1) := by
  by_cases h0 : t.2 = 0
  · rw [h.2 h0]; exact ⟨⟨_root_.rfl, fun _ => _root_.rfl⟩, fun _ => _root_.rfl⟩
  · rw [num_dead h0, num_dead (by rw [h.1]; exact h0)]
    exact ⟨h, fun e => absurd e h0⟩
theorem As.rfl (s : RS) : As s s := ⟨_root_.rfl, fun _ => _root_.rfl⟩
theorem num_none {most : Nat} {s : RS} (h : (numM most s).2.2 ≠ 0) : (numM most s).1 = 0 := by
  unfold numM at h ⊢
  split
  · simp
  · rename_i h0
    rw [if_neg h0] at h
    split
    · rename_i n r hn
      rw [hn] at h
      simp at h
    · simp

def Lp {α : Type} (one : RS → α × RS) (M : List α × RS) (n i : Nat) (l : List α) (s : RS) : Prop := (s.2 = 0 → manyL one (n - i) l s = M) ∧ (s.2 ≠ 0 → M.2.2 = s.2)
section
variable {α : Type} {one : RS → α × RS}
theorem Lp.start (s : RS) : Lp one (manyM one s) (numM 1048576 s).1 0 [] (numM 1048576 s).2 :=
  ⟨fun _ => by simp [manyM], fun h => by unfold manyM; rw [num_none h]; simp [manyL]⟩
theorem Lp.step {M : List α × RS} {n i : Nat} {l : List α} {s s' : RS} {x : α} (h : Lp one M n i l s) (h0 : s.2 = 0) (hi : i < n) (ha : Ag (one s) x s') : Lp one M n (i + 1) (l ++ [x]) s' := by
  have h1 := h.1 h0
  obtain ⟨m, hm⟩ : ∃ m, n - i = m + 1 := ⟨n - i - 1, by omega⟩
  rw [hm] at h1
  simp only [manyL] at h1
  refine ⟨fun e => ?_, fun e => ?_⟩
  · rw [ha.1] at e
    rw [if_neg (by simpa using e)] at h1
    obtain ⟨e1, e2⟩ := ha.2 e
    rw [show n - (i + 1) = m by omega, e1, e2]
    exact h1
  · rw [ha.1] at e ⊢
    rw [if_pos e] at h1
    rw [← h1]
theorem Lp.done {M : List α × RS} {n i : Nat} {l : List α} {s : RS} (h : Lp one M n i l s) (hn : s.2 = 0 → n ≤ i) : Ag M l s := by
  by_cases h0 : s.2 = 0
  · have h1 := h.1 h0
    rw [show n - i = 0 by have := hn h0; omega] at h1
    simp only [manyL] at h1
    rw [← h1]
    exact Ag.rfl _
  · have := h.2 h0
    exact ⟨this.symm, fun e => absurd (this.symm.trans e) h0⟩
end
theorem ins_ag {s s' : RS} {to : List Int} (h : Ag (manyM numI (numM 1048576 (numM 1048576 (numM 255 s).2).2).2) to s') :
    Ag (insM s) ⟨((numM 255 s).1 : Int), ((numM 1048576 (numM 255 s).2).1 : Int), ((numM 1048576 (numM 1048576 (numM 255 s).2).2).1 : Int), to⟩ s' :=
  ⟨h.1, fun e => ⟨(h.2 e).1, by rw [(h.2 e).2]; rfl⟩⟩
end Cd

namespace Go.Wx
theorem Kp.ownX {α : Type} {R : Rd α} {e : Nat} {w0 w w' : World} {v : Value} {l : List α} {X : List Nat} (k0 : Kp X w0 w) (k : Kp v.ownBlock.toList w w') (h : Own R e w0.heap.size w v l) : Kp X w0 w' :=
  k0.trans k fun x hx hl => by
    have hx : v.ownBlock = some x := by simpa using hx
    have := (h.block x hx).1
    omega
end Go.Wx

namespace Go.Proofs.Ytjogpbiilokldaa
open Go.Wx Cd

theorem num02_ct {D : Mem} {p : Nat} {s : RS} {w : World} (h : Rd2 D p s w) (most : Nat) (hm : most ≤ 1048576) :
    CallOk Try.prog 44 ∧ Calls Try.prog 44 #[.pointer (some ⟨p, 0, none⟩), .int .i64 (most : Int)] w (fun e w' => e = .returned (.int .i64 ((numM most s).1 : Int)) ∧ Rd2 D p (numM most s).2 w' ∧ Kp [p] w w') := by
  refine ⟨⟨_, Try.func44, rfl, by decide⟩, ?_⟩
  refine calls_of (args := [_, _]) 20 [.tmp 4] τok Try.func44 rfl rfl rfl (Nat.le_of_ble_eq_true rfl) ?_
  have hle := num_le most s
  refine u64n most (by omega) rfl ?_
  refine ev_call (next02_ct h most hm) ?_
  rintro e w1 ⟨rfl, hR, hk⟩
  refine int64 (by omega) (by omega) ?_
  exact ⟨rfl, hR, hk⟩

/-- a row in the making: its growth leaves the reader alone -/
theorem Rd2.own {D : Mem} {p : Nat} {s : RS} {w w' : World} {α : Type} {R : Rd α} {e lo : Nat} {v : Value} {l : List α} (h : Rd2 D p s w) (hO : Own R e lo w v l) (k : Kp v.ownBlock.toList w w') (hp : p < lo) (hD : ∀ b o u, D b o u → b < lo) : Rd2 D p s w' :=
  h.kpX k (fun hx => by have := (hO.block p (by simpa using hx)).1; omega) fun b o u hu hx => by
    have := (hO.block b (by simpa using hx)).1
    have := hD b o u hu
    omega

theorem getBlock_ct {D : Mem} {p : Nat} {s : RS} {w : World} (h : Rd2 D p s w) : CallOk Try.prog 45 ∧ Calls Try.prog 45 #[.pointer (some ⟨p, 0, none⟩)] w
    (fun e w' => ∃ l s' a cap, e = .returned (.slice a l.length cap) ∧ Sl rIns (New w.heap.size w') a l ∧ Ag (rblockM s) l s' ∧ Rd2 D p s' w' ∧ Kp [p] w w') := by
  refine ⟨⟨_, Try.func45, rfl, by decide⟩, ?_⟩
  refine calls_of (args := [_]) 60 [.tmp 2] τok Try.func45 rfl rfl rfl (Nat.le_of_ble_eq_true rfl) ?_
  have hpl := h.lt
  have hDl := h.sub.lt
  obtain ⟨M, hM⟩ : ∃ M, rblockM s = M := ⟨_, rfl⟩
  rw [hM]
  have hstart := Lp.start (one := insM) s
  rw [show manyM insM s = M from hM] at hstart
  have hNle := num_le 1048576 s
  refine ev_call (num02_ct h 1048576 (by omega)) ?_
  rintro e w1 ⟨rfl, hR1, hk1⟩
  obtain ⟨N, hN⟩ : ∃ N, (numM 1048576 s).1 = N := ⟨_, rfl⟩
  obtain ⟨s1, hs1⟩ : ∃ N, (numM 1048576 s).2 = N := ⟨_, rfl⟩
  rw [hN, hs1] at hstart
  rw [hN] at hNle ⊢
  rw [hs1] at hR1
  have z1 := hk1.size
  refine lp τok (σ := Nat × Value × List Ins × RS) (fun q => [(0, .pointer (some ⟨p, 0, none⟩)), (3, .int .i64 (N : Int)), (4, q.2.1), (5, .int .i64 (q.1 : Int))])
    (fun q w' => q.1 ≤ N ∧ q.2.2.1.length = q.1 ∧ Own rIns 45 w1.heap.size w' q.2.1 q.2.2.1 ∧ Rd2 D p q.2.2.2 w' ∧ Kp [p] w w' ∧ Lp insM M N q.1 q.2.2.1 q.2.2.2) (fun q => N - q.1)
    (0, .slice none 0 0, [], s1) rfl ⟨rfl, rfl, rfl, rfl, trivial⟩ ⟨Nat.zero_le _, rfl, Own.nil _ _ (Nat.le_refl _), hR1, hk1, hstart⟩ ?_
  rintro ⟨i, v, l, t⟩ w2 ⟨hi, hll, hO, hR2, hk2, hL⟩
  simp only at hi hll hO hR2 hL
  have hend : ∀ (hn : t.2 = 0 → N ≤ i), ∃ l s' a cap, Ending.returned (one [v]) = .returned (.slice a l.length cap) ∧ Sl rIns (New w.heap.size w2) a l ∧ Ag M l s' ∧ Rd2 D p s' w2 ∧ Kp [p] w w2 := fun hn => by
    obtain ⟨a, cap, rfl, hSl⟩ := hO.den (by omega)
    exact ⟨l, t, a, cap, rfl, hSl.mono (New.up z1 (Kp.refl _ _)), hL.done hn, hR2, hk2⟩
  refine br_dec (fun g1 => ?_) (fun g1 => ?_)
  rotate_left
  · exact hend fun _ => by omega
  have g1 : i < N := by omega
  obtain ⟨_, _, ar, capr, hBr, _, _⟩ := id hR2
  refine ld (hBr.cl rfl).cell ?_
  refine br_dec (fun g2 => ?_) (fun g2 => ?_)
  rotate_left
  · exact hend fun e => absurd e g2
  have g2 : t.2 = 0 := g2
  clear hend hBr
  refine ev_call (num02_ct hR2 255 (by omega)) ?_
  rintro e w3 ⟨rfl, hR3, hk3⟩
  refine ev_call (num02_ct hR3 1048576 (by omega)) ?_
  rintro e w4 ⟨rfl, hR4, hk4⟩
  refine ev_call (num02_ct hR4 1048576 (by omega)) ?_
  rintro e w5 ⟨rfl, hR5, hk5⟩
  refine ev_call (num02_ct hR5 1048576 (by omega)) ?_
  rintro e w6 ⟨rfl, hR6, hk6⟩
  have i1 := num_le 255 t
  have i2 := num_le 1048576 (numM 255 t).2
  have i3 := num_le 1048576 (numM 1048576 (numM 255 t).2).2
  have i4 := num_le 1048576 (numM 1048576 (numM 1048576 (numM 255 t).2).2).2
  have hag : ∀ to s', Ag (manyM numI (numM 1048576 (numM 1048576 (numM 255 t).2).2).2) to s' → Ag (insM t) ⟨((numM 255 t).1 : Int), ((numM 1048576 (numM 255 t).2).1 : Int), ((numM 1048576 (numM 1048576 (numM 255 t).2).2).1 : Int), to⟩ s' := fun to s' h => ins_ag h
  generalize hq1 : (numM 255 t).1 = n1 at *
  generalize hq2 : (numM 1048576 (numM 255 t).2).1 = n2 at *
  generalize hq3 : (numM 1048576 (numM 1048576 (numM 255 t).2).2).1 = n3 at *
  generalize hq4 : (numM 1048576 (numM 1048576 (numM 255 t).2).2).2 = t4 at *
  have hstart2 := Lp.start (one := numI) t4
  generalize hM2 : manyM numI t4 = M2 at *
  generalize hq5 : (numM 1048576 t4).1 = n4 at *
  generalize hq6 : (numM 1048576 t4).2 = t5 at *
  have k26 : Kp [p] w2 w6 := ((hk3.trans hk4 (fun x hx _ => hx)).trans hk5 (fun x hx _ => hx)).trans hk6 (fun x hx _ => hx)
  have z2 := hk2.size
  have hOlow := hO.low
  refine lp τok (σ := Nat × Value × List Int × RS) (fun q => [(0, .pointer (some ⟨p, 0, none⟩)), (3, .int .i64 (N : Int)), (4, v), (5, .int .i64 (i : Int)), (6, .int .i64 (n1 : Int)), (7, .int .i64 (n2 : Int)), (8, .int .i64 (n3 : Int)), (9, .int .i64 (n4 : Int)), (10, q.2.1), (11, .int .i64 (q.1 : Int))])
    (fun q w' => q.1 ≤ n4 ∧ q.2.2.1.length = q.1 ∧ Own rInt 3 w2.heap.size w' q.2.1 q.2.2.1 ∧ Rd2 D p q.2.2.2 w' ∧ Kp [p] w2 w' ∧ Lp numI M2 n4 q.1 q.2.2.1 q.2.2.2) (fun q => n4 - q.1)
    (0, .slice none 0 0, [], t5) rfl ⟨rfl, rfl, rfl, rfl, rfl, rfl, rfl, rfl, rfl, rfl, trivial⟩ ⟨Nat.zero_le _, rfl, Own.nil _ _ k26.size, hR6, k26, hstart2⟩ ?_
  rintro ⟨j, u, m, r⟩ w7 ⟨hj, hml, hU, hR7, hk7, hL7⟩
  simp only at hj hml hU hR7 hL7
  obtain ⟨ua, ucap, rfl⟩ := hU.len
  have hpl2 : p < w2.heap.size := by omega
  have hDl2 : ∀ b o x, D b o x → b < w2.heap.size := fun b o x hx => by have := hDl b o x hx; omega
  -- behind the row of ways on
  have tail : ∀ (hn : r.2 = 0 → n4 ≤ j) (K : Value → World → Prop),
      (∀ v' w8, Own rIns 45 w1.heap.size w8 v' (l ++ [⟨(n1 : Int), (n2 : Int), (n3 : Int), m⟩]) → Rd2 D p r w8 → Kp [p] w w8 → Lp insM M N (i + 1) (l ++ [⟨(n1 : Int), (n2 : Int), (n3 : Int), m⟩]) r → K v' w8) →
      ∀ b8 w8, Bk w8.heap b8 [.int .i64 (n1 : Int), .int .i64 (n2 : Int), .int .i64 (n3 : Int), .slice ua m.length ucap] 45 → Kp [] w7 w8 →
      EvRun Try.prog (Builtin.append_ #[26, 26] 26 #[v, .slice (some ⟨b8, 0, none⟩) 1 1]) w8 K := by
    intro hn K hK b8 w8 hB8 hk8
    obtain ⟨a, cap, e0, hSl⟩ := hU.den (by omega)
    cases e0
    have hO8 := (hO.kpl hk7 (by simp; omega)).kp hk8
    refine hO8.ap1 τok rfl rfl (by decide) ⟨(n1 : Int), (n2 : Int), (n3 : Int), m⟩ [.int .i64 (n1 : Int), .int .i64 (n2 : Int), .int .i64 (n3 : Int), .slice ua m.length ucap] ⟨ua, ucap, rfl, hSl.mono (new_dn hO hk8), by simp only [I64]; omega, by simp only [I64]; omega, by simp only [I64]; omega⟩ (fun j u hj => by rw [Nat.zero_add]; exact hB8.cl hj) (by omega) (by simp only [maxLen]; omega) fun v' w9 hO9 hk9 _ => ?_
    refine hK v' w9 hO9 ((hR7.kp hk8).own hO8 hk9 (by omega) (fun b o x hx => by have := hDl b o x hx; omega)) ?_ (hL.step g2 g1 (hag m r (hL7.done hn)))
    exact ((hk2.trans hk7 (fun x hx _ => hx)).tr hk8).trans hk9 fun x hx hl => by
      have := (hO.block x (by simpa using hx)).1
      omega
  refine br_dec (fun g3 => ?_) (fun g3 => ?_)
  · have g3 : j < n4 := by omega
    obtain ⟨_, _, ar, capr, hBr, _, _⟩ := id hR7
    refine ld (hBr.cl rfl).cell ?_
    refine br_dec (fun g4 => ?_) (fun g4 => ?_)
    · have g4 : r.2 = 0 := g4
      clear tail
      have i5 := num_le 1048576 r
      refine ev_call (num02_ct hR7 1048576 (by omega)) ?_
      rintro e w8 ⟨rfl, hR8, hk8⟩
      refine fill [.int .i64 ((numM 1048576 r).1 : Int)] rfl ?_
      refine new fun b9 w9 hb9 hB9 hs9 hk9 => ?_
      have hU9 := (hU.kpl hk8 (by simp; omega)).kp hk9
      refine hU9.ap1 τok rfl rfl Nat.one_pos ((numM 1048576 r).1 : Int) [.int .i64 ((numM 1048576 r).1 : Int)] ⟨rfl, by simp only [I64]; omega⟩ (fun j u hj => by rw [Nat.zero_add]; exact hB9.cl hj) (by omega) (by simp only [maxLen]; omega) fun u' w10 hU10 hk10 _ => ?_
      refine int64 (by omega) (by omega) ?_
      refine ⟨(j + 1, u', m ++ [((numM 1048576 r).1 : Int)], (numM 1048576 r).2), by simp only; omega, rfl, ⟨rfl, rfl, rfl, rfl, rfl, rfl, rfl, rfl, rfl, rfl, trivial⟩, g3, by simp [hml], hU10, (hR8.kp hk9).own hU9 hk10 hpl2 hDl2, ?_, hL7.step g4 g3 (Ag.rfl (numI r))⟩
      exact ((hk7.trans hk8 (fun x hx _ => hx)).tr hk9).ownX hk10 hU9
    · refine fill [.int .i64 (n1 : Int), .int .i64 (n2 : Int), .int .i64 (n3 : Int), .slice ua m.length ucap] rfl ?_
      refine new fun b8 w8 hb8 hB8 hs8 hk8 => ?_
      refine tail (fun e => absurd e g4) _ ?_ b8 w8 hB8 hk8
      intro v' w9 hO9 hR9 hk9 hL9
      refine int64 (by omega) (by omega) ?_
      exact ⟨(i + 1, v', _, r), by simp only; omega, rfl, ⟨rfl, rfl, rfl, rfl, trivial⟩, g1, by simp [hll], hO9, hR9, hk9, hL9⟩
  · refine fill [.int .i64 (n1 : Int), .int .i64 (n2 : Int), .int .i64 (n3 : Int), .slice ua m.length ucap] rfl ?_
    refine new fun b8 w8 hb8 hB8 hs8 hk8 => ?_
    refine tail (fun _ => by omega) _ ?_ b8 w8 hB8 hk8
    intro v' w9 hO9 hR9 hk9 hL9
    refine int64 (by omega) (by omega) ?_
    exact ⟨(i + 1, v', _, r), by simp only; omega, rfl, ⟨rfl, rfl, rfl, rfl, trivial⟩, g1, by simp [hll], hO9, hR9, hk9, hL9⟩
end Go.Proofs.Ytjogpbiilokldaa
