/-
  Own texts put together: VcD, VcE, VcF.
-/
import Derived.Test.YtbggaljmollhmaaGreatDoorMg10
/-
  Package vm at numbers: push, pop, number, room, put.
-/
set_option linter.unusedSimpArgs false
set_option linter.unusedVariables false
namespace Go.Proofs.YtbggaljmollhmaaGreatDoor
open Go.Wx Nm Vm Vc
section
variable {lo : Nat} {w : World} {p : Pm} {D : Mem}
theorem Mi.didStack (h : Mi lo w p) {w1 w2 : World} {v' : Value} {l' : List Nat} (ho : Own rW 82 lo w1 v' l') (k1 : Kp p.vs.ownBlock.toList w w1) (hf : Fp w.heap.size p.vs v') (hb : Bk w2.heap p.bm (p.cells.set 4 v') 68) (k2 : Kp [p.bm] w1 w2) (hl : l'.length ≤ 1000) :
    Did lo w w2 p { p with vs := v', ws := l' } := by
  have hm := h.stack ho k1 hf hb k2 hl
  refine Did.of (X := p.bm :: p.vs.ownBlock.toList) ((Kp.weak k1 (fun x hx _ => List.mem_cons_of_mem _ hx)).trans k2 (fun x hx hl => by simp at hx; simp [hx])) hm fun b hb ho => ⟨fun hx => ?_, ⟨ho.m, ho.h, ho.q, ho.w, hf.ne ho.s hb, ho.f⟩⟩
  rcases List.mem_cons.1 hx with e | hx
  · exact ho.m e
  · exact ho.s (by simpa using hx)
theorem Mi.didHeap (h : Mi lo w p) {w1 : World} {v' : Value} {G' : List Nat} (ho : Hp lo w1 p.bh p.bp v' p.words G') (k1 : Kp (p.bh :: p.bp :: p.vw.ownBlock.toList) w w1) (hf : Fp w.heap.size p.vw v') : Did lo w w1 p { p with vw := v', G := G' } :=
  Did.of k1 (h.heap ho k1 hf) fun b hb ho => ⟨fun hx => by
    rcases List.mem_cons.1 hx with e | hx
    · exact ho.h e
    rcases List.mem_cons.1 hx with e | hx
    · exact ho.q e
    · exact ho.w (by simpa using hx), ⟨ho.m, ho.h, ho.q, hf.ne ho.w hb, ho.s, ho.f⟩⟩
theorem Mi.didField (h : Mi lo w p) {w2 : World} {fuel steps most kind : Nat} {vv : Value} (hb : Bk w2.heap p.bm ({ p with fuel := fuel, steps := steps, most := most, kind := kind, vv := vv } : Pm).cells 68) (k2 : Kp [p.bm] w w2) (h1 : fuel ≤ 1000) (h2 : steps ≤ 1000) (h3 : most ≤ 65536) (h4 : vv.oneCell' = true) :
    Did lo w w2 p { p with fuel := fuel, steps := steps, most := most, kind := kind, vv := vv } :=
  Did.of k2 (h.field hb k2 h1 h2 h3 h4) fun b hb ho => ⟨fun hx => ho.m (by simpa using hx), ⟨ho.m, ho.h, ho.q, ho.w, ho.s, ho.f⟩⟩
theorem Mi.offm (h : Mi lo w p) : p.bm ∉ p.vs.ownBlock.toList := fun hx => h.ms (by simpa using hx)
theorem Mi.words (h : Mi lo w p) : ∃ a c, p.vs = .slice a p.ws.length c ∧ p.ws.length ≤ c ∧ (p.ws.length = 0 ∨ ∃ g, a = some ⟨g, 0, none⟩ ∧ ∀ (i u : Nat), p.ws[i]? = some u → Cl w.heap g (0 + i * 1) (.int .u32 (u : Int)) ∧ u < BB) := by
  obtain ⟨css, h1, h2⟩ := h.rs.row
  obtain ⟨a, c, hv, hc⟩ := h.rs.cap
  obtain ⟨a', c', hv', hs⟩ := h.rs.den (by have := h.wsl; omega)
  rw [hv] at hv'
  injection hv' with e1 e2 e3
  subst e1 e3
  refine ⟨a, c, hv, hc, ?_⟩
  rcases hs.2 with h0 | ⟨b, o, rfl, h3⟩
  · exact .inl h0
  · right
    have ho : o = 0 := by
      rcases h1.2 with ⟨e, h0⟩ | ⟨g, cap, cur, e, _⟩
      · rw [hv] at e; cases e
      · rw [hv] at e
        injection e with e
        injection e with e
        injection e
    subst ho
    refine ⟨b, rfl, fun i x hx => ?_⟩
    obtain ⟨cs, ⟨rfl, hB⟩, h4⟩ := h3 i x hx
    exact ⟨(h4 0 _ rfl).2.cl, hB⟩
theorem mpush_ct (h : Mi lo w p) (hD : Sub D w) (l : List Nat) {a : Option Addr} {c : Nat} (hl : Sl rW D a l) (hll : p.ws.length + l.length ≤ 1000) :
    CallOk Tryz.prog 97 ∧ Calls Tryz.prog 97 #[.pointer (some ⟨p.bm, 0, none⟩), .slice a l.length c] w (fun e w' => e = .returned (.tuple #[]) ∧ ∃ v', Did lo w w' p { p with vs := v', ws := p.ws ++ l }) := by
  refine ⟨⟨_, Tryz.func97, rfl, by decide⟩, ?_⟩
  have hwl := h.wsl
  refine calls_of (args := [_, _]) 13 [] τok Tryz.func97 rfl rfl rfl (Nat.le_of_ble_eq_true rfl) ?_
  refine ld (h.m.cl rfl).cell ?_
  refine h.rs.apF τok rfl rfl (by decide) (flatN _ _) hD l hl (by omega) (by simp only [maxLen]; omega) fun v1 w1 hO1 hk1 hz1 => ?_
  have hm1 := h.m.kp hk1 h.offm
  obtain ⟨a1, c1, hv1⟩ := hO1.len
  refine st hm1 (by simp [Pm.cells]) (by rw [hv1]; rfl) fun w2 hm2 hs2 hk2 => ?_
  refine ⟨rfl, v1, h.didStack hO1 hk1 ?_ hm2 hk2 (by rw [List.length_append]; omega)⟩
  rcases hz1 with e | e
  · exact .inl e
  · exact .inr ⟨_, Nat.le_refl _, e⟩
theorem mpop_ct (h : Mi lo w p) {l : List Nat} {u : Nat} (hl : p.ws = l ++ [u]) :
    CallOk Tryz.prog 103 ∧ Calls Tryz.prog 103 #[.pointer (some ⟨p.bm, 0, none⟩)] w (fun e w' => e = .returned (.int .u32 (u : Int)) ∧ ∃ v', Did lo w w' p { p with vs := v', ws := l }) := by
  refine ⟨⟨_, Tryz.func103, rfl, by decide⟩, ?_⟩
  have hwl := h.wsl
  have hlen : p.ws.length = l.length + 1 := by rw [hl]; simp
  obtain ⟨a, c, hv, hc, h0 | ⟨g, rfl, hcell⟩⟩ := h.words
  · omega
  have hm := h.m
  have hcs : p.cells[4]? = some (.slice (some ⟨g, 0, none⟩) p.ws.length c) := by rw [← hv]; rfl
  refine calls_of (args := [_]) 28 [.tmp 2] τok Tryz.func103 rfl rfl rfl (Nat.le_of_ble_eq_true rfl) ?_
  refine ld (hm.cl hcs).cell ?_
  refine int64 (by omega) (by omega) ?_
  refine ld (hm.cl hcs).cell ?_
  have hu := hcell l.length u (by rw [hl]; simp)
  refine ix l.length (by omega) (by omega) ?_
  refine ld hu.1.cell ?_
  refine ld (hm.cl hcs).cell ?_
  refine slcH' τok rfl l.length _ (by omega) (by omega) sliced_hi ?_
  refine st hm (by simp [Pm.cells]) rfl fun w2 hm2 hs2 hk2 => ?_
  have hrs := h.rs
  rw [hv] at hrs
  have ho := hrs.take (k := l.length) (by omega)
  have e : p.ws.take l.length = l := by rw [hl]; simp
  rw [e] at ho
  exact ⟨rfl, _, h.didStack ho (Kp.refl _ _) (by rw [hv]; exact .inl rfl) hm2 hk2 (by omega)⟩

theorem number_ct (h : Mi lo w p) {n u : Nat} (hu : Wd p.G n u) :
    CallOk Tryz.prog 106 ∧ Calls Tryz.prog 106 #[.pointer (some ⟨p.bm, 0, none⟩), .int .u32 (u : Int)] w (fun e w' => (∃ v, e = .returned v ∧ IsNat n w w' v) ∧ Kp [] w w') := by
  refine ⟨⟨_, Tryz.func106, rfl, by decide⟩, ?_⟩
  refine calls_of (args := [_, _]) 44 [.tmp 4] τok Tryz.func106 rfl rfl rfl (Nat.le_of_ble_eq_true rfl) ?_
  refine ld (h.m.cl rfl).cell ?_
  refine ev_call (read_ct h.hp hu) ?_
  rintro e w1 ⟨⟨hs, rfl⟩ | ⟨id, a, c, rfl, hsl⟩, hk1⟩
  · unfold mostSmall at hs
    refine u64n n (by omega) rfl ?_
    refine ev_call (of_ct n (by omega) w1) ?_
    rintro e w2 ⟨⟨v, rfl, hv⟩, hk2⟩
    exact ⟨⟨v, rfl, isNat_up hk1 hv⟩, hk1.tr hk2⟩
  · obtain ⟨X, hX⟩ : ∃ X, digs BB n = X := ⟨_, rfl⟩
    have hln := hsl.1
    have hIs : ∀ {w' v}, (∃ a c, v = Value.slice a X.length c ∧ Sl rW (New w.heap.size w') a X ∧ X.length ≤ c) → IsNat n w w' v := fun h => by unfold IsNat; rw [hX]; exact h
    rw [hX] at hsl hln ⊢
    refine lp τok (σ := Nat × Value) (fun q => [(9, q.2), (31, .slice a X.length c), (32, .int .i64 X.length), (33, .int .i64 q.1)]) (fun q w' => q.1 ≤ X.length ∧ Own rW 40 w1.heap.size w' q.2 (X.take q.1) ∧ Kp [] w1 w') (fun q => X.length - q.1) (0, .slice none 0 0) rfl
      ⟨rfl, rfl, rfl, rfl, trivial⟩ ⟨Nat.zero_le _, Own.nil _ _ (Nat.le_refl _), Kp.refl _ _⟩ ?_
    rintro ⟨k, v⟩ w2 ⟨hk, hO, hk2⟩
    simp only at hk hO
    refine br_dec (fun g => ?_) (fun g => ?_)
    · have hlt : k < X.length := by omega
      obtain ⟨x, hx, _⟩ := drop_get hlt
      obtain ⟨b, o, rfl, hcx, hxB⟩ := hsl.nat hx
      refine ix k rfl hlt ?_
      refine ldC ((New.sub _ w1).tr hk2) hcx ?_
      refine fill [.int .u32 (x : Int)] rfl ?_
      refine new fun b3 w3 hb3 hB3 hs3 hk3 => ?_
      refine (hO.kp hk3).ap1 τok rfl rfl (by decide) x [.int .u32 (x : Int)] ⟨rfl, hxB⟩ (fun j t hj => by rw [Nat.zero_add]; exact hB3.cl hj) (by rw [List.length_take]; omega) (by rw [List.length_take]; simp only [maxLen]; omega) fun v4 w4 hO4 hk4 _ => ?_
      refine int64 (by omega) (by omega) ?_
      refine ⟨(k + 1, v4), by simp only; omega, rfl, ⟨rfl, rfl, rfl, rfl, trivial⟩, hlt, ?_, (hk2.tr hk3).own hk4 (hO.kp hk3)⟩
      simp only
      rw [take_get hx]
      exact hO4
    · rw [List.take_of_length_le (by omega)] at hO
      obtain ⟨a2, c2, hv2, hcp⟩ := hO.cap
      obtain ⟨a3, c3, hv3, hs3⟩ := hO.den hln
      rw [hv2] at hv3
      injection hv3 with e1 e2 e3
      subst e1 e3
      exact ⟨⟨v, rfl, hIs ⟨a2, c2, hv2, hs3.mono fun b o t ht => ⟨Nat.le_trans hk1.size ht.1, ht.2⟩, hcp⟩⟩, hk1.tr hk2⟩

theorem room_ct (h : Mi lo w p) {need : Nat} (hr : usd p.G + need ≤ p.words) :
    CallOk Tryz.prog 138 ∧ Calls Tryz.prog 138 #[.pointer (some ⟨p.bm, 0, none⟩), .int .i64 (need : Int)] w (fun e w' => e = .returned (.tuple #[]) ∧ Kp [] w w') := by
  refine ⟨⟨_, Tryz.func138, rfl, by decide⟩, ?_⟩
  have hbd := h.hp.bd
  refine calls_of (args := [_, _]) 31 [] τok Tryz.func138 rfl rfl rfl (Nat.le_of_ble_eq_true rfl) ?_
  refine drawQ τok (fun w' => Kp [] w w') (by kernel_rfl) ((Kp.refl [] w).dr _) ?_
  refine ldK (h.m.cl rfl) ?_
  refine ldK (h.m.cl rfl) ?_
  refine callK (v := .int .i64 (usd p.G : Int)) (fun w' hk' => ⟨(used_ct (h.k0 hk').hp).1, (used_ct (h.k0 hk').hp).2.mono fun e w'' ⟨he, hw⟩ => ⟨he, hw ▸ Kp.refl _ _⟩⟩) ?_
  refine int64 (by omega) (by omega) ?_
  intro w1 hk1
  refine br_yes (by omega) ?_
  exact ⟨rfl, hk1⟩

/-- a number put in the place of k words -/
structure Puts (p p' : Pm) (n k u : Nat) : Prop where
  ws : p'.ws = p.ws.take (p.ws.length - k) ++ [u]
  up : ∀ m v, Wd p.G m v → Wd p'.G m v
  wd : Wd p'.G n u
  usd : usd p'.G ≤ usd p.G + sz n
  bm : p'.bm = p.bm
  bc : p'.bc = p.bc
  vf : p'.vf = p.vf
  frs : p'.frs = p.frs
  words : p'.words = p.words
  fuel : p'.fuel = p.fuel
  steps : p'.steps = p.steps
  kind : p'.kind = p.kind
  vv : p'.vv = p.vv

theorem sliced0 {a : Option Addr} {g h c : Nat} (ha : a = none ∨ a = some ⟨g, 0, none⟩) : sliced a 0 h c 1 = .slice a h c := by
  rcases ha with rfl | rfl
  · simp [sliced]
  · exact sliced_hi
theorem Mi.addr (h : Mi lo w p) : ∃ a c g, p.vs = .slice a p.ws.length c ∧ p.ws.length ≤ c ∧ (a = none ∨ a = some ⟨g, 0, none⟩) := by
  obtain ⟨css, h1, h2⟩ := h.rs.row
  obtain ⟨a, c, hv, hc⟩ := h.rs.cap
  rcases h1.2 with ⟨e, h0⟩ | ⟨g, cap, cur, e, _⟩
  · rw [hv] at e
    injection e with e1 e2 e3
    exact ⟨a, c, 0, hv, hc, .inl e1⟩
  · rw [hv] at e
    injection e with e1 e2 e3
    exact ⟨a, c, g, hv, hc, .inr e1⟩

set_option maxHeartbeats 4000000 in
theorem mput_ct {C : Mem} (hC : Sub C w) (hK : Kt C) (hCo : ∀ b o v, C b o v → b < lo) (h : Mi lo w p) {n k : Nat} (hk : k ≤ p.ws.length) (hk1 : p.ws.length ≤ k + 900) (hroom : n ≤ mostSmall ∨ (mostSmall < n ∧ usd p.G + sz n ≤ p.words ∧ (digs BB n).length ≤ 65535))
    (hD : Sub D w) {a : Option Addr} {c : Nat} (hl : Sl rW D a (digs BB n)) (hDo : ∀ b o v, D b o v → Off p b) :
    CallOk Tryz.prog 99 ∧ Calls Tryz.prog 99 #[.pointer (some ⟨p.bm, 0, none⟩), .slice a (digs BB n).length c, .int .i64 (k : Int)] w (fun e w' => e = .returned (.tuple #[]) ∧ ∃ p' u, Did lo w w' p p' ∧ Puts p p' n k u) := by
  refine ⟨⟨_, Tryz.func99, rfl, by decide⟩, ?_⟩
  have hdl := digs_len_le (B := BB) BB_two (n := n) (k := 1)
  have hd1 : n ≠ 0 → n < BB → digs BB n = [n] := digs_one BB_two
  have hd0 : digs BB 0 = [] := digs_zero
  have hnil := digs_nil_iff (B := BB) BB_two (n := n)
  have hszn : sz n = 1 + (digs BB n).length := rfl
  have hdig : Dig BB (digs BB n) := digs_dig BB_two n
  have halloc := fun {w2} (k2 : Kp [] w w2) {D2} {a2} {c2} (hD2 : Sub D2 w2) (hl2 : Sl rW D2 a2 (digs BB n)) (hdis : ∀ b o v, D2 b o v → p.vw.ownBlock ≠ some b) (h1 : mostSmall < n) (h2 : usd p.G + sz n ≤ p.words) (h3 : (digs BB n).length ≤ 65535) =>
    alloc_ct (hC.tr k2) hK (h.k0 k2).hp h1 h3 (by have := h.hp.bd; omega) h2 (c := c2) hD2 hl2 hdis
  obtain ⟨X, hX⟩ : ∃ X, digs BB n = X := ⟨_, rfl⟩
  rw [hX] at hl hdl hd1 hnil hszn hdig halloc ⊢
  have hcase : (n ≤ mostSmall ∧ ((X.length = 0 ∧ n = 0) ∨ (X.length = 1 ∧ X[0]? = some n))) ∨ (mostSmall < n ∧ (1 < X.length ∨ (X.length = 1 ∧ X[0]? = some n))) := by
    by_cases h0 : n = 0
    · subst h0
      exact .inl ⟨by decide, .inl ⟨by rw [hnil.2 rfl]; rfl, rfl⟩⟩
    by_cases hB : n < BB
    · have e := hd1 h0 hB
      by_cases hm : n ≤ mostSmall
      · exact .inl ⟨hm, .inr (by rw [e]; exact ⟨rfl, rfl⟩)⟩
      · exact .inr ⟨by omega, .inr (by rw [e]; exact ⟨rfl, rfl⟩)⟩
    · refine .inr ⟨by unfold mostSmall; unfold BB at hB; omega, .inl ?_⟩
      have := digs_len_ge (B := BB) BB_two (n := n) (k := 1) (by rw [Nat.pow_one]; omega)
      rw [hX] at this
      exact this
  refine calls_of (args := [_, _, _]) 120 [] τok Tryz.func99 rfl rfl rfl (Nat.le_of_ble_eq_true rfl) ?_
  rcases hcase with ⟨hs, hc⟩ | ⟨hg, hc⟩
  · -- at once
    have hs' : n ≤ 536870911 := hs
    have hU : 8 * n + 1 < BB := by unfold BB; omega
    obtain ⟨U, hUe⟩ : ∃ U, 8 * n + 1 = U := ⟨_, rfl⟩
    have hsm := fun w => hsmall_ct n hs w
    rw [hUe] at hU hsm
    have hwd : ∀ G, Wd G n U := fun G => .inl ⟨hs, hUe.symm⟩
    have puts : ∀ vO, Puts p { p with vs := vO, ws := p.ws.take (p.ws.length - k) ++ [U] } n k U := fun vO => ⟨rfl, fun _ _ h => h, hwd _, Nat.le_add_right _ _, rfl, rfl, rfl, rfl, rfl, rfl, rfl, rfl, rfl⟩
    rcases hc with ⟨hx0, rfl⟩ | ⟨hx1, hxn⟩
    · refine br_yes (by omega) ?_
      refine br_no (by omega) ?_
      refine ev_call (hsm w) ?_
      rintro e w1 ⟨rfl, rfl⟩
      -- h: the machine's facts, p: the machine, k: how many go, U: the word
      obtain ⟨aw, cw, gw, hvw, hcw, haw⟩ := (h).addr
      have hcs : (Pm.cells p)[4]? = some (.slice aw (p).ws.length cw) := by rw [← hvw]; rfl
      have hwl := (h).wsl
      refine drawV τok (fun z => Bk z.heap (p).bm (Pm.cells p) 68) ?_
      refine readsV τok [0, 1, 2, 3, 4, 5, 6, 7, 8, 9, 10, 11, 12, 13] 5 #[true, true, true, true, true, true, true, true, true, true, true, true, true, true, false, false, false, false, false] rfl rfl (by kernel_rfl) (by kernel_rfl) (by kernel_rfl) (h).m ?_
      refine ldQ (fun z hz => hz.cl hcs) ?_
      refine ldQ (fun z hz => hz.cl hcs) ?_
      refine int64 (by omega) (by omega) ?_
      refine slcHQ τok rfl ((p).ws.length - k) _ (by omega) (by omega) (sliced0 haw) ?_
      refine nextV τok 14 4 #[true, true, true, true, true, true, true, true, true, true, true, true, true, true, true, false, false, false, false] rfl rfl rfl (by kernel_rfl) ?_
      refine fill [.int .u32 (U : Int)] rfl ?_
      refine new fun bN wN hbN hBN hsN hkN => ?_
      have hkN := hkN.rd
      refine ⟨.inl ((h).m.kp hkN (by simp)), ?_⟩
      refine nextV τok 15 3 #[true, true, true, true, true, true, true, true, true, true, true, true, true, true, true, true, false, false, false] rfl rfl rfl (by kernel_rfl) ?_
      have hrsN := (h).rs
      rw [hvw] at hrsN
      have htN := (hrsN.take (k := (p).ws.length - k) (by omega)).kp hkN
      have hltN : ((p).ws.take ((p).ws.length - k)).length = (p).ws.length - k := by rw [List.length_take]; omega
      refine htN.ap1 τok rfl rfl (by decide) U [.int .u32 (U : Int)] ⟨rfl, hU⟩ (fun j t hj => by rw [Nat.zero_add]; exact hBN.cl hj) (by rw [hltN]; omega) (by rw [hltN]; simp only [maxLen]; omega) fun vO wO hO hkO hzO => ?_
      have hob : (Value.slice aw ((p).ws.length - k) cw).ownBlock = (p).vs.ownBlock := by rw [hvw]; cases aw <;> rfl
      rw [hob] at hkO hzO
      have hmO := ((h).m.kp hkN (by simp)).kp hkO (h).offm
      refine ⟨.inl hmO, ?_⟩
      refine nextV τok 16 2 #[true, true, true, true, true, true, true, true, true, true, true, true, true, true, true, true, true, false, false] rfl rfl rfl (by kernel_rfl) ?_
      refine ⟨.inl hmO, ?_⟩
      refine nextV τok 17 1 #[true, true, true, true, true, true, true, true, true, true, true, true, true, true, true, true, true, true, false] rfl rfl rfl (by kernel_rfl) ?_
      refine ⟨.inl hmO, ?_⟩
      refine nextV τok 18 0 #[true, true, true, true, true, true, true, true, true, true, true, true, true, true, true, true, true, true, true] rfl rfl rfl (by kernel_rfl) ?_
      obtain ⟨aO, cO, hvO⟩ := hO.len
      refine st hmO (by simp [Pm.cells]) (by rw [hvO]; rfl) fun wP hmP hsP hkP => ?_
      refine ⟨.inr (by kernel_rfl), ?_⟩
      refine doneV (by kernel_rfl) ?_
      have hdid : Did lo _ wP p { (p) with vs := vO, ws := (p).ws.take ((p).ws.length - k) ++ [U] } := (h).didStack hO ((Kp.weak hkN (by simp)).trans hkO (fun x hx _ => hx)) (by
        rcases hzO with e | e
        · exact .inl e
        · exact .inr ⟨_, hkN.size, e⟩) hmP hkP (by rw [List.length_append, hltN]; simp; omega)
      exact ⟨rfl, _, U, hdid, puts vO⟩
    · obtain ⟨bx, ox, hax, hcx, hxB⟩ := hl.nat hxn
      subst hax
      refine br_no (by omega) ?_
      refine br_yes (by omega) ?_
      refine ix 0 rfl (by omega) ?_
      refine ldC hD hcx ?_
      refine br_yes (by omega) ?_
      refine br_yes (by omega) ?_
      refine ix 0 rfl (by omega) ?_
      refine ldC hD hcx ?_
      refine int64 (by omega) (by omega) ?_
      refine ev_call (hsm w) ?_
      rintro e w1 ⟨rfl, rfl⟩
      -- h: the machine's facts, p: the machine, k: how many go, U: the word
      obtain ⟨aw, cw, gw, hvw, hcw, haw⟩ := (h).addr
      have hcs : (Pm.cells p)[4]? = some (.slice aw (p).ws.length cw) := by rw [← hvw]; rfl
      have hwl := (h).wsl
      refine drawV τok (fun z => Bk z.heap (p).bm (Pm.cells p) 68) ?_
      refine readsV τok [0, 1, 2, 3, 4, 5, 6, 7, 8, 9, 10, 11, 12, 13] 5 #[true, true, true, true, true, true, true, true, true, true, true, true, true, true, false, false, false, false, false] rfl rfl (by kernel_rfl) (by kernel_rfl) (by kernel_rfl) (h).m ?_
      refine ldQ (fun z hz => hz.cl hcs) ?_
      refine ldQ (fun z hz => hz.cl hcs) ?_
      refine int64 (by omega) (by omega) ?_
      refine slcHQ τok rfl ((p).ws.length - k) _ (by omega) (by omega) (sliced0 haw) ?_
      refine nextV τok 14 4 #[true, true, true, true, true, true, true, true, true, true, true, true, true, true, true, false, false, false, false] rfl rfl rfl (by kernel_rfl) ?_
      refine fill [.int .u32 (U : Int)] rfl ?_
      refine new fun bN wN hbN hBN hsN hkN => ?_
      have hkN := hkN.rd
      refine ⟨.inl ((h).m.kp hkN (by simp)), ?_⟩
      refine nextV τok 15 3 #[true, true, true, true, true, true, true, true, true, true, true, true, true, true, true, true, false, false, false] rfl rfl rfl (by kernel_rfl) ?_
      have hrsN := (h).rs
      rw [hvw] at hrsN
      have htN := (hrsN.take (k := (p).ws.length - k) (by omega)).kp hkN
      have hltN : ((p).ws.take ((p).ws.length - k)).length = (p).ws.length - k := by rw [List.length_take]; omega
      refine htN.ap1 τok rfl rfl (by decide) U [.int .u32 (U : Int)] ⟨rfl, hU⟩ (fun j t hj => by rw [Nat.zero_add]; exact hBN.cl hj) (by rw [hltN]; omega) (by rw [hltN]; simp only [maxLen]; omega) fun vO wO hO hkO hzO => ?_
      have hob : (Value.slice aw ((p).ws.length - k) cw).ownBlock = (p).vs.ownBlock := by rw [hvw]; cases aw <;> rfl
      rw [hob] at hkO hzO
      have hmO := ((h).m.kp hkN (by simp)).kp hkO (h).offm
      refine ⟨.inl hmO, ?_⟩
      refine nextV τok 16 2 #[true, true, true, true, true, true, true, true, true, true, true, true, true, true, true, true, true, false, false] rfl rfl rfl (by kernel_rfl) ?_
      refine ⟨.inl hmO, ?_⟩
      refine nextV τok 17 1 #[true, true, true, true, true, true, true, true, true, true, true, true, true, true, true, true, true, true, false] rfl rfl rfl (by kernel_rfl) ?_
      refine ⟨.inl hmO, ?_⟩
      refine nextV τok 18 0 #[true, true, true, true, true, true, true, true, true, true, true, true, true, true, true, true, true, true, true] rfl rfl rfl (by kernel_rfl) ?_
      obtain ⟨aO, cO, hvO⟩ := hO.len
      refine st hmO (by simp [Pm.cells]) (by rw [hvO]; rfl) fun wP hmP hsP hkP => ?_
      refine ⟨.inr (by kernel_rfl), ?_⟩
      refine doneV (by kernel_rfl) ?_
      have hdid : Did lo _ wP p { (p) with vs := vO, ws := (p).ws.take ((p).ws.length - k) ++ [U] } := (h).didStack hO ((Kp.weak hkN (by simp)).trans hkO (fun x hx _ => hx)) (by
        rcases hzO with e | e
        · exact .inl e
        · exact .inr ⟨_, hkN.size, e⟩) hmP hkP (by rw [List.length_append, hltN]; simp; omega)
      exact ⟨rfl, _, U, hdid, puts vO⟩
  · have hrm : usd p.G + sz n ≤ p.words ∧ X.length ≤ 65535 := by
      rcases hroom with h | h
      · omega
      · exact ⟨h.2.1, by have := h.2.2; rw [hX] at this; exact this⟩
    have hg' : 536870911 < n := hg
    rcases hc with hx1 | ⟨hx1, hxn⟩
    · refine br_no (by omega) ?_
      refine br_no (by omega) ?_
      refine br_no (by omega) ?_
      refine i64n ((1 + X.length : Nat) : Int) (by omega) (by omega) (by omega) ?_
      refine ev_call (room_ct h (need := 1 + X.length) (by rw [← hszn]; exact hrm.1)) ?_
      rintro e w1 ⟨rfl, hk1'⟩
      refine lp τok (σ := Nat × Value) (fun q => [(0, .pointer (some ⟨p.bm, 0, none⟩)), (2, .int .i64 k), (9, q.2), (67, .slice a X.length c), (68, .int .i64 X.length), (69, .int .i64 q.1)]) (fun q w' => q.1 ≤ X.length ∧ Own rW 82 w1.heap.size w' q.2 (X.take q.1) ∧ Kp [] w1 w') (fun q => X.length - q.1) (0, .slice none 0 0) rfl
        ⟨rfl, rfl, rfl, rfl, rfl, rfl, trivial⟩ ⟨Nat.zero_le _, Own.nil _ _ (Nat.le_refl _), Kp.refl _ _⟩ ?_
      rintro ⟨i, v⟩ w2 ⟨hi, hO, hk2⟩
      simp only at hi hO
      refine br_dec (fun g => ?_) (fun g => ?_)
      · have hlt : i < X.length := by omega
        obtain ⟨x, hx, _⟩ := drop_get hlt
        obtain ⟨b, o, hax2, hcx2, hxB2⟩ := hl.nat hx
        subst hax2
        refine ix i rfl hlt ?_
        refine ldC (hD.tr (hk1'.tr hk2)) hcx2 ?_
        refine fill [.int .u32 (x : Int)] rfl ?_
        refine new fun b3 w3 hb3 hB3 hs3 hk3 => ?_
        refine (hO.kp hk3).ap1 τok rfl rfl (by decide) x [.int .u32 (x : Int)] ⟨rfl, hxB2⟩ (fun j t hj => by rw [Nat.zero_add]; exact hB3.cl hj) (by rw [List.length_take]; omega) (by rw [List.length_take]; simp only [maxLen]; omega) fun v4 w4 hO4 hk4 _ => ?_
        refine int64 (by omega) (by omega) ?_
        refine ⟨(i + 1, v4), by simp only; omega, rfl, ⟨rfl, rfl, rfl, rfl, rfl, rfl, trivial⟩, hlt, ?_, (hk2.tr hk3).own hk4 (hO.kp hk3)⟩
        simp only
        rw [take_get hx]
        exact hO4
      rw [List.take_of_length_le (by omega)] at hO
      obtain ⟨a2, c2, hv2, hs2⟩ := hO.den (by omega)
      subst hv2
      have k02 := hk1'.tr hk2
      have h2 := h.k0 k02
      refine ld (h2.m.cl rfl).cell ?_
      refine ev_call (halloc k02 (New.sub w1.heap.size w2) hs2 (fun b o v hb e => by have := (h.hp.row.block b e).2; have := hb.1; have := hk1'.size; omega) hg hrm.1 hrm.2) ?_
      rintro e w5 ⟨rfl, vw', hH5, hk5, hfp⟩
      have hfp := (Fp.refl w2.heap.size p.vw).trans (Nat.le_refl _) hfp
      have hd5 := (Did.k0 h k02).trans (h2.didHeap hH5 hk5 hfp)
      obtain ⟨p5, hp5⟩ : ∃ p5 : Pm, p5 = { p with vw := vw', G := p.G ++ [n] } := ⟨_, rfl⟩
      rw [← hp5] at hd5
      have h5 := hd5.mi
      have e1 : p5.most = p.most := by rw [hp5]
      have e2 : p5.G = p.G ++ [n] := by rw [hp5]
      have e3 : p5.bm = p.bm := by rw [hp5]
      have e4 : p5.bh = p.bh := by rw [hp5]
      have e5 : p5.ws = p.ws := by rw [hp5]
      have hH5' := h5.hp
      have hfew5 := hH5'.few
      have hmo5 := h5.mo
      have hcM : p5.cells[11]? = some (.int .i64 (p5.most : Int)) := rfl
      have hcH : p5.cells[1]? = some (.pointer (some ⟨p.bh, 0, none⟩)) := by rw [← e4]; rfl
      have hm5 := h5.m
      rw [e3] at hm5
      rw [e4] at hH5'
      refine drawV τok (fun z => Bk z.heap p.bm p5.cells 68) ?_
      refine readsV τok [0, 1, 2, 3, 4, 5, 6, 7, 8, 9] 6 #[true, true, true, true, true, true, true, true, true, true, false, false, false, false, false, false] rfl rfl (by kernel_rfl) (by kernel_rfl) (by kernel_rfl) hm5 ?_
      refine ldQ (fun z hz => hz.cl hcM) ?_
      refine ldQ (fun z hz => hz.cl hcH) ?_
      refine nextV τok 10 5 #[true, true, true, true, true, true, true, true, true, true, true, false, false, false, false, false] rfl rfl rfl (by kernel_rfl) ?_
      refine ev_call (used_ct (hH5'.kp ((Kp.refl [] w5).dr _) (by simp))) ?_
      rintro e w6 ⟨rfl, hw6⟩
      have k56 : Kp [] w5 w6 := by rw [hw6]; exact (Kp.refl [] w5).dr _
      have hm6 := hm5.kp k56 (by simp)
      refine ⟨.inl hm6, ?_⟩
      refine nextV τok 11 4 #[true, true, true, true, true, true, true, true, true, true, true, true, false, false, false, false] rfl rfl rfl (by kernel_rfl) ?_
      refine max64 ?_
      refine ⟨.inl hm6, ?_⟩
      refine nextV τok 12 3 #[true, true, true, true, true, true, true, true, true, true, true, true, true, false, false, false] rfl rfl rfl (by kernel_rfl) ?_
      refine ⟨.inl hm6, ?_⟩
      refine nextV τok 13 2 #[true, true, true, true, true, true, true, true, true, true, true, true, true, true, false, false] rfl rfl rfl (by kernel_rfl) ?_
      refine ⟨.inl hm6, ?_⟩
      refine nextV τok 14 1 #[true, true, true, true, true, true, true, true, true, true, true, true, true, true, true, false] rfl rfl rfl (by kernel_rfl) ?_
      refine ⟨.inl hm6, ?_⟩
      refine nextV τok 15 0 #[true, true, true, true, true, true, true, true, true, true, true, true, true, true, true, true] rfl rfl rfl (by kernel_rfl) ?_
      refine st (b := p.bm) (o := 11) hm6 (by simp [Pm.cells]) rfl fun w7 hm7 hs7 hk7 => ?_
      refine ⟨.inr (by kernel_rfl), ?_⟩
      refine doneV (by kernel_rfl) ?_
      have hmx : max (p5.most : Int) (usd p5.G : Int) = ((max p5.most (usd p5.G) : Nat) : Int) := by omega
      have h6 := h5.k0 k56
      have hd7 := h6.didField (fuel := p5.fuel) (steps := p5.steps) (most := max p5.most (usd p5.G)) (kind := p5.kind) (vv := p5.vv) (w2 := w7) (by rw [e3]; rw [hmx] at hm7; exact hm7) (by rw [e3]; exact hk7) h5.fu h5.st (by omega) h5.one
      obtain ⟨p7, hp7⟩ : ∃ p7 : Pm, p7 = { p5 with most := max p5.most (usd p5.G) } := ⟨_, rfl⟩
      have hd7 : Did lo w6 w7 p5 p7 := by rw [hp7]; exact hd7
      have hd07 := (hd5.trans (Did.k0 h5 k56)).trans hd7
      have h7 := hd7.mi
      have f3 : p7.bm = p.bm := by rw [hp7, ← e3]
      have f5 : p7.ws = p.ws := by rw [hp7, ← e5]
      have f2 : p7.G = p.G ++ [n] := by rw [hp7]; exact e2
      obtain ⟨U, hUe⟩ : ∃ U, 2 * usd p.G = U := ⟨_, rfl⟩
      have hU : U < BB := by have := h.hp.few; have hBB : BB = 4294967296 := rfl; omega
      rw [hUe]
      rw [← f3]
      have hkk : k ≤ p7.ws.length ∧ p7.ws.length ≤ k + 900 := by rw [f5]; exact ⟨hk, hk1⟩
      have hkk1 := hkk.1
      have hkk2 := hkk.2
      -- h7: the machine's facts, p7: the machine, k: how many go, U: the word
      obtain ⟨aw, cw, gw, hvw, hcw, haw⟩ := (h7).addr
      have hcs : (Pm.cells p7)[4]? = some (.slice aw (p7).ws.length cw) := by rw [← hvw]; rfl
      have hwl := (h7).wsl
      refine drawV τok (fun z => Bk z.heap (p7).bm (Pm.cells p7) 68) ?_
      refine readsV τok [0, 1, 2, 3, 4, 5, 6, 7, 8, 9, 10, 11, 12, 13] 5 #[true, true, true, true, true, true, true, true, true, true, true, true, true, true, false, false, false, false, false] rfl rfl (by kernel_rfl) (by kernel_rfl) (by kernel_rfl) (h7).m ?_
      refine ldQ (fun z hz => hz.cl hcs) ?_
      refine ldQ (fun z hz => hz.cl hcs) ?_
      refine int64 (by omega) (by omega) ?_
      refine slcHQ τok rfl ((p7).ws.length - k) _ (by omega) (by omega) (sliced0 haw) ?_
      refine nextV τok 14 4 #[true, true, true, true, true, true, true, true, true, true, true, true, true, true, true, false, false, false, false] rfl rfl rfl (by kernel_rfl) ?_
      refine fill [.int .u32 (U : Int)] rfl ?_
      refine new fun bN wN hbN hBN hsN hkN => ?_
      have hkN := hkN.rd
      refine ⟨.inl ((h7).m.kp hkN (by simp)), ?_⟩
      refine nextV τok 15 3 #[true, true, true, true, true, true, true, true, true, true, true, true, true, true, true, true, false, false, false] rfl rfl rfl (by kernel_rfl) ?_
      have hrsN := (h7).rs
      rw [hvw] at hrsN
      have htN := (hrsN.take (k := (p7).ws.length - k) (by omega)).kp hkN
      have hltN : ((p7).ws.take ((p7).ws.length - k)).length = (p7).ws.length - k := by rw [List.length_take]; omega
      refine htN.ap1 τok rfl rfl (by decide) U [.int .u32 (U : Int)] ⟨rfl, hU⟩ (fun j t hj => by rw [Nat.zero_add]; exact hBN.cl hj) (by rw [hltN]; omega) (by rw [hltN]; simp only [maxLen]; omega) fun vO wO hO hkO hzO => ?_
      have hob : (Value.slice aw ((p7).ws.length - k) cw).ownBlock = (p7).vs.ownBlock := by rw [hvw]; cases aw <;> rfl
      rw [hob] at hkO hzO
      have hmO := ((h7).m.kp hkN (by simp)).kp hkO (h7).offm
      refine ⟨.inl hmO, ?_⟩
      refine nextV τok 16 2 #[true, true, true, true, true, true, true, true, true, true, true, true, true, true, true, true, true, false, false] rfl rfl rfl (by kernel_rfl) ?_
      refine ⟨.inl hmO, ?_⟩
      refine nextV τok 17 1 #[true, true, true, true, true, true, true, true, true, true, true, true, true, true, true, true, true, true, false] rfl rfl rfl (by kernel_rfl) ?_
      refine ⟨.inl hmO, ?_⟩
      refine nextV τok 18 0 #[true, true, true, true, true, true, true, true, true, true, true, true, true, true, true, true, true, true, true] rfl rfl rfl (by kernel_rfl) ?_
      obtain ⟨aO, cO, hvO⟩ := hO.len
      refine st hmO (by simp [Pm.cells]) (by rw [hvO]; rfl) fun wP hmP hsP hkP => ?_
      refine ⟨.inr (by kernel_rfl), ?_⟩
      refine doneV (by kernel_rfl) ?_
      have hdid : Did lo _ wP p7 { (p7) with vs := vO, ws := (p7).ws.take ((p7).ws.length - k) ++ [U] } := (h7).didStack hO ((Kp.weak hkN (by simp)).trans hkO (fun x hx _ => hx)) (by
        rcases hzO with e | e
        · exact .inl e
        · exact .inr ⟨_, hkN.size, e⟩) hmP hkP (by rw [List.length_append, hltN]; simp; omega)
      refine ⟨rfl, _, U, hd07.trans hdid, ⟨by show p7.ws.take _ ++ _ = _; rw [f5], fun m v hm => ?_, ?_, ?_, f3, ?_, ?_, ?_, ?_, ?_, ?_, ?_, ?_⟩⟩
      · show Wd p7.G m v
        rw [f2]; exact hm.snoc
      · show Wd p7.G n U
        rw [f2, ← hUe]; exact Wd.new _ _
      · show usd p7.G ≤ _
        rw [f2, usd_snoc]; exact Nat.le_refl _
      all_goals (show _ = _; rw [hp7, hp5])
    · obtain ⟨bx, ox, hax, hcx, hxB⟩ := hl.nat hxn
      subst hax
      refine br_no (by omega) ?_
      refine br_yes (by omega) ?_
      refine ix 0 rfl (by omega) ?_
      refine ldC hD hcx ?_
      refine br_no (by omega) ?_
      refine br_no (by omega) ?_
      refine i64n ((1 + X.length : Nat) : Int) (by omega) (by omega) (by omega) ?_
      refine ev_call (room_ct h (need := 1 + X.length) (by rw [← hszn]; exact hrm.1)) ?_
      rintro e w1 ⟨rfl, hk1'⟩
      refine lp τok (σ := Nat × Value) (fun q => [(0, .pointer (some ⟨p.bm, 0, none⟩)), (2, .int .i64 k), (9, q.2), (67, .slice (some ⟨bx, ox, none⟩) X.length c), (68, .int .i64 X.length), (69, .int .i64 q.1)]) (fun q w' => q.1 ≤ X.length ∧ Own rW 82 w1.heap.size w' q.2 (X.take q.1) ∧ Kp [] w1 w') (fun q => X.length - q.1) (0, .slice none 0 0) rfl
        ⟨rfl, rfl, rfl, rfl, rfl, rfl, trivial⟩ ⟨Nat.zero_le _, Own.nil _ _ (Nat.le_refl _), Kp.refl _ _⟩ ?_
      rintro ⟨i, v⟩ w2 ⟨hi, hO, hk2⟩
      simp only at hi hO
      refine br_dec (fun g => ?_) (fun g => ?_)
      · have hlt : i < X.length := by omega
        obtain ⟨x, hx, _⟩ := drop_get hlt
        obtain ⟨b, o, hax2, hcx2, hxB2⟩ := hl.nat hx
        cases hax2
        refine ix i rfl hlt ?_
        refine ldC (hD.tr (hk1'.tr hk2)) hcx2 ?_
        refine fill [.int .u32 (x : Int)] rfl ?_
        refine new fun b3 w3 hb3 hB3 hs3 hk3 => ?_
        refine (hO.kp hk3).ap1 τok rfl rfl (by decide) x [.int .u32 (x : Int)] ⟨rfl, hxB2⟩ (fun j t hj => by rw [Nat.zero_add]; exact hB3.cl hj) (by rw [List.length_take]; omega) (by rw [List.length_take]; simp only [maxLen]; omega) fun v4 w4 hO4 hk4 _ => ?_
        refine int64 (by omega) (by omega) ?_
        refine ⟨(i + 1, v4), by simp only; omega, rfl, ⟨rfl, rfl, rfl, rfl, rfl, rfl, trivial⟩, hlt, ?_, (hk2.tr hk3).own hk4 (hO.kp hk3)⟩
        simp only
        rw [take_get hx]
        exact hO4
      rw [List.take_of_length_le (by omega)] at hO
      obtain ⟨a2, c2, hv2, hs2⟩ := hO.den (by omega)
      subst hv2
      have k02 := hk1'.tr hk2
      have h2 := h.k0 k02
      refine ld (h2.m.cl rfl).cell ?_
      refine ev_call (halloc k02 (New.sub w1.heap.size w2) hs2 (fun b o v hb e => by have := (h.hp.row.block b e).2; have := hb.1; have := hk1'.size; omega) hg hrm.1 hrm.2) ?_
      rintro e w5 ⟨rfl, vw', hH5, hk5, hfp⟩
      have hfp := (Fp.refl w2.heap.size p.vw).trans (Nat.le_refl _) hfp
      have hd5 := (Did.k0 h k02).trans (h2.didHeap hH5 hk5 hfp)
      obtain ⟨p5, hp5⟩ : ∃ p5 : Pm, p5 = { p with vw := vw', G := p.G ++ [n] } := ⟨_, rfl⟩
      rw [← hp5] at hd5
      have h5 := hd5.mi
      have e1 : p5.most = p.most := by rw [hp5]
      have e2 : p5.G = p.G ++ [n] := by rw [hp5]
      have e3 : p5.bm = p.bm := by rw [hp5]
      have e4 : p5.bh = p.bh := by rw [hp5]
      have e5 : p5.ws = p.ws := by rw [hp5]
      have hH5' := h5.hp
      have hfew5 := hH5'.few
      have hmo5 := h5.mo
      have hcM : p5.cells[11]? = some (.int .i64 (p5.most : Int)) := rfl
      have hcH : p5.cells[1]? = some (.pointer (some ⟨p.bh, 0, none⟩)) := by rw [← e4]; rfl
      have hm5 := h5.m
      rw [e3] at hm5
      rw [e4] at hH5'
      refine drawV τok (fun z => Bk z.heap p.bm p5.cells 68) ?_
      refine readsV τok [0, 1, 2, 3, 4, 5, 6, 7, 8, 9] 6 #[true, true, true, true, true, true, true, true, true, true, false, false, false, false, false, false] rfl rfl (by kernel_rfl) (by kernel_rfl) (by kernel_rfl) hm5 ?_
      refine ldQ (fun z hz => hz.cl hcM) ?_
      refine ldQ (fun z hz => hz.cl hcH) ?_
      refine nextV τok 10 5 #[true, true, true, true, true, true, true, true, true, true, true, false, false, false, false, false] rfl rfl rfl (by kernel_rfl) ?_
      refine ev_call (used_ct (hH5'.kp ((Kp.refl [] w5).dr _) (by simp))) ?_
      rintro e w6 ⟨rfl, hw6⟩
      have k56 : Kp [] w5 w6 := by rw [hw6]; exact (Kp.refl [] w5).dr _
      have hm6 := hm5.kp k56 (by simp)
      refine ⟨.inl hm6, ?_⟩
      refine nextV τok 11 4 #[true, true, true, true, true, true, true, true, true, true, true, true, false, false, false, false] rfl rfl rfl (by kernel_rfl) ?_
      refine max64 ?_
      refine ⟨.inl hm6, ?_⟩
      refine nextV τok 12 3 #[true, true, true, true, true, true, true, true, true, true, true, true, true, false, false, false] rfl rfl rfl (by kernel_rfl) ?_
      refine ⟨.inl hm6, ?_⟩
      refine nextV τok 13 2 #[true, true, true, true, true, true, true, true, true, true, true, true, true, true, false, false] rfl rfl rfl (by kernel_rfl) ?_
      refine ⟨.inl hm6, ?_⟩
      refine nextV τok 14 1 #[true, true, true, true, true, true, true, true, true, true, true, true, true, true, true, false] rfl rfl rfl (by kernel_rfl) ?_
      refine ⟨.inl hm6, ?_⟩
      refine nextV τok 15 0 #[true, true, true, true, true, true, true, true, true, true, true, true, true, true, true, true] rfl rfl rfl (by kernel_rfl) ?_
      refine st (b := p.bm) (o := 11) hm6 (by simp [Pm.cells]) rfl fun w7 hm7 hs7 hk7 => ?_
      refine ⟨.inr (by kernel_rfl), ?_⟩
      refine doneV (by kernel_rfl) ?_
      have hmx : max (p5.most : Int) (usd p5.G : Int) = ((max p5.most (usd p5.G) : Nat) : Int) := by omega
      have h6 := h5.k0 k56
      have hd7 := h6.didField (fuel := p5.fuel) (steps := p5.steps) (most := max p5.most (usd p5.G)) (kind := p5.kind) (vv := p5.vv) (w2 := w7) (by rw [e3]; rw [hmx] at hm7; exact hm7) (by rw [e3]; exact hk7) h5.fu h5.st (by omega) h5.one
      obtain ⟨p7, hp7⟩ : ∃ p7 : Pm, p7 = { p5 with most := max p5.most (usd p5.G) } := ⟨_, rfl⟩
      have hd7 : Did lo w6 w7 p5 p7 := by rw [hp7]; exact hd7
      have hd07 := (hd5.trans (Did.k0 h5 k56)).trans hd7
      have h7 := hd7.mi
      have f3 : p7.bm = p.bm := by rw [hp7, ← e3]
      have f5 : p7.ws = p.ws := by rw [hp7, ← e5]
      have f2 : p7.G = p.G ++ [n] := by rw [hp7]; exact e2
      obtain ⟨U, hUe⟩ : ∃ U, 2 * usd p.G = U := ⟨_, rfl⟩
      have hU : U < BB := by have := h.hp.few; have hBB : BB = 4294967296 := rfl; omega
      rw [hUe]
      rw [← f3]
      have hkk : k ≤ p7.ws.length ∧ p7.ws.length ≤ k + 900 := by rw [f5]; exact ⟨hk, hk1⟩
      have hkk1 := hkk.1
      have hkk2 := hkk.2
      -- h7: the machine's facts, p7: the machine, k: how many go, U: the word
      obtain ⟨aw, cw, gw, hvw, hcw, haw⟩ := (h7).addr
      have hcs : (Pm.cells p7)[4]? = some (.slice aw (p7).ws.length cw) := by rw [← hvw]; rfl
      have hwl := (h7).wsl
      refine drawV τok (fun z => Bk z.heap (p7).bm (Pm.cells p7) 68) ?_
      refine readsV τok [0, 1, 2, 3, 4, 5, 6, 7, 8, 9, 10, 11, 12, 13] 5 #[true, true, true, true, true, true, true, true, true, true, true, true, true, true, false, false, false, false, false] rfl rfl (by kernel_rfl) (by kernel_rfl) (by kernel_rfl) (h7).m ?_
      refine ldQ (fun z hz => hz.cl hcs) ?_
      refine ldQ (fun z hz => hz.cl hcs) ?_
      refine int64 (by omega) (by omega) ?_
      refine slcHQ τok rfl ((p7).ws.length - k) _ (by omega) (by omega) (sliced0 haw) ?_
      refine nextV τok 14 4 #[true, true, true, true, true, true, true, true, true, true, true, true, true, true, true, false, false, false, false] rfl rfl rfl (by kernel_rfl) ?_
      refine fill [.int .u32 (U : Int)] rfl ?_
      refine new fun bN wN hbN hBN hsN hkN => ?_
      have hkN := hkN.rd
      refine ⟨.inl ((h7).m.kp hkN (by simp)), ?_⟩
      refine nextV τok 15 3 #[true, true, true, true, true, true, true, true, true, true, true, true, true, true, true, true, false, false, false] rfl rfl rfl (by kernel_rfl) ?_
      have hrsN := (h7).rs
      rw [hvw] at hrsN
      have htN := (hrsN.take (k := (p7).ws.length - k) (by omega)).kp hkN
      have hltN : ((p7).ws.take ((p7).ws.length - k)).length = (p7).ws.length - k := by rw [List.length_take]; omega
      refine htN.ap1 τok rfl rfl (by decide) U [.int .u32 (U : Int)] ⟨rfl, hU⟩ (fun j t hj => by rw [Nat.zero_add]; exact hBN.cl hj) (by rw [hltN]; omega) (by rw [hltN]; simp only [maxLen]; omega) fun vO wO hO hkO hzO => ?_
      have hob : (Value.slice aw ((p7).ws.length - k) cw).ownBlock = (p7).vs.ownBlock := by rw [hvw]; cases aw <;> rfl
      rw [hob] at hkO hzO
      have hmO := ((h7).m.kp hkN (by simp)).kp hkO (h7).offm
      refine ⟨.inl hmO, ?_⟩
      refine nextV τok 16 2 #[true, true, true, true, true, true, true, true, true, true, true, true, true, true, true, true, true, false, false] rfl rfl rfl (by kernel_rfl) ?_
      refine ⟨.inl hmO, ?_⟩
      refine nextV τok 17 1 #[true, true, true, true, true, true, true, true, true, true, true, true, true, true, true, true, true, true, false] rfl rfl rfl (by kernel_rfl) ?_
      refine ⟨.inl hmO, ?_⟩
      refine nextV τok 18 0 #[true, true, true, true, true, true, true, true, true, true, true, true, true, true, true, true, true, true, true] rfl rfl rfl (by kernel_rfl) ?_
      obtain ⟨aO, cO, hvO⟩ := hO.len
      refine st hmO (by simp [Pm.cells]) (by rw [hvO]; rfl) fun wP hmP hsP hkP => ?_
      refine ⟨.inr (by kernel_rfl), ?_⟩
      refine doneV (by kernel_rfl) ?_
      have hdid : Did lo _ wP p7 { (p7) with vs := vO, ws := (p7).ws.take ((p7).ws.length - k) ++ [U] } := (h7).didStack hO ((Kp.weak hkN (by simp)).trans hkO (fun x hx _ => hx)) (by
        rcases hzO with e | e
        · exact .inl e
        · exact .inr ⟨_, hkN.size, e⟩) hmP hkP (by rw [List.length_append, hltN]; simp; omega)
      refine ⟨rfl, _, U, hd07.trans hdid, ⟨by show p7.ws.take _ ++ _ = _; rw [f5], fun m v hm => ?_, ?_, ?_, f3, ?_, ?_, ?_, ?_, ?_, ?_, ?_, ?_⟩⟩
      · show Wd p7.G m v
        rw [f2]; exact hm.snoc
      · show Wd p7.G n U
        rw [f2, ← hUe]; exact Wd.new _ _
      · show usd p7.G ≤ _
        rw [f2, usd_snoc]; exact Nat.le_refl _
      all_goals (show _ = _; rw [hp7, hp5])
end
end Go.Proofs.YtbggaljmollhmaaGreatDoor

/-
  Package vm at numbers: prim, peel.
-/
set_option linter.unusedSimpArgs false
set_option linter.unusedVariables false
namespace Go.Proofs.YtbggaljmollhmaaGreatDoor
open Go.Wx Nm Vm Vc
section
variable {lo : Nat} {w : World} {p : Pm} {C : Mem}
theorem Puts.of_ws {p p' : Pm} {n k u : Nat} {l r : List Nat} (h : Puts p p' n k u) (hw : p.ws = l ++ r) (hr : r.length = k) : p'.ws = l ++ [u] := by
  rw [h.ws, hw]
  congr 1
  rw [List.length_append, hr, Nat.add_sub_cancel]
  simp
def Fits (p : Pm) (n : Nat) : Prop := n ≤ mostSmall ∨ (mostSmall < n ∧ usd p.G + sz n ≤ p.words ∧ (digs BB n).length ≤ 65535)
theorem IsNat.to {n : Nat} {X : List Nat} (hX : digs BB n = X) {w w1 w2 w3 : World} {v : Value} (h : IsNat n w1 w2 v) (k1 : Kp [] w w1) (k : Kp [] w2 w3) : ∃ a c, v = .slice a X.length c ∧ Sl rW (New w.heap.size w3) a X := by
  subst hX
  obtain ⟨a, c, hv, hs, _⟩ := h
  exact ⟨a, c, hv, hs.mono fun b o t ht => ⟨Nat.le_trans k1.size ht.1, ht.2.kp k (by simp)⟩⟩

set_option maxHeartbeats 400000 in
theorem prim_ct (hC : Sub C w) (hK : Kt C) (hCo : ∀ b o v, C b o v → b < lo) (h : Mi lo w p) {l : List Nat} {x y u v id : Nat} (hws : p.ws = l ++ [u, v]) (hl : l.length ≤ 800) (hx : Wd p.G x u) (hy : Wd p.G y v) (hid : 1 ≤ id ∧ id ≤ 3) (h8 : 8 ≤ p.words) (hxl : (digs BB x).length ≤ 4) (hyl : (digs BB y).length ≤ 4) (hfit : Fits p (primN id x y)) :
    CallOk Tryz.prog 108 ∧ Calls Tryz.prog 108 #[.pointer (some ⟨p.bm, 0, none⟩), .int .i64 (id : Int)] w (fun e w' => e = .returned (.tuple #[]) ∧ ∃ p' u', Did lo w w' p p' ∧ Puts p p' (primN id x y) 2 u') := by
  refine ⟨⟨_, Tryz.func108, rfl, by decide⟩, ?_⟩
  have hlen : p.ws.length = l.length + 2 := by rw [hws]; simp
  obtain ⟨X, hX⟩ : ∃ X, digs BB x = X := ⟨_, rfl⟩
  obtain ⟨Y, hY⟩ : ∃ Y, digs BB y = Y := ⟨_, rfl⟩
  have vx : val BB X = x := by rw [← hX]; exact val_digs BB_two x
  have vy : val BB Y = y := by rw [← hY]; exact val_digs BB_two y
  rw [hX] at hxl
  rw [hY] at hyl
  obtain ⟨aw, cw, hvw, hcw, h0 | ⟨gw, rfl, hcell⟩⟩ := h.words
  · omega
  have hu := hcell l.length u (by rw [hws]; simp)
  have hv := hcell (l.length + 1) v (by rw [hws]; simp)
  have hcs : p.cells[4]? = some (.slice (some ⟨gw, 0, none⟩) p.ws.length cw) := by rw [← hvw]; rfl
  refine calls_of (args := [_, _]) 96 [] τok Tryz.func108 rfl rfl rfl (Nat.le_of_ble_eq_true rfl) ?_
  refine ld (h.m.cl hcs).cell ?_
  refine drawV τok (fun z => Kp [] w z) ?_
  refine readsV τok [0, 1, 2, 3, 4, 5, 6, 7, 8, 10, 11, 12, 13, 14, 15, 16, 17, 18] 4 #[true, true, true, true, true, true, true, true, true, false, true, true, true, true, true, true, true, true, true, false, false, false] rfl rfl (by kernel_rfl) (by kernel_rfl) (by kernel_rfl) ((Kp.refl [] w).dr _) ?_
  refine ldQ (fun z hz => (h.m.kp hz (by simp)).cl hcs) ?_
  refine int64 (by omega) (by omega) ?_
  refine ix (l.length + 1) (by omega) (by omega) ?_
  refine ldQ (fun z hz => hv.1.kp hz (by simp)) ?_
  refine ldQ (fun z hz => (h.m.kp hz (by simp)).cl hcs) ?_
  refine int64 (by omega) (by omega) ?_
  refine ix l.length (by omega) (by omega) ?_
  refine ldQ (fun z hz => hu.1.kp hz (by simp)) ?_
  refine nextV τok 9 3 #[true, true, true, true, true, true, true, true, true, true, true, true, true, true, true, true, true, true, true, false, false, false] rfl rfl rfl (by kernel_rfl) ?_
  have k0 : Kp [] w { w with drawn := w.drawn + 1 } := (Kp.refl [] w).dr _
  refine ev_call (number_ct (h.k0 k0) hy) ?_
  rintro e w1 ⟨⟨v1, rfl, hv1⟩, hk1⟩
  have k01 : Kp [] w w1 := hk1.rd
  refine ⟨.inl k01, ?_⟩
  refine nextV τok 19 2 #[true, true, true, true, true, true, true, true, true, true, true, true, true, true, true, true, true, true, true, true, false, false] rfl rfl rfl (by kernel_rfl) ?_
  refine ev_call (number_ct (h.k0 k01) hx) ?_
  rintro e w2 ⟨⟨v2, rfl, hv2⟩, hk2⟩
  have k02 := k01.tr hk2
  refine ⟨.inl k02, ?_⟩
  refine nextV τok 20 1 #[true, true, true, true, true, true, true, true, true, true, true, true, true, true, true, true, true, true, true, true, true, false] rfl rfl rfl (by kernel_rfl) ?_
  refine ⟨.inl k02, ?_⟩
  refine nextV τok 21 0 #[true, true, true, true, true, true, true, true, true, true, true, true, true, true, true, true, true, true, true, true, true, true] rfl rfl rfl (by kernel_rfl) ?_
  refine ⟨.inl k02, ?_⟩
  refine doneV (by kernel_rfl) ?_
  obtain ⟨ay, cy, rfl, hsy⟩ := hv1.to hY k0 hk2
  obtain ⟨ax, cx, rfl, hsx⟩ := hv2.to hX k01 (Kp.refl [] w2)
  have hD := New.sub w.heap.size w2
  have hbig : ∀ {z}, z = id → 1 ≤ z ∧ z ≤ 3 := fun h => by omega
  have hcase : id = 1 ∨ id = 2 ∨ id = 3 := by omega
  rcases hcase with rfl | rfl | rfl
  · have hc8 := add_ct hD X Y ax ay cx cy hsx hsy (by omega) (by omega)
    rw [vx, vy] at hc8
    have hpr : primN ((1 : Nat) : Int) x y = x + y := by simp [primN]
    rw [hpr] at hfit
    refine ev_call hc8 ?_
    rintro e w8 ⟨⟨v8, rfl, hv8⟩, hk8⟩
    obtain ⟨a8, c8, rfl, hs8, _⟩ := hv8
    have k08 := k02.tr hk8
    refine ev_call (mput_ct (hC.tr k08) hK hCo (h.k0 k08) (k := 2) (by omega) (by omega) hfit (New.sub w2.heap.size w8) hs8 (fun b o t ht => h.far (Nat.le_trans k02.size ht.1))) ?_
    rintro e w9 ⟨rfl, p', u', hd, hput⟩
    refine ⟨rfl, p', u', (Did.k0 h k08).trans hd, ?_⟩
    rw [hpr]
    exact hput
  · have hc8 := nmul_ct hD X Y ax ay cx cy hsx hsy (by omega) (by omega)
    rw [vx, vy] at hc8
    have hpr : primN ((2 : Nat) : Int) x y = x * y := by simp [primN]
    rw [hpr] at hfit
    have hcw2 : p.cells[2]? = some (.int .i64 (p.words : Int)) := rfl
    have hm2 := h.m.kp k02 (by simp)
    refine int64 (by omega) (by omega) ?_
    refine int64 (by omega) (by omega) ?_
    refine br_dec (fun g1 => ?_) (fun g1 => ?_)
    · conv => whnf
      refine br_dec (fun g2 => ?_) (fun g2 => ?_)
      · conv => whnf
        refine br_no (by omega) ?_
        refine br_yes (by omega) ?_
        conv => whnf
        refine br_yes (by omega) ?_
        conv => whnf
        refine int64 (by omega) (by omega) ?_
        refine ld (hm2.cl hcw2).cell ?_
        refine br_no (by omega) ?_
        refine ev_call hc8 ?_
        rintro e w8 ⟨⟨v8, rfl, hv8⟩, hk8⟩
        obtain ⟨a8, c8, rfl, hs8, _⟩ := hv8
        have k08 := k02.tr hk8
        refine ev_call (mput_ct (hC.tr k08) hK hCo (h.k0 k08) (k := 2) (by omega) (by omega) hfit (New.sub w2.heap.size w8) hs8 (fun b o t ht => h.far (Nat.le_trans k02.size ht.1))) ?_
        rintro e w9 ⟨rfl, p', u', hd, hput⟩
        refine ⟨rfl, p', u', (Did.k0 h k08).trans hd, ?_⟩
        rw [hpr]
        exact hput
      · conv => whnf
        refine br_yes (by omega) ?_
        conv => whnf
        refine br_no (by omega) ?_
        conv => whnf
        refine ev_call hc8 ?_
        rintro e w8 ⟨⟨v8, rfl, hv8⟩, hk8⟩
        obtain ⟨a8, c8, rfl, hs8, _⟩ := hv8
        have k08 := k02.tr hk8
        refine ev_call (mput_ct (hC.tr k08) hK hCo (h.k0 k08) (k := 2) (by omega) (by omega) hfit (New.sub w2.heap.size w8) hs8 (fun b o t ht => h.far (Nat.le_trans k02.size ht.1))) ?_
        rintro e w9 ⟨rfl, p', u', hd, hput⟩
        refine ⟨rfl, p', u', (Did.k0 h k08).trans hd, ?_⟩
        rw [hpr]
        exact hput
    · conv => whnf
      refine br_no (by omega) ?_
      conv => whnf
      refine ev_call hc8 ?_
      rintro e w8 ⟨⟨v8, rfl, hv8⟩, hk8⟩
      obtain ⟨a8, c8, rfl, hs8, _⟩ := hv8
      have k08 := k02.tr hk8
      refine ev_call (mput_ct (hC.tr k08) hK hCo (h.k0 k08) (k := 2) (by omega) (by omega) hfit (New.sub w2.heap.size w8) hs8 (fun b o t ht => h.far (Nat.le_trans k02.size ht.1))) ?_
      rintro e w9 ⟨rfl, p', u', hd, hput⟩
      refine ⟨rfl, p', u', (Did.k0 h k08).trans hd, ?_⟩
      rw [hpr]
      exact hput
  · have hc8 := monus_ct hD X Y ax ay cx cy hsx hsy (by omega) (by omega)
    rw [vx, vy] at hc8
    have hpr : primN ((3 : Nat) : Int) x y = x - y := by simp [primN]
    rw [hpr] at hfit
    refine ev_call hc8 ?_
    rintro e w8 ⟨⟨v8, rfl, hv8⟩, hk8⟩
    obtain ⟨a8, c8, rfl, hs8, _⟩ := hv8
    have k08 := k02.tr hk8
    refine ev_call (mput_ct (hC.tr k08) hK hCo (h.k0 k08) (k := 2) (by omega) (by omega) hfit (New.sub w2.heap.size w8) hs8 (fun b o t ht => h.far (Nat.le_trans k02.size ht.1))) ?_
    rintro e w9 ⟨rfl, p', u', hd, hput⟩
    refine ⟨rfl, p', u', (Did.k0 h k08).trans hd, ?_⟩
    rw [hpr]
    exact hput
end
end Go.Proofs.YtbggaljmollhmaaGreatDoor

/-
  Package vm at numbers: peel, call, steps.
-/
set_option linter.unusedSimpArgs false
set_option linter.unusedVariables false
namespace Go.Proofs.YtbggaljmollhmaaGreatDoor
open Go.Wx Nm Vm Vc Cd
section
variable {lo : Nat} {w : World} {p : Pm} {C : Mem}
theorem Mi.didFrames (h : Mi lo w p) {w1 w2 : World} {v' : Value} {l' : List Frm} (ho : Own rFrm 133 lo w1 v' l') (k1 : Kp p.vf.ownBlock.toList w w1) (hf : Fp w.heap.size p.vf v') (hb : Bk w2.heap p.bm (p.cells.set 5 v') 68) (k2 : Kp [p.bm] w1 w2) :
    Did lo w w2 p { p with vf := v', frs := l' } := by
  have hm := h.frames ho k1 hf hb k2
  refine Did.of (X := p.bm :: p.vf.ownBlock.toList) ((Kp.weak k1 (fun x hx _ => List.mem_cons_of_mem _ hx)).trans k2 (fun x hx hl => by simp at hx; simp [hx])) hm fun b hb ho => ⟨fun hx => ?_, ⟨ho.m, ho.h, ho.q, ho.w, ho.s, hf.ne ho.f hb⟩⟩
  rcases List.mem_cons.1 hx with e | hx
  · exact ho.m e
  · exact ho.f (by simpa using hx)
theorem Mi.offf (h : Mi lo w p) : p.bm ∉ p.vf.ownBlock.toList := fun hx => h.mf (by simpa using hx)

set_option maxHeartbeats 400000 in
theorem mcall_ct (h : Mi lo w p) (hfr : p.frs = []) (ac : Option Addr) (len cc : Nat) :
    CallOk Tryz.prog 27 ∧ Calls Tryz.prog 27 #[.pointer (some ⟨p.bm, 0, none⟩), .slice ac len cc, .int .i64 0] w (fun e w' => e = .returned (.tuple #[]) ∧ ∃ v', Did lo w w' p { p with vf := v', frs := [⟨ac, len, cc, 0, p.ws.length⟩] }) := by
  refine ⟨⟨_, Tryz.func27, rfl, by decide⟩, ?_⟩
  obtain ⟨aw, cw, gw, hvw, hcw, haw⟩ := h.addr
  have hwl := h.wsl
  have hcs : p.cells[4]? = some (.slice aw p.ws.length cw) := by rw [← hvw]; rfl
  have hrf := h.rf
  rw [hfr] at hrf
  refine calls_of (args := [_, _, _]) 24 [] τok Tryz.func27 rfl rfl rfl (Nat.le_of_ble_eq_true rfl) ?_
  refine drawV τok (fun z => Bk z.heap p.bm p.cells 68) ?_
  refine readsV τok [0, 1, 2, 3, 4, 5, 6, 7, 8, 9, 10, 11, 12, 13] 5 #[true, true, true, true, true, true, true, true, true, true, true, true, true, true, false, false, false, false, false] rfl rfl (by kernel_rfl) (by kernel_rfl) (by kernel_rfl) h.m ?_
  refine ldQ (fun z hz => hz.cl (v := p.vf) rfl) ?_
  refine ldQ (fun z hz => hz.cl hcs) ?_
  refine i64n (p.ws.length : Int) (by omega) (by omega) (by omega) ?_
  refine nextV τok 14 4 #[true, true, true, true, true, true, true, true, true, true, true, true, true, true, true, false, false, false, false] rfl rfl rfl (by kernel_rfl) ?_
  refine fill [.slice ac len cc, .int .i64 0, .int .i64 (p.ws.length : Int)] rfl ?_
  refine new fun bN wN hbN hBN hsN hkN => ?_
  have hkN := hkN.rd
  refine ⟨.inl (h.m.kp hkN (by simp)), ?_⟩
  refine nextV τok 15 3 #[true, true, true, true, true, true, true, true, true, true, true, true, true, true, true, true, false, false, false] rfl rfl rfl (by kernel_rfl) ?_
  refine (hrf.kp hkN).ap1 τok rfl rfl (by decide) ⟨ac, len, cc, 0, p.ws.length⟩ [.slice ac len cc, .int .i64 0, .int .i64 (p.ws.length : Int)] rfl (fun j t hj => by rw [Nat.zero_add]; exact hBN.cl hj) (by simp) (by simp [maxLen]) fun vO wO hO hkO hzO => ?_
  have hmO := (h.m.kp hkN (by simp)).kp hkO h.offf
  refine ⟨.inl hmO, ?_⟩
  refine nextV τok 16 2 #[true, true, true, true, true, true, true, true, true, true, true, true, true, true, true, true, true, false, false] rfl rfl rfl (by kernel_rfl) ?_
  refine ⟨.inl hmO, ?_⟩
  refine nextV τok 17 1 #[true, true, true, true, true, true, true, true, true, true, true, true, true, true, true, true, true, true, false] rfl rfl rfl (by kernel_rfl) ?_
  refine ⟨.inl hmO, ?_⟩
  refine nextV τok 18 0 #[true, true, true, true, true, true, true, true, true, true, true, true, true, true, true, true, true, true, true] rfl rfl rfl (by kernel_rfl) ?_
  obtain ⟨aO, cO, hvO⟩ := hO.len
  refine st (b := p.bm) (o := 5) hmO (by simp [Pm.cells]) (by rw [hvO]; rfl) fun wP hmP hsP hkP => ?_
  refine ⟨.inr (by kernel_rfl), ?_⟩
  refine doneV (by kernel_rfl) ?_
  refine ⟨rfl, vO, h.didFrames hO ((Kp.weak hkN (by simp)).trans hkO (fun x hx _ => hx)) ?_ hmP hkP⟩
  rcases hzO with e | e
  · exact .inl e
  · exact .inr ⟨_, hkN.size, e⟩

set_option maxHeartbeats 400000 in
theorem peel_ct (hC : Sub C w) (hK : Kt C) (hCo : ∀ b o v, C b o v → b < lo) (h : Mi lo w p) {l : List Nat} {x u : Nat} {f : Value} {to : Int} (hws : p.ws = l ++ [u]) (hl : l.length ≤ 800) (hx : Wd p.G x u) (h0 : x ≠ 0) (hxl : (digs BB x).length ≤ 4) (hfit : Fits p (x - 1)) :
    CallOk Tryz.prog 107 ∧ Calls Tryz.prog 107 #[.pointer (some ⟨p.bm, 0, none⟩), f, .int .i64 to] w (fun e w' => e = .returned (.tuple #[]) ∧ ∃ p' u', Did lo w w' p p' ∧ Puts p p' (x - 1) 1 u') := by
  refine ⟨⟨_, Tryz.func107, rfl, by decide⟩, ?_⟩
  have hlen : p.ws.length = l.length + 1 := by rw [hws]; simp
  obtain ⟨X, hX⟩ : ∃ X, digs BB x = X := ⟨_, rfl⟩
  have vx : val BB X = x := by rw [← hX]; exact val_digs BB_two x
  have hX0 : 0 < X.length := by
    rw [← hX]
    exact List.length_pos_iff.2 fun e => h0 ((digs_nil_iff BB_two).1 e)
  rw [hX] at hxl
  obtain ⟨Y, hY⟩ : ∃ Y, digs BB 1 = Y := ⟨_, rfl⟩
  have vy : val BB Y = 1 := by rw [← hY]; exact val_digs BB_two 1
  have hYl : Y.length ≤ 1 := by rw [← hY]; exact digs_len_le BB_two (by decide)
  obtain ⟨aw, cw, hvw, hcw, h00 | ⟨gw, rfl, hcell⟩⟩ := h.words
  · omega
  have hu := hcell l.length u (by rw [hws]; simp)
  have hcs : p.cells[4]? = some (.slice (some ⟨gw, 0, none⟩) p.ws.length cw) := by rw [← hvw]; rfl
  refine calls_of (args := [_, _, _]) 35 [] τok Tryz.func107 rfl rfl rfl (Nat.le_of_ble_eq_true rfl) ?_
  refine drawV τok (fun z => Kp [] w z) ?_
  refine readsV τok [0, 1, 2, 3, 4, 5, 6, 7, 8, 9, 10, 11, 12] 2 #[true, true, true, true, true, true, true, true, true, true, true, true, true, false, false] rfl rfl (by kernel_rfl) (by kernel_rfl) (by kernel_rfl) ((Kp.refl [] w).dr _) ?_
  refine ldQ (fun z hz => (h.m.kp hz (by simp)).cl hcs) ?_
  refine ldQ (fun z hz => (h.m.kp hz (by simp)).cl hcs) ?_
  refine int64 (by omega) (by omega) ?_
  refine ix l.length (by omega) (by omega) ?_
  refine ldQ (fun z hz => hu.1.kp hz (by simp)) ?_
  refine nextV τok 13 1 #[true, true, true, true, true, true, true, true, true, true, true, true, true, true, false] rfl rfl rfl (by kernel_rfl) ?_
  have k0 : Kp [] w { w with drawn := w.drawn + 1 } := (Kp.refl [] w).dr _
  refine ev_call (number_ct (h.k0 k0) hx) ?_
  rintro e w1 ⟨⟨v1, rfl, hv1⟩, hk1⟩
  have k01 : Kp [] w w1 := hk1.rd
  refine ⟨.inl k01, ?_⟩
  refine nextV τok 14 0 #[true, true, true, true, true, true, true, true, true, true, true, true, true, true, true] rfl rfl rfl (by kernel_rfl) ?_
  refine ⟨.inl k01, ?_⟩
  refine doneV (by kernel_rfl) ?_
  obtain ⟨ax, cx, rfl, hsx⟩ := hv1.to hX k0 (Kp.refl [] w1)
  refine br_no (by omega) ?_
  refine ev_call (of_ct 1 (by decide) w1) ?_
  rintro e w2 ⟨⟨v2, rfl, hv2⟩, hk2⟩
  have k02 := k01.tr hk2
  obtain ⟨ay, cy, rfl, hsy⟩ := hv2.to hY k01 (Kp.refl [] w2)
  have hsx2 : Sl rW (New w.heap.size w2) ax X := hsx.mono (New.up (Nat.le_refl _) hk2)
  have hc8 := monus_ct (New.sub w.heap.size w2) X Y ax ay cx cy hsx2 hsy (by omega) (by omega)
  rw [vx, vy] at hc8
  refine ev_call hc8 ?_
  rintro e w8 ⟨⟨v8, rfl, hv8⟩, hk8⟩
  obtain ⟨a8, c8, rfl, hs8, _⟩ := hv8
  have k08 := k02.tr hk8
  refine ev_call (mput_ct (hC.tr k08) hK hCo (h.k0 k08) (k := 1) (by omega) (by omega) hfit (New.sub w2.heap.size w8) hs8 (fun b o t ht => h.far (Nat.le_trans k02.size ht.1))) ?_
  rintro e w9 ⟨rfl, p', u', hd, hput⟩
  exact ⟨rfl, p', u', (Did.k0 h k08).trans hd, hput⟩
end
end Go.Proofs.YtbggaljmollhmaaGreatDoor

