/-
  Own texts put together: VcG, VcH, VcI, VcJ, VcK.
-/
import Derived.Test.YtbggaljmollhmaaGreatDoorMg11
import Derived.Recover
/-
  Package vm at numbers: a step, instruction by instruction.
-/
set_option linter.unusedSimpArgs false
set_option linter.unusedVariables false
namespace Go.Proofs.YtbggaljmollhmaaGreatDoor
open Go.Wx Nm Vm Vc Cd
section
variable {lo : Nat} {w : World} {p : Pm} {C : Mem}
theorem Mi.frame (h : Mi lo w p) {f : Frm} (hf : p.frs = [f]) : ∃ g c, p.vf = .slice (some ⟨g, 0, none⟩) 1 c ∧ Off { p with vf := .slice none 0 0 } g ∧ lo ≤ g ∧ Cl w.heap g 0 (.slice f.a f.len f.cap) ∧ Cl w.heap g 1 (.int .i64 f.next) ∧ Cl w.heap g 2 (.int .i64 f.base) := by
  have hrf := h.rf
  rw [hf] at hrf
  obtain ⟨css, h1, h2⟩ := hrf.row
  obtain ⟨a', c', hv', hs⟩ := hrf.den (by simp)
  rcases h1.2 with ⟨e, h0⟩ | ⟨g, cap, cur, e, hlo, _⟩
  · simp at h0
  · rw [hv'] at e
    injection e with e1 e2 e3
    subst e1
    obtain ⟨b, o, hbo, h3⟩ := hs.at (i := 0) (by simp)
    have hbo := Option.some.inj hbo
    injection hbo with i1 i2
    subst i1 i2
    obtain ⟨cs, rfl, h4⟩ := h3 0 f rfl
    refine ⟨g, c', hv', ?_, hlo, (h4 0 _ rfl).2.cl, (h4 1 _ rfl).2.cl, (h4 2 _ rfl).2.cl⟩
    have hob : p.vf.ownBlock = some g := by rw [hv']; rfl
    exact ⟨fun e => h.mf (by rw [hob, e]), fun e => h.hf (by rw [hob, e]), fun e => h.pf (by rw [hob, e]), h.fw g hob, fun e => h.fs g hob e, by simp [Value.ownBlock]⟩

/-- code in memory, and where the frame stands -/
structure At (C : Mem) (lo : Nat) (p : Pm) (code : List Ins) (k : Nat) : Prop where
  sl : ∃ a c, Sl rIns C a code ∧ p.frs = [⟨a, code.length, c, k, 0⟩]
  lt : code.length ≤ 100
/-- all but the rows is the same -/
structure Sm (q p : Pm) : Prop where
  bm : q.bm = p.bm
  bc : q.bc = p.bc
  words : q.words = p.words
  fuel : q.fuel = p.fuel
  steps : q.steps = p.steps
  kind : q.kind = p.kind
  vv : q.vv = p.vv
def Pm.go (p : Pm) (f : Frm) : Pm := { p with frs := [f] }

set_option maxHeartbeats 1000000 in
theorem step_num (hC : Sub C w) (hK : Kt C) (hCo : ∀ b o v, C b o v → b < lo) (h : Mi lo w p) {code : List Ins} {k : Nat} (hat : At C lo p code k) {x : Nat} (hn : code[k]? = some ⟨2, (x : Int), 0, []⟩) (hx : x ≤ 1048576) (hl : p.ws.length ≤ 800) :
    CallOk Tryz.prog 64 ∧ Calls Tryz.prog 64 #[.pointer (some ⟨p.bm, 0, none⟩)] w (fun e w' => e = .returned (.bool true) ∧ ∃ q p' u, Did lo w w' p p' ∧ Puts q p' x 0 u ∧ q.ws = p.ws ∧ q.G = p.G ∧ Sm q p ∧ At C lo q code (k + 1)) := by
  -- x: the instruction
  refine ⟨⟨_, Tryz.func64, rfl, by decide⟩, ?_⟩
  obtain ⟨⟨ac, cc, hcode, hfrs⟩, hclen⟩ := hat
  obtain ⟨g, cf, hvf, hgoff, hglo, hg0, hg1, hg2⟩ := h.frame hfrs
  simp only at hg0 hg1 hg2
  have hklt := get_lt hn
  obtain ⟨bc, oc, hac, ato, cto, hto, _, _, _, hcells⟩ := sl_ins hcode hn
  subst hac
  have hcs5 : p.cells[5]? = some (.slice (some ⟨g, 0, none⟩) 1 cf) := by rw [← hvf]; rfl
  refine calls_of (args := [_]) 216 [.tmp 2] τok Tryz.func64 rfl rfl rfl (Nat.le_of_ble_eq_true rfl) ?_
  refine drawR τok (by kernel_rfl) ?_
  refine ldR (h.m.cl hcs5) ?_
  refine ldR (h.m.cl hcs5) ?_
  refine int64 (by decide) (by decide) ?_
  refine ix 0 (by decide) (by decide) ?_
  intro m1
  have k1 : Kp [] w { w with drawn := m1 } := (Kp.refl [] w).dr _
  refine drawV τok (fun z => Kp [] w z) ?_
  refine readsV τok [0, 1, 2, 3, 4, 5, 6, 7, 8, 9] 2 #[true, true, true, true, true, true, true, true, true, true, false, false] rfl rfl (by kernel_rfl) (by kernel_rfl) (by kernel_rfl) (k1.dr _) ?_
  refine ldQ (fun z hz => hg0.kp hz (by simp)) ?_
  refine ldQ (fun z hz => hg1.kp hz (by simp)) ?_
  refine ix k rfl hklt ?_
  refine ldNK _ rfl (fun j v hj => hC _ _ _ (hcells j v hj)) ?_
  refine nextV τok 10 1 #[true, true, true, true, true, true, true, true, true, true, true, false] rfl rfl rfl (by kernel_rfl) ?_
  refine new fun b4 w1 hb4 hB4 hs1 hk1 => ?_
  have k01 : Kp [] w w1 := ⟨hk1.os, hk1.tape, hk1.output, hk1.size, hk1.block⟩
  refine ⟨.inl k01, ?_⟩
  refine nextV τok 11 0 #[true, true, true, true, true, true, true, true, true, true, true, true] rfl rfl rfl (by kernel_rfl) ?_
  have hb4' : b4 = w.heap.size := hb4
  refine stN hB4 rfl (by simp [Value.oneCell']) fun w2 hB4 hs2 hk2 => ?_
  refine ⟨.inr (by kernel_rfl), ?_⟩
  refine doneV (by kernel_rfl) ?_
  have k02 : Kp [] w w2 := k01.trans hk2 (fun x hx hl => by simp at hx; omega)
  have h2 := h.k0 k02
  refine ld (hg1.kp k02 (by simp)).cell ?_
  refine int64 (by omega) (by omega) ?_
  have hrf2 := h2.rf
  rw [hfrs] at hrf2
  obtain ⟨g', c', hv', hlo', hst⟩ := hrf2.st (i := 0) (j := 1) (x := ⟨some ⟨bc, oc, none⟩, code.length, cc, k, 0⟩) (y := ⟨some ⟨bc, oc, none⟩, code.length, cc, k + 1, 0⟩) rfl (by decide) (u := .int .i64 ((k : Int) + 1)) rfl (by rintro cs rfl; rfl)
  rw [hvf] at hv'
  injection hv' with e1 _ _
  have e1 := Option.some.inj e1
  injection e1 with e1 _
  subst e1
  refine hst fun w3 hO3 hs3 hk3 => ?_
  have hob : p.vf.ownBlock = some g := by rw [hvf]; rfl
  have hm3 := h2.m.kp hk3 (by simp; exact fun e => h.mf (by rw [hob, e]))
  have hset : p.cells.set 5 p.vf = p.cells := rfl
  have hd3 := (Did.k0 h k02).trans (h2.didFrames (v' := p.vf) (l' := [⟨some ⟨bc, oc, none⟩, code.length, cc, k + 1, 0⟩]) hO3 (by rw [hob]; exact hk3) (.inl rfl) (by rw [hset]; exact hm3) (Kp.refl _ _))
  obtain ⟨q, hq⟩ : ∃ q : Pm, q = { p with frs := [⟨some ⟨bc, oc, none⟩, code.length, cc, k + 1, 0⟩] } := ⟨_, rfl⟩
  have hd3 : Did lo w w3 p q := by rw [hq]; exact hd3
  have h3 := hd3.mi
  have qbm : q.bm = p.bm := by rw [hq]
  have qws : q.ws = p.ws := by rw [hq]
  have qG : q.G = p.G := by rw [hq]
  have qwd : q.words = p.words := by rw [hq]
  have qsm : Sm q p := by rw [hq]; exact ⟨rfl, rfl, rfl, rfl, rfl, rfl, rfl⟩
  have qvf : q.vf = p.vf := by rw [hq]
  have qat : At C lo q code (k + 1) := ⟨⟨_, cc, hcode, by rw [hq]⟩, hclen⟩
  have hB4 := hB4.kp hk3 (by simp; exact fun e => by have := (hg0.lt); omega)
  have hC3 : Sub C w3 := fun b o v hc => by
    obtain ⟨c, T, f, e1, e2⟩ := hC b o v hc
    have hlt : b < w.heap.size := (hC b o v hc).lt
    exact ⟨c, T, f, by rw [hd3.kp b hlt (h.old (hCo b o v hc))]; exact e1, e2⟩
  refine ld (hB4.cl rfl).cell ?_
  rw [← qbm]
  refine ld (hB4.cl rfl).cell ?_
  refine u64n x (by omega) rfl ?_
  refine ev_call (of_ct x (by omega) w3) ?_
  rintro e w4 ⟨⟨v4, rfl, hv4⟩, hk4⟩
  obtain ⟨a4, c4, rfl, hs4, _⟩ := hv4
  refine ev_call (mput_ct (hC3.tr hk4) hK hCo (h3.k0 hk4) (k := 0) (Nat.zero_le _) (by rw [qws]; omega) (.inl (by unfold mostSmall; omega)) (New.sub w3.heap.size w4) hs4 (fun b o t ht => h3.far ht.1)) ?_
  rintro e w5 ⟨rfl, p', u', hd5, hput⟩
  have hE := hd5.mi
  have hfE := hput.frs
  rw [hq] at hfE
  -- the frames that are left
  obtain ⟨gE, cE, hvE, _⟩ := hE.frame hfE
  have hcE : (Pm.cells p')[5]? = some (.slice (some ⟨gE, 0, none⟩) 1 cE) := by rw [← hvE]; rfl
  have hmE := hE.m
  rw [hput.bm] at hmE
  refine ld (hmE.cl hcE).cell ?_
  exact ⟨rfl, q, p', u', hd3.trans ((Did.k0 h3 hk4).trans hd5), hput, qws, qG, qsm, qat⟩

set_option maxHeartbeats 1000000 in
theorem step_prim (hC : Sub C w) (hK : Kt C) (hCo : ∀ b o v, C b o v → b < lo) (h : Mi lo w p) {code : List Ins} {k : Nat} (hat : At C lo p code k) {id x y u v : Nat} {l : List Nat} (hn : code[k]? = some ⟨12, (id : Int), 0, []⟩) (hws : p.ws = l ++ [u, v]) (hl : l.length ≤ 800) (hx : Wd p.G x u) (hy : Wd p.G y v)
    (hid : 1 ≤ id ∧ id ≤ 3) (h8 : 8 ≤ p.words) (hxl : (digs BB x).length ≤ 4) (hyl : (digs BB y).length ≤ 4) (hfit : Fits p (primN id x y)) :
    CallOk Tryz.prog 64 ∧ Calls Tryz.prog 64 #[.pointer (some ⟨p.bm, 0, none⟩)] w (fun e w' => e = .returned (.bool true) ∧ ∃ q p' u', Did lo w w' p p' ∧ Puts q p' (primN id x y) 2 u' ∧ q.ws = p.ws ∧ q.G = p.G ∧ Sm q p ∧ At C lo q code (k + 1)) := by
  -- x: the instruction
  refine ⟨⟨_, Tryz.func64, rfl, by decide⟩, ?_⟩
  obtain ⟨⟨ac, cc, hcode, hfrs⟩, hclen⟩ := hat
  obtain ⟨g, cf, hvf, hgoff, hglo, hg0, hg1, hg2⟩ := h.frame hfrs
  simp only at hg0 hg1 hg2
  have hklt := get_lt hn
  obtain ⟨bc, oc, hac, ato, cto, hto, _, _, _, hcells⟩ := sl_ins hcode hn
  subst hac
  have hcs5 : p.cells[5]? = some (.slice (some ⟨g, 0, none⟩) 1 cf) := by rw [← hvf]; rfl
  refine calls_of (args := [_]) 216 [.tmp 2] τok Tryz.func64 rfl rfl rfl (Nat.le_of_ble_eq_true rfl) ?_
  refine drawR τok (by kernel_rfl) ?_
  refine ldR (h.m.cl hcs5) ?_
  refine ldR (h.m.cl hcs5) ?_
  refine int64 (by decide) (by decide) ?_
  refine ix 0 (by decide) (by decide) ?_
  intro m1
  have k1 : Kp [] w { w with drawn := m1 } := (Kp.refl [] w).dr _
  refine drawV τok (fun z => Kp [] w z) ?_
  refine readsV τok [0, 1, 2, 3, 4, 5, 6, 7, 8, 9] 2 #[true, true, true, true, true, true, true, true, true, true, false, false] rfl rfl (by kernel_rfl) (by kernel_rfl) (by kernel_rfl) (k1.dr _) ?_
  refine ldQ (fun z hz => hg0.kp hz (by simp)) ?_
  refine ldQ (fun z hz => hg1.kp hz (by simp)) ?_
  refine ix k rfl hklt ?_
  refine ldNK _ rfl (fun j v hj => hC _ _ _ (hcells j v hj)) ?_
  refine nextV τok 10 1 #[true, true, true, true, true, true, true, true, true, true, true, false] rfl rfl rfl (by kernel_rfl) ?_
  refine new fun b4 w1 hb4 hB4 hs1 hk1 => ?_
  have k01 : Kp [] w w1 := ⟨hk1.os, hk1.tape, hk1.output, hk1.size, hk1.block⟩
  refine ⟨.inl k01, ?_⟩
  refine nextV τok 11 0 #[true, true, true, true, true, true, true, true, true, true, true, true] rfl rfl rfl (by kernel_rfl) ?_
  have hb4' : b4 = w.heap.size := hb4
  refine stN hB4 rfl (by simp [Value.oneCell']) fun w2 hB4 hs2 hk2 => ?_
  refine ⟨.inr (by kernel_rfl), ?_⟩
  refine doneV (by kernel_rfl) ?_
  have k02 : Kp [] w w2 := k01.trans hk2 (fun x hx hl => by simp at hx; omega)
  have h2 := h.k0 k02
  refine ld (hg1.kp k02 (by simp)).cell ?_
  refine int64 (by omega) (by omega) ?_
  have hrf2 := h2.rf
  rw [hfrs] at hrf2
  obtain ⟨g', c', hv', hlo', hst⟩ := hrf2.st (i := 0) (j := 1) (x := ⟨some ⟨bc, oc, none⟩, code.length, cc, k, 0⟩) (y := ⟨some ⟨bc, oc, none⟩, code.length, cc, k + 1, 0⟩) rfl (by decide) (u := .int .i64 ((k : Int) + 1)) rfl (by rintro cs rfl; rfl)
  rw [hvf] at hv'
  injection hv' with e1 _ _
  have e1 := Option.some.inj e1
  injection e1 with e1 _
  subst e1
  refine hst fun w3 hO3 hs3 hk3 => ?_
  have hob : p.vf.ownBlock = some g := by rw [hvf]; rfl
  have hm3 := h2.m.kp hk3 (by simp; exact fun e => h.mf (by rw [hob, e]))
  have hset : p.cells.set 5 p.vf = p.cells := rfl
  have hd3 := (Did.k0 h k02).trans (h2.didFrames (v' := p.vf) (l' := [⟨some ⟨bc, oc, none⟩, code.length, cc, k + 1, 0⟩]) hO3 (by rw [hob]; exact hk3) (.inl rfl) (by rw [hset]; exact hm3) (Kp.refl _ _))
  obtain ⟨q, hq⟩ : ∃ q : Pm, q = { p with frs := [⟨some ⟨bc, oc, none⟩, code.length, cc, k + 1, 0⟩] } := ⟨_, rfl⟩
  have hd3 : Did lo w w3 p q := by rw [hq]; exact hd3
  have h3 := hd3.mi
  have qbm : q.bm = p.bm := by rw [hq]
  have qws : q.ws = p.ws := by rw [hq]
  have qG : q.G = p.G := by rw [hq]
  have qwd : q.words = p.words := by rw [hq]
  have qsm : Sm q p := by rw [hq]; exact ⟨rfl, rfl, rfl, rfl, rfl, rfl, rfl⟩
  have qvf : q.vf = p.vf := by rw [hq]
  have qat : At C lo q code (k + 1) := ⟨⟨_, cc, hcode, by rw [hq]⟩, hclen⟩
  have hB4 := hB4.kp hk3 (by simp; exact fun e => by have := (hg0.lt); omega)
  have hC3 : Sub C w3 := fun b o v hc => by
    obtain ⟨c, T, f, e1, e2⟩ := hC b o v hc
    have hlt : b < w.heap.size := (hC b o v hc).lt
    exact ⟨c, T, f, by rw [hd3.kp b hlt (h.old (hCo b o v hc))]; exact e1, e2⟩
  refine ld (hB4.cl rfl).cell ?_
  rw [← qbm]
  refine ld (hB4.cl rfl).cell ?_
  refine ev_call (prim_ct hC3 hK hCo h3 (l := l) (u := u) (v := v) (x := x) (y := y) (by rw [qws]; exact hws) hl (by rw [qG]; exact hx) (by rw [qG]; exact hy) hid (by rw [qwd]; exact h8) hxl hyl (by unfold Fits at *; rw [qG, qwd]; exact hfit)) ?_
  rintro e w5 ⟨rfl, p', u', hd5, hput⟩
  have hE := hd5.mi
  have hfE := hput.frs
  rw [hq] at hfE
  -- the frames that are left
  obtain ⟨gE, cE, hvE, _⟩ := hE.frame hfE
  have hcE : (Pm.cells p')[5]? = some (.slice (some ⟨gE, 0, none⟩) 1 cE) := by rw [← hvE]; rfl
  have hmE := hE.m
  rw [hput.bm] at hmE
  refine ld (hmE.cl hcE).cell ?_
  exact ⟨rfl, q, p', u', hd3.trans hd5, hput, qws, qG, qsm, qat⟩

set_option maxHeartbeats 1000000 in
theorem step_peel (hC : Sub C w) (hK : Kt C) (hCo : ∀ b o v, C b o v → b < lo) (h : Mi lo w p) {code : List Ins} {k : Nat} (hat : At C lo p code k) {x u : Nat} {to : Int} {l : List Nat} (hn : code[k]? = some ⟨11, 0, 0, [to]⟩) (hws : p.ws = l ++ [u]) (hl : l.length ≤ 800) (hx : Wd p.G x u) (h0 : x ≠ 0)
    (hxl : (digs BB x).length ≤ 4) (hfit : Fits p (x - 1)) :
    CallOk Tryz.prog 64 ∧ Calls Tryz.prog 64 #[.pointer (some ⟨p.bm, 0, none⟩)] w (fun e w' => e = .returned (.bool true) ∧ ∃ q p' u', Did lo w w' p p' ∧ Puts q p' (x - 1) 1 u' ∧ q.ws = p.ws ∧ q.G = p.G ∧ Sm q p ∧ At C lo q code (k + 1)) := by
  -- x: the instruction
  refine ⟨⟨_, Tryz.func64, rfl, by decide⟩, ?_⟩
  obtain ⟨⟨ac, cc, hcode, hfrs⟩, hclen⟩ := hat
  obtain ⟨g, cf, hvf, hgoff, hglo, hg0, hg1, hg2⟩ := h.frame hfrs
  simp only at hg0 hg1 hg2
  have hklt := get_lt hn
  obtain ⟨bc, oc, hac, ato, cto, hto, _, _, _, hcells⟩ := sl_ins hcode hn
  subst hac
  have hcs5 : p.cells[5]? = some (.slice (some ⟨g, 0, none⟩) 1 cf) := by rw [← hvf]; rfl
  refine calls_of (args := [_]) 216 [.tmp 2] τok Tryz.func64 rfl rfl rfl (Nat.le_of_ble_eq_true rfl) ?_
  refine drawR τok (by kernel_rfl) ?_
  refine ldR (h.m.cl hcs5) ?_
  refine ldR (h.m.cl hcs5) ?_
  refine int64 (by decide) (by decide) ?_
  refine ix 0 (by decide) (by decide) ?_
  intro m1
  have k1 : Kp [] w { w with drawn := m1 } := (Kp.refl [] w).dr _
  refine drawV τok (fun z => Kp [] w z) ?_
  refine readsV τok [0, 1, 2, 3, 4, 5, 6, 7, 8, 9] 2 #[true, true, true, true, true, true, true, true, true, true, false, false] rfl rfl (by kernel_rfl) (by kernel_rfl) (by kernel_rfl) (k1.dr _) ?_
  refine ldQ (fun z hz => hg0.kp hz (by simp)) ?_
  refine ldQ (fun z hz => hg1.kp hz (by simp)) ?_
  refine ix k rfl hklt ?_
  refine ldNK _ rfl (fun j v hj => hC _ _ _ (hcells j v hj)) ?_
  refine nextV τok 10 1 #[true, true, true, true, true, true, true, true, true, true, true, false] rfl rfl rfl (by kernel_rfl) ?_
  refine new fun b4 w1 hb4 hB4 hs1 hk1 => ?_
  have k01 : Kp [] w w1 := ⟨hk1.os, hk1.tape, hk1.output, hk1.size, hk1.block⟩
  refine ⟨.inl k01, ?_⟩
  refine nextV τok 11 0 #[true, true, true, true, true, true, true, true, true, true, true, true] rfl rfl rfl (by kernel_rfl) ?_
  have hb4' : b4 = w.heap.size := hb4
  refine stN hB4 rfl (by simp [Value.oneCell']) fun w2 hB4 hs2 hk2 => ?_
  refine ⟨.inr (by kernel_rfl), ?_⟩
  refine doneV (by kernel_rfl) ?_
  have k02 : Kp [] w w2 := k01.trans hk2 (fun x hx hl => by simp at hx; omega)
  have h2 := h.k0 k02
  refine ld (hg1.kp k02 (by simp)).cell ?_
  refine int64 (by omega) (by omega) ?_
  have hrf2 := h2.rf
  rw [hfrs] at hrf2
  obtain ⟨g', c', hv', hlo', hst⟩ := hrf2.st (i := 0) (j := 1) (x := ⟨some ⟨bc, oc, none⟩, code.length, cc, k, 0⟩) (y := ⟨some ⟨bc, oc, none⟩, code.length, cc, k + 1, 0⟩) rfl (by decide) (u := .int .i64 ((k : Int) + 1)) rfl (by rintro cs rfl; rfl)
  rw [hvf] at hv'
  injection hv' with e1 _ _
  have e1 := Option.some.inj e1
  injection e1 with e1 _
  subst e1
  refine hst fun w3 hO3 hs3 hk3 => ?_
  have hob : p.vf.ownBlock = some g := by rw [hvf]; rfl
  have hm3 := h2.m.kp hk3 (by simp; exact fun e => h.mf (by rw [hob, e]))
  have hset : p.cells.set 5 p.vf = p.cells := rfl
  have hd3 := (Did.k0 h k02).trans (h2.didFrames (v' := p.vf) (l' := [⟨some ⟨bc, oc, none⟩, code.length, cc, k + 1, 0⟩]) hO3 (by rw [hob]; exact hk3) (.inl rfl) (by rw [hset]; exact hm3) (Kp.refl _ _))
  obtain ⟨q, hq⟩ : ∃ q : Pm, q = { p with frs := [⟨some ⟨bc, oc, none⟩, code.length, cc, k + 1, 0⟩] } := ⟨_, rfl⟩
  have hd3 : Did lo w w3 p q := by rw [hq]; exact hd3
  have h3 := hd3.mi
  have qbm : q.bm = p.bm := by rw [hq]
  have qws : q.ws = p.ws := by rw [hq]
  have qG : q.G = p.G := by rw [hq]
  have qwd : q.words = p.words := by rw [hq]
  have qsm : Sm q p := by rw [hq]; exact ⟨rfl, rfl, rfl, rfl, rfl, rfl, rfl⟩
  have qvf : q.vf = p.vf := by rw [hq]
  have qat : At C lo q code (k + 1) := ⟨⟨_, cc, hcode, by rw [hq]⟩, hclen⟩
  have hB4 := hB4.kp hk3 (by simp; exact fun e => by have := (hg0.lt); omega)
  have hC3 : Sub C w3 := fun b o v hc => by
    obtain ⟨c, T, f, e1, e2⟩ := hC b o v hc
    have hlt : b < w.heap.size := (hC b o v hc).lt
    exact ⟨c, T, f, by rw [hd3.kp b hlt (h.old (hCo b o v hc))]; exact e1, e2⟩
  refine ld (hB4.cl rfl).cell ?_
  rw [← qbm]
  obtain ⟨bt, ot, hbt, hct, _⟩ := hto.int (i := 0) rfl
  subst hbt
  refine ld (hB4.cl rfl).cell ?_
  refine ix 0 rfl (by simp) ?_
  refine ldC hC3 hct ?_
  refine ev_call (peel_ct hC3 hK hCo h3 (l := l) (u := u) (x := x) (by rw [qws]; exact hws) hl (by rw [qG]; exact hx) h0 hxl (by unfold Fits at *; rw [qG, qwd]; exact hfit)) ?_
  rintro e w5 ⟨rfl, p', u', hd5, hput⟩
  have hE := hd5.mi
  have hfE := hput.frs
  rw [hq] at hfE
  -- the frames that are left
  obtain ⟨gE, cE, hvE, _⟩ := hE.frame hfE
  have hcE : (Pm.cells p')[5]? = some (.slice (some ⟨gE, 0, none⟩) 1 cE) := by rw [← hvE]; rfl
  have hmE := hE.m
  rw [hput.bm] at hmE
  refine ld (hmE.cl hcE).cell ?_
  exact ⟨rfl, q, p', u', hd3.trans hd5, hput, qws, qG, qsm, qat⟩

set_option maxHeartbeats 1000000 in
theorem step_box (hC : Sub C w) (hCo : ∀ b o v, C b o v → b < lo) (h : Mi lo w p) {code : List Ins} {k : Nat} (hat : At C lo p code k) (hn : code[k]? = some ⟨1, 0, 0, []⟩) (hl : p.ws.length ≤ 800) :
    CallOk Tryz.prog 64 ∧ Calls Tryz.prog 64 #[.pointer (some ⟨p.bm, 0, none⟩)] w (fun e w' => e = .returned (.bool true) ∧ ∃ q v', Did lo w w' p { q with vs := v', ws := p.ws ++ [3] } ∧ q.G = p.G ∧ Sm q p ∧ At C lo q code (k + 1)) := by
  -- x: the instruction
  refine ⟨⟨_, Tryz.func64, rfl, by decide⟩, ?_⟩
  obtain ⟨⟨ac, cc, hcode, hfrs⟩, hclen⟩ := hat
  obtain ⟨g, cf, hvf, hgoff, hglo, hg0, hg1, hg2⟩ := h.frame hfrs
  simp only at hg0 hg1 hg2
  have hklt := get_lt hn
  obtain ⟨bc, oc, hac, ato, cto, hto, _, _, _, hcells⟩ := sl_ins hcode hn
  subst hac
  have hcs5 : p.cells[5]? = some (.slice (some ⟨g, 0, none⟩) 1 cf) := by rw [← hvf]; rfl
  refine calls_of (args := [_]) 216 [.tmp 2] τok Tryz.func64 rfl rfl rfl (Nat.le_of_ble_eq_true rfl) ?_
  refine drawR τok (by kernel_rfl) ?_
  refine ldR (h.m.cl hcs5) ?_
  refine ldR (h.m.cl hcs5) ?_
  refine int64 (by decide) (by decide) ?_
  refine ix 0 (by decide) (by decide) ?_
  intro m1
  have k1 : Kp [] w { w with drawn := m1 } := (Kp.refl [] w).dr _
  refine drawV τok (fun z => Kp [] w z) ?_
  refine readsV τok [0, 1, 2, 3, 4, 5, 6, 7, 8, 9] 2 #[true, true, true, true, true, true, true, true, true, true, false, false] rfl rfl (by kernel_rfl) (by kernel_rfl) (by kernel_rfl) (k1.dr _) ?_
  refine ldQ (fun z hz => hg0.kp hz (by simp)) ?_
  refine ldQ (fun z hz => hg1.kp hz (by simp)) ?_
  refine ix k rfl hklt ?_
  refine ldNK _ rfl (fun j v hj => hC _ _ _ (hcells j v hj)) ?_
  refine nextV τok 10 1 #[true, true, true, true, true, true, true, true, true, true, true, false] rfl rfl rfl (by kernel_rfl) ?_
  refine new fun b4 w1 hb4 hB4 hs1 hk1 => ?_
  have k01 : Kp [] w w1 := ⟨hk1.os, hk1.tape, hk1.output, hk1.size, hk1.block⟩
  refine ⟨.inl k01, ?_⟩
  refine nextV τok 11 0 #[true, true, true, true, true, true, true, true, true, true, true, true] rfl rfl rfl (by kernel_rfl) ?_
  have hb4' : b4 = w.heap.size := hb4
  refine stN hB4 rfl (by simp [Value.oneCell']) fun w2 hB4 hs2 hk2 => ?_
  refine ⟨.inr (by kernel_rfl), ?_⟩
  refine doneV (by kernel_rfl) ?_
  have k02 : Kp [] w w2 := k01.trans hk2 (fun x hx hl => by simp at hx; omega)
  have h2 := h.k0 k02
  refine ld (hg1.kp k02 (by simp)).cell ?_
  refine int64 (by omega) (by omega) ?_
  have hrf2 := h2.rf
  rw [hfrs] at hrf2
  obtain ⟨g', c', hv', hlo', hst⟩ := hrf2.st (i := 0) (j := 1) (x := ⟨some ⟨bc, oc, none⟩, code.length, cc, k, 0⟩) (y := ⟨some ⟨bc, oc, none⟩, code.length, cc, k + 1, 0⟩) rfl (by decide) (u := .int .i64 ((k : Int) + 1)) rfl (by rintro cs rfl; rfl)
  rw [hvf] at hv'
  injection hv' with e1 _ _
  have e1 := Option.some.inj e1
  injection e1 with e1 _
  subst e1
  refine hst fun w3 hO3 hs3 hk3 => ?_
  have hob : p.vf.ownBlock = some g := by rw [hvf]; rfl
  have hm3 := h2.m.kp hk3 (by simp; exact fun e => h.mf (by rw [hob, e]))
  have hset : p.cells.set 5 p.vf = p.cells := rfl
  have hd3 := (Did.k0 h k02).trans (h2.didFrames (v' := p.vf) (l' := [⟨some ⟨bc, oc, none⟩, code.length, cc, k + 1, 0⟩]) hO3 (by rw [hob]; exact hk3) (.inl rfl) (by rw [hset]; exact hm3) (Kp.refl _ _))
  obtain ⟨q, hq⟩ : ∃ q : Pm, q = { p with frs := [⟨some ⟨bc, oc, none⟩, code.length, cc, k + 1, 0⟩] } := ⟨_, rfl⟩
  have hd3 : Did lo w w3 p q := by rw [hq]; exact hd3
  have h3 := hd3.mi
  have qbm : q.bm = p.bm := by rw [hq]
  have qws : q.ws = p.ws := by rw [hq]
  have qG : q.G = p.G := by rw [hq]
  have qwd : q.words = p.words := by rw [hq]
  have qsm : Sm q p := by rw [hq]; exact ⟨rfl, rfl, rfl, rfl, rfl, rfl, rfl⟩
  have qvf : q.vf = p.vf := by rw [hq]
  have qat : At C lo q code (k + 1) := ⟨⟨_, cc, hcode, by rw [hq]⟩, hclen⟩
  have hB4 := hB4.kp hk3 (by simp; exact fun e => by have := (hg0.lt); omega)
  have hC3 : Sub C w3 := fun b o v hc => by
    obtain ⟨c, T, f, e1, e2⟩ := hC b o v hc
    have hlt : b < w.heap.size := (hC b o v hc).lt
    exact ⟨c, T, f, by rw [hd3.kp b hlt (h.old (hCo b o v hc))]; exact e1, e2⟩
  refine ld (hB4.cl rfl).cell ?_
  rw [← qbm]
  refine ev_call (hbox_ct w3) ?_
  rintro e w4 ⟨rfl, rfl⟩
  refine fill [.int .u32 3] rfl ?_
  refine new fun b5 w5 hb5 hB5 hs5 hk5 => ?_
  have hR5 : RowN .u32 w5.heap b5 [3] 82 := hB5
  have hsl5 : Sl rW (New w4.heap.size w5) (some ⟨b5, 0, none⟩) [3] := hR5.sl (by decide) (by decide) (by omega)
  refine ev_call (mpush_ct (h3.k0 hk5) (New.sub w4.heap.size w5) [3] hsl5 (by rw [qws]; simp; omega)) ?_
  rintro e w6 ⟨rfl, v', hd6⟩
  rw [qws] at hd6
  have hE := hd6.mi
  have hfE : ({ q with vs := v', ws := p.ws ++ [3] } : Pm).frs = [⟨some ⟨bc, oc, none⟩, code.length, cc, k + 1, 0⟩] := by show q.frs = _; rw [hq]
  -- the frames that are left
  obtain ⟨gE, cE, hvE, _⟩ := hE.frame hfE
  have hcE : (Pm.cells ({ q with vs := v', ws := p.ws ++ [3] } : Pm))[5]? = some (.slice (some ⟨gE, 0, none⟩) 1 cE) := by rw [← hvE]; rfl
  refine ld (hE.m.cl hcE).cell ?_
  exact ⟨rfl, q, v', hd3.trans ((Did.k0 h3 hk5).trans hd6), qG, qsm, qat⟩

set_option maxHeartbeats 1000000 in
theorem step_succ (hC : Sub C w) (hK : Kt C) (hCo : ∀ b o v, C b o v → b < lo) (h : Mi lo w p) {code : List Ins} {k : Nat} (hat : At C lo p code k) {x u : Nat} {l : List Nat} (hn : code[k]? = some ⟨10, 0, 0, []⟩) (hws : p.ws = l ++ [u]) (hl : l.length ≤ 800) (hx : Wd p.G x u)
    (hxl : (digs BB x).length ≤ 4) (hfit : Fits p (x + 1)) :
    CallOk Tryz.prog 64 ∧ Calls Tryz.prog 64 #[.pointer (some ⟨p.bm, 0, none⟩)] w (fun e w' => e = .returned (.bool true) ∧ ∃ q p' u', Did lo w w' p p' ∧ Puts q p' (x + 1) 1 u' ∧ q.ws = p.ws ∧ q.G = p.G ∧ Sm q p ∧ At C lo q code (k + 1)) := by
  obtain ⟨X, hX⟩ : ∃ X, digs BB x = X := ⟨_, rfl⟩
  have vx : val BB X = x := by rw [← hX]; exact val_digs BB_two x
  rw [hX] at hxl
  obtain ⟨Y, hY⟩ : ∃ Y, digs BB 1 = Y := ⟨_, rfl⟩
  have vy : val BB Y = 1 := by rw [← hY]; exact val_digs BB_two 1
  have hYl : Y.length ≤ 1 := by rw [← hY]; exact digs_len_le BB_two (by decide)
  -- x: the instruction
  refine ⟨⟨_, Tryz.func64, rfl, by decide⟩, ?_⟩
  obtain ⟨⟨ac, cc, hcode, hfrs⟩, hclen⟩ := hat
  obtain ⟨g, cf, hvf, hgoff, hglo, hg0, hg1, hg2⟩ := h.frame hfrs
  simp only at hg0 hg1 hg2
  have hklt := get_lt hn
  obtain ⟨bc, oc, hac, ato, cto, hto, _, _, _, hcells⟩ := sl_ins hcode hn
  subst hac
  have hcs5 : p.cells[5]? = some (.slice (some ⟨g, 0, none⟩) 1 cf) := by rw [← hvf]; rfl
  refine calls_of (args := [_]) 216 [.tmp 2] τok Tryz.func64 rfl rfl rfl (Nat.le_of_ble_eq_true rfl) ?_
  refine drawR τok (by kernel_rfl) ?_
  refine ldR (h.m.cl hcs5) ?_
  refine ldR (h.m.cl hcs5) ?_
  refine int64 (by decide) (by decide) ?_
  refine ix 0 (by decide) (by decide) ?_
  intro m1
  have k1 : Kp [] w { w with drawn := m1 } := (Kp.refl [] w).dr _
  refine drawV τok (fun z => Kp [] w z) ?_
  refine readsV τok [0, 1, 2, 3, 4, 5, 6, 7, 8, 9] 2 #[true, true, true, true, true, true, true, true, true, true, false, false] rfl rfl (by kernel_rfl) (by kernel_rfl) (by kernel_rfl) (k1.dr _) ?_
  refine ldQ (fun z hz => hg0.kp hz (by simp)) ?_
  refine ldQ (fun z hz => hg1.kp hz (by simp)) ?_
  refine ix k rfl hklt ?_
  refine ldNK _ rfl (fun j v hj => hC _ _ _ (hcells j v hj)) ?_
  refine nextV τok 10 1 #[true, true, true, true, true, true, true, true, true, true, true, false] rfl rfl rfl (by kernel_rfl) ?_
  refine new fun b4 w1 hb4 hB4 hs1 hk1 => ?_
  have k01 : Kp [] w w1 := ⟨hk1.os, hk1.tape, hk1.output, hk1.size, hk1.block⟩
  refine ⟨.inl k01, ?_⟩
  refine nextV τok 11 0 #[true, true, true, true, true, true, true, true, true, true, true, true] rfl rfl rfl (by kernel_rfl) ?_
  have hb4' : b4 = w.heap.size := hb4
  refine stN hB4 rfl (by simp [Value.oneCell']) fun w2 hB4 hs2 hk2 => ?_
  refine ⟨.inr (by kernel_rfl), ?_⟩
  refine doneV (by kernel_rfl) ?_
  have k02 : Kp [] w w2 := k01.trans hk2 (fun x hx hl => by simp at hx; omega)
  have h2 := h.k0 k02
  refine ld (hg1.kp k02 (by simp)).cell ?_
  refine int64 (by omega) (by omega) ?_
  have hrf2 := h2.rf
  rw [hfrs] at hrf2
  obtain ⟨g', c', hv', hlo', hst⟩ := hrf2.st (i := 0) (j := 1) (x := ⟨some ⟨bc, oc, none⟩, code.length, cc, k, 0⟩) (y := ⟨some ⟨bc, oc, none⟩, code.length, cc, k + 1, 0⟩) rfl (by decide) (u := .int .i64 ((k : Int) + 1)) rfl (by rintro cs rfl; rfl)
  rw [hvf] at hv'
  injection hv' with e1 _ _
  have e1 := Option.some.inj e1
  injection e1 with e1 _
  subst e1
  refine hst fun w3 hO3 hs3 hk3 => ?_
  have hob : p.vf.ownBlock = some g := by rw [hvf]; rfl
  have hm3 := h2.m.kp hk3 (by simp; exact fun e => h.mf (by rw [hob, e]))
  have hset : p.cells.set 5 p.vf = p.cells := rfl
  have hd3 := (Did.k0 h k02).trans (h2.didFrames (v' := p.vf) (l' := [⟨some ⟨bc, oc, none⟩, code.length, cc, k + 1, 0⟩]) hO3 (by rw [hob]; exact hk3) (.inl rfl) (by rw [hset]; exact hm3) (Kp.refl _ _))
  obtain ⟨q, hq⟩ : ∃ q : Pm, q = { p with frs := [⟨some ⟨bc, oc, none⟩, code.length, cc, k + 1, 0⟩] } := ⟨_, rfl⟩
  have hd3 : Did lo w w3 p q := by rw [hq]; exact hd3
  have h3 := hd3.mi
  have qbm : q.bm = p.bm := by rw [hq]
  have qws : q.ws = p.ws := by rw [hq]
  have qG : q.G = p.G := by rw [hq]
  have qwd : q.words = p.words := by rw [hq]
  have qsm : Sm q p := by rw [hq]; exact ⟨rfl, rfl, rfl, rfl, rfl, rfl, rfl⟩
  have qvf : q.vf = p.vf := by rw [hq]
  have qat : At C lo q code (k + 1) := ⟨⟨_, cc, hcode, by rw [hq]⟩, hclen⟩
  have hB4 := hB4.kp hk3 (by simp; exact fun e => by have := (hg0.lt); omega)
  have hC3 : Sub C w3 := fun b o v hc => by
    obtain ⟨c, T, f, e1, e2⟩ := hC b o v hc
    have hlt : b < w.heap.size := (hC b o v hc).lt
    exact ⟨c, T, f, by rw [hd3.kp b hlt (h.old (hCo b o v hc))]; exact e1, e2⟩
  refine ld (hB4.cl rfl).cell ?_
  rw [← qbm]
  have qlen : q.ws.length = l.length + 1 := by rw [qws, hws]; simp
  obtain ⟨aw, cw, hvw, hcw, h00 | ⟨gw, rfl, hcell⟩⟩ := h3.words
  · omega
  have hu := hcell l.length u (by rw [qws, hws]; simp)
  have hcs : q.cells[4]? = some (.slice (some ⟨gw, 0, none⟩) q.ws.length cw) := by rw [← hvw]; rfl
  refine drawV τok (fun z => Kp [] w3 z) ?_
  refine readsV τok [0, 1, 2, 3, 4, 5, 6, 7, 8, 9, 10, 11, 12, 13] 4 #[true, true, true, true, true, true, true, true, true, true, true, true, true, true, false, false, false, false] rfl rfl (by kernel_rfl) (by kernel_rfl) (by kernel_rfl) ((Kp.refl [] w3).dr _) ?_
  refine ldQ (fun z hz => (h3.m.kp hz (by simp)).cl hcs) ?_
  refine ldQ (fun z hz => (h3.m.kp hz (by simp)).cl hcs) ?_
  refine int64 (by omega) (by omega) ?_
  refine ix l.length (by omega) (by omega) ?_
  refine ldQ (fun z hz => hu.1.kp hz (by simp)) ?_
  refine nextV τok 14 3 #[true, true, true, true, true, true, true, true, true, true, true, true, true, true, true, false, false, false] rfl rfl rfl (by kernel_rfl) ?_
  have k0 : Kp [] w3 { w3 with drawn := w3.drawn + 1 } := (Kp.refl [] w3).dr _
  refine ev_call (number_ct (h3.k0 k0) (by rw [qG]; exact hx)) ?_
  rintro e w4 ⟨⟨v4, rfl, hv4⟩, hk4⟩
  have k04 : Kp [] w3 w4 := hk4.rd
  refine ⟨.inl k04, ?_⟩
  obtain ⟨ax, cx, rfl, hsx⟩ := hv4.to hX k0 (Kp.refl [] w4)
  refine nextV τok 15 2 #[true, true, true, true, true, true, true, true, true, true, true, true, true, true, true, true, false, false] rfl rfl rfl (by kernel_rfl) ?_
  refine ev_call (of_ct 1 (by decide) w4) ?_
  rintro e w5 ⟨⟨v5, rfl, hv5⟩, hk5⟩
  have k05 := k04.tr hk5
  refine ⟨.inl k05, ?_⟩
  obtain ⟨ay, cy, rfl, hsy⟩ := hv5.to hY k04 (Kp.refl [] w5)
  have hsx5 : Sl rW (New w3.heap.size w5) ax X := hsx.mono (New.up (Nat.le_refl _) hk5)
  have hc8 := add_ct (New.sub w3.heap.size w5) X Y ax ay cx cy hsx5 hsy (by omega) (by omega)
  rw [vx, vy] at hc8
  refine nextV τok 16 1 #[true, true, true, true, true, true, true, true, true, true, true, true, true, true, true, true, true, false] rfl rfl rfl (by kernel_rfl) ?_
  refine ev_call hc8 ?_
  rintro e w8 ⟨⟨v8, rfl, hv8⟩, hk8⟩
  obtain ⟨a8, c8, rfl, hs8, _⟩ := hv8
  have k08 := k05.tr hk8
  refine ⟨.inl k08, ?_⟩
  refine nextV τok 17 0 #[true, true, true, true, true, true, true, true, true, true, true, true, true, true, true, true, true, true] rfl rfl rfl (by kernel_rfl) ?_
  refine ev_call (mput_ct (hC3.tr k08) hK hCo (h3.k0 k08) (k := 1) (by omega) (by omega) (by unfold Fits at hfit; rw [qG, qwd]; exact hfit) (New.sub w5.heap.size w8) hs8 (fun b o t ht => h3.far (Nat.le_trans k05.size ht.1))) ?_
  rintro e w9 ⟨rfl, p', u', hd5, hput⟩
  refine ⟨.inr (by kernel_rfl), ?_⟩
  refine doneV (by kernel_rfl) ?_
  have hE := hd5.mi
  have hfE := hput.frs
  rw [hq] at hfE
  -- the frames that are left
  obtain ⟨gE, cE, hvE, _⟩ := hE.frame hfE
  have hcE : (Pm.cells p')[5]? = some (.slice (some ⟨gE, 0, none⟩) 1 cE) := by rw [← hvE]; rfl
  have hmE := hE.m
  rw [hput.bm] at hmE
  refine ld (hmE.cl hcE).cell ?_
  exact ⟨rfl, q, p', u', hd3.trans ((Did.k0 h3 k08).trans hd5), hput, qws, qG, qsm, qat⟩
end
end Go.Proofs.YtbggaljmollhmaaGreatDoor

/-
  Package vm at numbers: the return.
-/
set_option linter.unusedSimpArgs false
set_option linter.unusedVariables false
namespace Go.Proofs.YtbggaljmollhmaaGreatDoor
open Go.Wx Nm Vm Vc Cd
section
variable {lo : Nat} {w : World} {p : Pm} {C : Mem}
set_option maxHeartbeats 1000000 in
theorem step_ret (hC : Sub C w) (hCo : ∀ b o v, C b o v → b < lo) (h : Mi lo w p) {code : List Ins} {k : Nat} (hat : At C lo p code k) {u : Nat} (hn : code[k]? = some ⟨6, 0, 0, []⟩) (hws : p.ws = [u]) :
    CallOk Tryz.prog 64 ∧ Calls Tryz.prog 64 #[.pointer (some ⟨p.bm, 0, none⟩)] w (fun e w' => e = .returned (.bool false) ∧ ∃ vs' vf', Did lo w w' p { p with vs := vs', ws := [u], vf := vf', frs := [] }) := by
  -- x: the instruction
  refine ⟨⟨_, Tryz.func64, rfl, by decide⟩, ?_⟩
  obtain ⟨⟨ac, cc, hcode, hfrs⟩, hclen⟩ := hat
  obtain ⟨g, cf, hvf, hgoff, hglo, hg0, hg1, hg2⟩ := h.frame hfrs
  simp only at hg0 hg1 hg2
  have hklt := get_lt hn
  obtain ⟨bc, oc, hac, ato, cto, hto, _, _, _, hcells⟩ := sl_ins hcode hn
  subst hac
  have hcs5 : p.cells[5]? = some (.slice (some ⟨g, 0, none⟩) 1 cf) := by rw [← hvf]; rfl
  refine calls_of (args := [_]) 216 [.tmp 2] τok Tryz.func64 rfl rfl rfl (Nat.le_of_ble_eq_true rfl) ?_
  refine drawR τok (by kernel_rfl) ?_
  refine ldR (h.m.cl hcs5) ?_
  refine ldR (h.m.cl hcs5) ?_
  refine int64 (by decide) (by decide) ?_
  refine ix 0 (by decide) (by decide) ?_
  intro m1
  have k1 : Kp [] w { w with drawn := m1 } := (Kp.refl [] w).dr _
  refine drawV τok (fun z => Kp [] w z) ?_
  refine readsV τok [0, 1, 2, 3, 4, 5, 6, 7, 8, 9] 2 #[true, true, true, true, true, true, true, true, true, true, false, false] rfl rfl (by kernel_rfl) (by kernel_rfl) (by kernel_rfl) (k1.dr _) ?_
  refine ldQ (fun z hz => hg0.kp hz (by simp)) ?_
  refine ldQ (fun z hz => hg1.kp hz (by simp)) ?_
  refine ix k rfl hklt ?_
  refine ldNK _ rfl (fun j v hj => hC _ _ _ (hcells j v hj)) ?_
  refine nextV τok 10 1 #[true, true, true, true, true, true, true, true, true, true, true, false] rfl rfl rfl (by kernel_rfl) ?_
  refine new fun b4 w1 hb4 hB4 hs1 hk1 => ?_
  have k01 : Kp [] w w1 := ⟨hk1.os, hk1.tape, hk1.output, hk1.size, hk1.block⟩
  refine ⟨.inl k01, ?_⟩
  refine nextV τok 11 0 #[true, true, true, true, true, true, true, true, true, true, true, true] rfl rfl rfl (by kernel_rfl) ?_
  have hb4' : b4 = w.heap.size := hb4
  refine stN hB4 rfl (by simp [Value.oneCell']) fun w2 hB4 hs2 hk2 => ?_
  refine ⟨.inr (by kernel_rfl), ?_⟩
  refine doneV (by kernel_rfl) ?_
  have k02 : Kp [] w w2 := k01.trans hk2 (fun x hx hl => by simp at hx; omega)
  have h2 := h.k0 k02
  refine ld (hg1.kp k02 (by simp)).cell ?_
  refine int64 (by omega) (by omega) ?_
  have hrf2 := h2.rf
  rw [hfrs] at hrf2
  obtain ⟨g', c', hv', hlo', hst⟩ := hrf2.st (i := 0) (j := 1) (x := ⟨some ⟨bc, oc, none⟩, code.length, cc, k, 0⟩) (y := ⟨some ⟨bc, oc, none⟩, code.length, cc, k + 1, 0⟩) rfl (by decide) (u := .int .i64 ((k : Int) + 1)) rfl (by rintro cs rfl; rfl)
  rw [hvf] at hv'
  injection hv' with e1 _ _
  have e1 := Option.some.inj e1
  injection e1 with e1 _
  subst e1
  refine hst fun w3 hO3 hs3 hk3 => ?_
  have hob : p.vf.ownBlock = some g := by rw [hvf]; rfl
  have hm3 := h2.m.kp hk3 (by simp; exact fun e => h.mf (by rw [hob, e]))
  have hset : p.cells.set 5 p.vf = p.cells := rfl
  have hd3 := (Did.k0 h k02).trans (h2.didFrames (v' := p.vf) (l' := [⟨some ⟨bc, oc, none⟩, code.length, cc, k + 1, 0⟩]) hO3 (by rw [hob]; exact hk3) (.inl rfl) (by rw [hset]; exact hm3) (Kp.refl _ _))
  obtain ⟨q, hq⟩ : ∃ q : Pm, q = { p with frs := [⟨some ⟨bc, oc, none⟩, code.length, cc, k + 1, 0⟩] } := ⟨_, rfl⟩
  have hd3 : Did lo w w3 p q := by rw [hq]; exact hd3
  have h3 := hd3.mi
  have qbm : q.bm = p.bm := by rw [hq]
  have qws : q.ws = p.ws := by rw [hq]
  have qG : q.G = p.G := by rw [hq]
  have qwd : q.words = p.words := by rw [hq]
  have qvf : q.vf = p.vf := by rw [hq]
  have qat : At C lo q code (k + 1) := ⟨⟨_, cc, hcode, by rw [hq]⟩, hclen⟩
  have hB4 := hB4.kp hk3 (by simp; exact fun e => by have := (hg0.lt); omega)
  have hC3 : Sub C w3 := fun b o v hc => by
    obtain ⟨c, T, f, e1, e2⟩ := hC b o v hc
    have hlt : b < w.heap.size := (hC b o v hc).lt
    exact ⟨c, T, f, by rw [hd3.kp b hlt (h.old (hCo b o v hc))]; exact e1, e2⟩
  refine ld (hB4.cl rfl).cell ?_
  rw [← qbm]
  have qws1 : q.ws = [] ++ [u] := by rw [qws, hws]; rfl
  refine ev_call (mpop_ct h3 qws1) ?_
  rintro e w4 ⟨rfl, v4, hd4⟩
  obtain ⟨r, hr⟩ : ∃ r : Pm, r = { q with vs := v4, ws := [] } := ⟨_, rfl⟩
  rw [← hr] at hd4
  have h4 := hd4.mi
  have rbm : r.bm = q.bm := by rw [hr]
  have rws : r.ws = [] := by rw [hr]
  have rfrs : r.frs = [⟨some ⟨bc, oc, none⟩, code.length, cc, k + 1, 0⟩] := by rw [hr]; show q.frs = _; rw [hq]
  have rvf : r.vf = p.vf := by rw [hr]; exact qvf
  obtain ⟨g4, c4, hv4, _, _, _, _, hg4⟩ := h4.frame rfrs
  have hgg : g4 = g := by
    rw [rvf, hvf] at hv4
    injection hv4 with e1 _ _
    have e1 := Option.some.inj e1
    injection e1 with e1 _
    exact e1.symm
  subst hgg
  obtain ⟨aw, cw, gw, hvw, hcw, haw⟩ := h4.addr
  rw [rws] at hvw
  have hcs : r.cells[4]? = some (.slice aw 0 cw) := by rw [show r.cells[4]? = some r.vs from rfl, hvw]; rfl
  have hm4 := h4.m
  rw [rbm] at hm4
  have hU : u < BB := by
    obtain ⟨_, _, _, _, hw | ⟨_, _, hw⟩⟩ := h3.words
    · rw [qws1] at hw; simp at hw
    · exact (hw 0 u (by rw [qws1]; rfl)).2
  refine drawV τok (fun z => Bk z.heap q.bm r.cells 68 ∧ Cl z.heap g4 2 (.int .i64 0)) ?_
  refine readsV τok [0, 1, 2, 3, 4, 5, 6, 7, 8, 9, 10] 5 #[true, true, true, true, true, true, true, true, true, true, true, false, false, false, false, false] rfl rfl (by kernel_rfl) (by kernel_rfl) (by kernel_rfl) ⟨hm4, hg4⟩ ?_
  refine ldQ (fun z hz => hz.1.cl hcs) ?_
  refine ldQ (fun z hz => hz.2) ?_
  refine slcHQ τok rfl 0 _ rfl (Nat.zero_le _) (sliced0 haw) ?_
  refine nextV τok 11 4 #[true, true, true, true, true, true, true, true, true, true, true, true, false, false, false, false] rfl rfl rfl (by kernel_rfl) ?_
  refine fill [.int .u32 (u : Int)] rfl ?_
  refine new fun bN wN hbN hBN hsN hkN => ?_
  have hkN := hkN.rd
  refine ⟨.inl ⟨hm4.kp hkN (by simp), hg4.kp hkN (by simp)⟩, ?_⟩
  refine nextV τok 12 3 #[true, true, true, true, true, true, true, true, true, true, true, true, true, false, false, false] rfl rfl rfl (by kernel_rfl) ?_
  have hrsN := h4.rs
  rw [hvw, rws] at hrsN
  refine (hrsN.kp hkN).ap1 τok rfl rfl (by decide) u [.int .u32 (u : Int)] ⟨rfl, hU⟩ (fun j t hj => by rw [Nat.zero_add]; exact hBN.cl hj) (by simp) (by simp [maxLen]) fun vO wO hO hkO hzO => ?_
  replace hkO : Kp r.vs.ownBlock.toList wN wO := by rw [hvw]; exact hkO
  replace hzO : vO.ownBlock = r.vs.ownBlock ∨ vO.ownBlock = some wN.heap.size := by rw [hvw]; exact hzO
  have hoff4 := h4.offm
  rw [rbm] at hoff4
  have hgv : g4 ∉ r.vs.ownBlock.toList := fun hx => h4.fs g4 (by rw [rvf, hvf]; rfl) (by simpa using hx)
  have hmO := (hm4.kp hkN (by simp)).kp hkO hoff4
  have hgO := (hg4.kp hkN (by simp)).kp hkO hgv
  refine ⟨.inl ⟨hmO, hgO⟩, ?_⟩
  refine nextV τok 13 2 #[true, true, true, true, true, true, true, true, true, true, true, true, true, true, false, false] rfl rfl rfl (by kernel_rfl) ?_
  refine ⟨.inl ⟨hmO, hgO⟩, ?_⟩
  refine nextV τok 14 1 #[true, true, true, true, true, true, true, true, true, true, true, true, true, true, true, false] rfl rfl rfl (by kernel_rfl) ?_
  refine ⟨.inl ⟨hmO, hgO⟩, ?_⟩
  refine nextV τok 15 0 #[true, true, true, true, true, true, true, true, true, true, true, true, true, true, true, true] rfl rfl rfl (by kernel_rfl) ?_
  obtain ⟨aO, cO, hvO⟩ := hO.len
  refine st (b := q.bm) (o := 4) hmO (by simp [Pm.cells]) (by rw [hvO]; rfl) fun w5 hm5 hs5 hk5 => ?_
  refine ⟨.inr (by kernel_rfl), ?_⟩
  refine doneV (by kernel_rfl) ?_
  have hd5 : Did lo w4 w5 r { r with vs := vO, ws := [] ++ [u] } := h4.didStack hO ((Kp.weak hkN (by simp)).trans hkO (fun x hx _ => hx)) (by
    rcases hzO with e | e
    · exact .inl e
    · exact .inr ⟨_, hkN.size, e⟩) (by rw [rbm]; exact hm5) (by rw [rbm]; exact hk5) (by simp)
  obtain ⟨s, hs⟩ : ∃ s : Pm, s = { r with vs := vO, ws := [] ++ [u] } := ⟨_, rfl⟩
  rw [← hs] at hd5
  have h5 := hd5.mi
  have sbm : s.bm = q.bm := by rw [hs]; exact rbm
  have svf : s.vf = .slice (some ⟨g4, 0, none⟩) 1 cf := by rw [hs]; exact rvf.trans hvf
  have sfrs : s.frs = [⟨some ⟨bc, oc, none⟩, code.length, cc, k + 1, 0⟩] := by rw [hs]; exact rfrs
  have hcs5' : s.cells[5]? = some (.slice (some ⟨g4, 0, none⟩) 1 cf) := by rw [← svf]; rfl
  have hm5' := h5.m
  rw [sbm] at hm5'
  refine drawV τok (fun z => Bk z.heap q.bm s.cells 68) ?_
  refine readsV τok [0, 1, 2, 3, 4, 5, 6, 7, 8, 9, 10, 11] 3 #[true, true, true, true, true, true, true, true, true, true, true, true, false, false, false] rfl rfl (by kernel_rfl) (by kernel_rfl) (by kernel_rfl) hm5' ?_
  refine ldQ (fun z hz => hz.cl hcs5') ?_
  refine ldQ (fun z hz => hz.cl hcs5') ?_
  refine int64 (by decide) (by decide) ?_
  refine slcHQ τok rfl 0 (.slice (some ⟨g4, 0, none⟩) 0 cf) (by decide) (Nat.zero_le _) sliced_hi ?_
  refine nextV τok 12 2 #[true, true, true, true, true, true, true, true, true, true, true, true, true, false, false] rfl rfl rfl (by kernel_rfl) ?_
  refine ⟨.inl hm5', ?_⟩
  refine nextV τok 13 1 #[true, true, true, true, true, true, true, true, true, true, true, true, true, true, false] rfl rfl rfl (by kernel_rfl) ?_
  refine ⟨.inl hm5', ?_⟩
  refine nextV τok 14 0 #[true, true, true, true, true, true, true, true, true, true, true, true, true, true, true] rfl rfl rfl (by kernel_rfl) ?_
  refine st (w := { w5 with drawn := w5.drawn + 1 }) (b := q.bm) (o := 5) hm5' (by simp [Pm.cells]) rfl fun w6 hm6 hs6 hk6 => ?_
  refine ⟨.inr (by kernel_rfl), ?_⟩
  refine doneV (by kernel_rfl) ?_
  have hrf5 := h5.rf
  rw [svf, sfrs] at hrf5
  have ho6 := (hrf5.take (k := 0) (by simp)).kp ((Kp.refl [] w5).dr (w5.drawn + 1))
  have hob5 : s.vf.ownBlock = some g4 := by rw [svf]; rfl
  have hd6 := h5.didFrames (v' := .slice (some ⟨g4, 0, none⟩) 0 cf) (l' := []) ho6 (Kp.weak ((Kp.refl [] w5).dr (w5.drawn + 1)) (by simp)) (.inl (by rw [hob5]; rfl)) (by rw [sbm]; exact hm6) (by rw [sbm]; exact hk6)
  refine ld (hm6.cl (v := .slice (some ⟨g4, 0, none⟩) 0 cf) rfl).cell ?_
  refine ⟨rfl, vO, .slice (some ⟨g4, 0, none⟩) 0 cf, ?_⟩
  have hall := ((hd3.trans hd4).trans hd5).trans hd6
  have hpe : ({ s with vf := .slice (some ⟨g4, 0, none⟩) 0 cf, frs := [] } : Pm) = { p with vs := vO, ws := [u], vf := .slice (some ⟨g4, 0, none⟩) 0 cf, frs := [] } := by
    rw [hs, hr, hq]; rfl
  rw [qbm, ← hpe]
  exact hall
end
end Go.Proofs.YtbggaljmollhmaaGreatDoor

/-
  Package vm at numbers: nums, stop, value.
-/
set_option linter.unusedSimpArgs false
set_option linter.unusedVariables false
namespace Go.Proofs.YtbggaljmollhmaaGreatDoor
open Go.Wx Nm Vm Vc Cd
section
variable {lo : Nat} {w : World} {p : Pm}
theorem ints_row {w : World} {b : Nat} {xs : List Int} (h : Bk w.heap b (xs.map (Value.int .i64)) 3) (h64 : ∀ x ∈ xs, I64 x) (hl : xs.length ≤ 1099511627776) : Sl rInt (New b w) (some ⟨b, 0, none⟩) xs := by
  refine ⟨hl, .inr ⟨b, 0, rfl, fun i x hi => ⟨[.int .i64 x], ⟨rfl, h64 x (List.mem_of_getElem? hi)⟩, fun j v hj => ⟨Nat.le_refl _, h.cu ?_⟩⟩⟩⟩
  match j with
  | 0 =>
    simp at hj
    subst hj
    show (xs.map (Value.int .i64))[0 + i * 1 + 0]? = some _
    simp [hi]
  | j + 1 => simp at hj
/-- bytes in memory, from block n on -/
def Vb (n : Nat) (w : World) (v : Value) (B : List Nat) : Prop := ∃ a c, v = .slice a B.length c ∧ Sl rU8 (New n w) a B
theorem nums_ct (h : Mi lo w p) {B : List Nat} {n0 : Nat} (hv : Vb n0 w p.vv B) {D : Mem} (hD : Sub D w) (xs : List Int) {a : Option Addr} {c : Nat} (hx : Sl rInt D a xs) (hpos : ∀ x ∈ xs, 0 ≤ x) (hll : (B ++ numsB xs).length ≤ 65536) :
    CallOk Tryz.prog 112 ∧ Calls Tryz.prog 112 #[.pointer (some ⟨p.bm, 0, none⟩), .slice a xs.length c] w (fun e w' => e = .returned (.tuple #[]) ∧ ∃ v', Did lo w w' p { p with vv := v' } ∧ Vb w.heap.size w' v' (B ++ numsB xs)) := by
  refine ⟨⟨_, Tryz.func112, rfl, by decide⟩, ?_⟩
  obtain ⟨av, cv, hvv, hs⟩ := hv
  have hcv : p.cells[8]? = some (.slice av B.length cv) := by rw [← hvv]; rfl
  have hbl := h.m.lt
  refine calls_of (args := [_, _]) 26 [] τok Tryz.func112 rfl rfl rfl (Nat.le_of_ble_eq_true rfl) ?_
  refine ld (h.m.cl hcv).cell ?_
  refine ev_call (put_ct (New.sub n0 w) hD B xs av a cv c hs hx hpos (by omega)) ?_
  rintro e w1 ⟨v1, rfl, hO1, hk1⟩
  have hm1 := h.m.kp hk1 (by simp)
  obtain ⟨a1, c1, hv1, hs1⟩ := hO1.den (by omega)
  refine st (b := p.bm) (o := 8) hm1 (by simp [Pm.cells]) (by rw [hv1]; rfl) fun w2 hm2 hs2 hk2 => ?_
  have hd : Did lo w w2 p { p with vv := v1 } := (Did.k0 h hk1).trans ((h.k0 hk1).didField (fuel := p.fuel) (steps := p.steps) (most := p.most) (kind := p.kind) (vv := v1) hm2 hk2 h.fu h.st h.mo (by rw [hv1]; rfl))
  have hcv2 : ({ p with vv := v1 } : Pm).cells[8]? = some (.slice a1 (B ++ numsB xs).length c1) := by rw [← hv1]; rfl
  refine ld (hd.mi.m.cl hcv2).cell ?_
  refine br_no (by omega) ?_
  exact ⟨rfl, v1, hd, a1, c1, hv1, hs1.mono fun b o t ht => ⟨ht.1, ht.2.kp hk2 (by have := ht.1; simp; omega)⟩⟩
theorem mkEnd (v : Value) (w : World) : (Instr.makeInterface 135 v).run Tryz.prog w = .ok (.iface 135 v) w := by
  simp [Instr.makeInterface, Tryz.underlying135, go_sem]
theorem stop_ct (k r : Nat) (hk : k ≤ 100) (hr : r ≤ 100) (w : World) :
    CallOk Tryz.prog 67 ∧ Calls Tryz.prog 67 #[.int .i64 (k : Int), .int .i64 (r : Int)] w (fun e w' => e = .panicked [{ v := .iface 135 (.agg #[.int .i64 (k : Int), .int .i64 (r : Int)]), recovered := false }] ∧ w' = w) := by
  refine ⟨⟨_, Tryz.func67, rfl, by decide⟩, ?_⟩
  refine calls_of (args := [_, _]) 8 [] τok Tryz.func67 rfl rfl rfl (Nat.le_of_ble_eq_true rfl) ?_
  refine run (mkEnd _ w) ?_
  exact ⟨rfl, rfl⟩
/-- a word that is no value: the box -/
theorem valueBox_ct (h : Mi lo w p) :
    CallOk Tryz.prog 68 ∧ Calls Tryz.prog 68 #[.pointer (some ⟨p.bm, 0, none⟩), .int .u32 3] w (fun e w' => e = .panicked [{ v := .iface 135 (.agg #[.int .i64 1, .int .i64 23]), recovered := false }] ∧ w' = w) := by
  refine ⟨⟨_, Tryz.func68, rfl, by decide⟩, ?_⟩
  refine calls_of (args := [_, _]) 105 [] τok Tryz.func68 rfl rfl rfl (Nat.le_of_ble_eq_true rfl) ?_
  refine ld (h.m.cl rfl).cell ?_
  refine ev_call (readBox_ct h.hp) ?_
  rintro e w1 ⟨rfl, rfl⟩
  refine ev_call (stop_ct 1 23 (by decide) (by decide) w1) ?_
  rintro e w2 ⟨rfl, rfl⟩
  exact ⟨rfl, rfl⟩
end
end Go.Proofs.YtbggaljmollhmaaGreatDoor

/-
  Package vm at numbers: value.
-/
set_option linter.unusedSimpArgs false
set_option linter.unusedVariables false
namespace Go.Proofs.YtbggaljmollhmaaGreatDoor
open Go.Wx Nm Vm Vc Cd
section
variable {lo : Nat} {w : World} {p : Pm}
theorem numsB_len {xs : List Int} (h : ∀ x ∈ xs, x.toNat < 18446744073709551616) : (numsB xs).length ≤ 10 * xs.length := by
  induction xs with
  | nil => simp [numsB]
  | cons x r ih =>
    have h1 := formM_len10 (h x List.mem_cons_self)
    have h2 := ih fun y hy => h y (List.mem_cons_of_mem _ hy)
    simp only [numsB, List.flatMap_cons, List.length_append, List.length_cons] at h2 ⊢
    omega
theorem numsB_app (xs ys : List Int) : numsB (xs ++ ys) = numsB xs ++ numsB ys := by simp [numsB]
theorem Vb.kp {n m : Nat} {v : Value} {B : List Nat} {w' : World} (h : Vb n w v B) (k : Kp [] w w') (hm : m ≤ n) : Vb m w' v B := by
  obtain ⟨a, c, h1, h2⟩ := h
  exact ⟨a, c, h1, h2.mono fun b o t ht => ⟨Nat.le_trans hm ht.1, ht.2.kp k (by simp)⟩⟩
theorem Did.new {w2 w3 : World} {q : Pm} (h : Mi lo w p) (d : Did lo w2 w3 p q) : ∀ b o t, New w.heap.size w2 b o t → New w.heap.size w3 b o t := by
  rintro b o t ⟨h1, h2⟩
  have hl := h2.lt
  obtain ⟨c, T, e1, e2⟩ := h2
  exact ⟨h1, c, T, by rw [d.kp b hl (h.far h1)]; exact e1, e2⟩
def valB (n : Nat) : List Int := 0 :: ((digs BB n).length : Int) :: (digs BB n).map fun x => ((x : Nat) : Int)
set_option maxHeartbeats 1000000 in
theorem value_ct (h : Mi lo w p) {n u : Nat} (hu : Wd p.G n u) {B : List Nat} {n0 : Nat} (hv : Vb n0 w p.vv B) (hX8 : (digs BB n).length ≤ 100) (hBl : B.length ≤ 1000) :
    CallOk Tryz.prog 68 ∧ Calls Tryz.prog 68 #[.pointer (some ⟨p.bm, 0, none⟩), .int .u32 (u : Int)] w (fun e w' => e = .returned (.tuple #[]) ∧ ∃ v', Did lo w w' p { p with vv := v' } ∧ Vb w.heap.size w' v' (B ++ numsB (valB n))) := by
  refine ⟨⟨_, Tryz.func68, rfl, by decide⟩, ?_⟩
  refine calls_of (args := [_, _]) 105 [] τok Tryz.func68 rfl rfl rfl (Nat.le_of_ble_eq_true rfl) ?_
  refine ld (h.m.cl rfl).cell ?_
  refine ev_call (read_ct h.hp hu) ?_
  rintro e w1 ⟨⟨hs, rfl⟩ | ⟨id, a, c, rfl, hsl⟩, k1⟩
  · skip
    refine ev_call (number_ct (h.k0 k1) hu) ?_
    rintro e w2 ⟨⟨v2, rfl, hv2⟩, hk2⟩
    have k02 := k1.tr hk2
    have h2 := h.k0 k02
    obtain ⟨X, hX⟩ : ∃ X, digs BB n = X := ⟨_, rfl⟩
    have hB32 : ∀ x ∈ X, x < BB := by rw [← hX]; exact digs_dig BB_two n
    obtain ⟨a2, c2, rfl, hs2⟩ := hv2.to hX k1 (Kp.refl [] w2)
    have hVB : valB n = 0 :: (X.length : Int) :: X.map fun x => ((x : Nat) : Int) := by unfold valB; rw [hX]
    rw [hX] at hX8
    rw [hVB]
    refine fill [.int .i64 0, .int .i64 (X.length : Int)] rfl ?_
    refine new fun b3 w3 hb3 hB3 hs3 hk3 => ?_
    have k03 := k02.tr hk3
    have h64 : ∀ x ∈ [(0 : Int), (X.length : Int)], I64 x := fun x hx => by
      simp at hx
      unfold I64
      rcases hx with rfl | rfl <;> omega
    have hl3 := numsB_len (xs := [(0 : Int), (X.length : Int)]) (fun x hx => by
      simp at hx
      rcases hx with rfl | rfl <;> omega)
    have hp3 : ∀ x ∈ [(0 : Int), (X.length : Int)], 0 ≤ x := fun x hx => by
      simp at hx
      rcases hx with rfl | rfl <;> omega
    refine ev_call (nums_ct (h.k0 k03) (hv.kp k03 (Nat.le_refl _)) (New.sub b3 w3) [0, (X.length : Int)] (ints_row hB3 h64 (by simp)) hp3 (by rw [List.length_append]; simp at hl3; omega)) ?_
    rintro e w4 ⟨rfl, v4, hd4, hv4⟩
    have hd24 : Did lo w2 w4 p { p with vv := v4 } := (Did.k0 h2 hk3).trans hd4
    have hcl : ∀ {w' q}, Did lo w2 w' p q → Sl rW (New w.heap.size w') a2 X := fun d => hs2.mono (d.new h)
    refine lp τok (σ := Nat × Value) (fun q => [(0, .pointer (some ⟨p.bm, 0, none⟩)), (41, .slice a2 X.length c2), (42, .int .i64 X.length), (43, .int .i64 q.1)]) (fun q w' => q.1 ≤ X.length ∧ Did lo w2 w' p { p with vv := q.2 } ∧ Vb w.heap.size w' q.2 (B ++ numsB (0 :: (X.length : Int) :: (X.take q.1).map fun x => ((x : Nat) : Int)))) (fun q => X.length - q.1) (0, v4) rfl
      ⟨rfl, rfl, rfl, rfl, trivial⟩ ⟨Nat.zero_le _, hd24, by simpa using hv4.kp (Kp.refl [] w4) k03.size⟩ ?_
    rintro ⟨k, v⟩ w5 ⟨hk, hd5, hv5⟩
    simp only at hk hd5 hv5
    refine br_dec (fun g => ?_) (fun g => ?_)
    · have hlt : k < X.length := by omega
      obtain ⟨x, hx, _⟩ := drop_get hlt
      have hxB := hB32 x (List.mem_of_getElem? hx)
      obtain ⟨b, o, rfl, hcx, hxB'⟩ := (hcl hd5).nat hx
      refine ix k rfl hlt ?_
      refine ldC (New.sub _ w5) hcx ?_
      refine int64 (by unfold BB at hxB; omega) (by unfold BB at hxB; omega) ?_
      refine fill [.int .i64 (x : Int)] rfl ?_
      refine new fun b6 w6 hb6 hB6 hs6 hk6 => ?_
      have h64' : ∀ y ∈ [(x : Int)], I64 y := fun y hy => by
        simp at hy
        unfold I64
        unfold BB at hxB
        omega
      have hl6 := numsB_len (xs := (0 : Int) :: (X.length : Int) :: (X.take (k + 1)).map fun x => ((x : Nat) : Int)) (fun y hy => by
        simp only [List.mem_cons, List.mem_map] at hy
        rcases hy with rfl | rfl | ⟨z, hz, rfl⟩
        · decide
        · omega
        · have := hB32 z (List.mem_of_mem_take hz)
          unfold BB at this
          omega)
      have heq : B ++ numsB (0 :: (X.length : Int) :: (X.take k).map fun x => ((x : Nat) : Int)) ++ numsB [(x : Int)] = B ++ numsB (0 :: (X.length : Int) :: (X.take (k + 1)).map fun x => ((x : Nat) : Int)) := by
        rw [List.append_assoc, ← numsB_app, take_get hx]
        simp
      simp only [List.length_cons, List.length_map, List.length_take] at hl6
      refine ev_call (nums_ct (hd5.mi.k0 hk6) (hv5.kp hk6 (Nat.le_refl _)) (New.sub b6 w6) [(x : Int)] (ints_row hB6 h64' (by simp)) (fun y hy => by simp at hy; omega) (by rw [heq, List.length_append]; omega)) ?_
      rintro e w7 ⟨rfl, v7, hd7, hv7⟩
      rw [heq] at hv7
      refine int64 (by omega) (by omega) ?_
      exact ⟨(k + 1, v7), by simp only; omega, rfl, ⟨rfl, rfl, rfl, rfl, trivial⟩, hlt, (hd5.trans (Did.k0 hd5.mi hk6)).trans hd7, hv7.kp (Kp.refl [] w7) (Nat.le_trans k02.size (Nat.le_trans hd5.env.2.2.2 hk6.size))⟩
    · rw [List.take_of_length_le (by omega)] at hv5
      exact ⟨rfl, v, (Did.k0 h k02).trans hd5, hv5⟩
  · skip
    refine ev_call (number_ct (h.k0 k1) hu) ?_
    rintro e w2 ⟨⟨v2, rfl, hv2⟩, hk2⟩
    have k02 := k1.tr hk2
    have h2 := h.k0 k02
    obtain ⟨X, hX⟩ : ∃ X, digs BB n = X := ⟨_, rfl⟩
    have hB32 : ∀ x ∈ X, x < BB := by rw [← hX]; exact digs_dig BB_two n
    obtain ⟨a2, c2, rfl, hs2⟩ := hv2.to hX k1 (Kp.refl [] w2)
    have hVB : valB n = 0 :: (X.length : Int) :: X.map fun x => ((x : Nat) : Int) := by unfold valB; rw [hX]
    rw [hX] at hX8
    rw [hVB]
    refine fill [.int .i64 0, .int .i64 (X.length : Int)] rfl ?_
    refine new fun b3 w3 hb3 hB3 hs3 hk3 => ?_
    have k03 := k02.tr hk3
    have h64 : ∀ x ∈ [(0 : Int), (X.length : Int)], I64 x := fun x hx => by
      simp at hx
      unfold I64
      rcases hx with rfl | rfl <;> omega
    have hl3 := numsB_len (xs := [(0 : Int), (X.length : Int)]) (fun x hx => by
      simp at hx
      rcases hx with rfl | rfl <;> omega)
    have hp3 : ∀ x ∈ [(0 : Int), (X.length : Int)], 0 ≤ x := fun x hx => by
      simp at hx
      rcases hx with rfl | rfl <;> omega
    refine ev_call (nums_ct (h.k0 k03) (hv.kp k03 (Nat.le_refl _)) (New.sub b3 w3) [0, (X.length : Int)] (ints_row hB3 h64 (by simp)) hp3 (by rw [List.length_append]; simp at hl3; omega)) ?_
    rintro e w4 ⟨rfl, v4, hd4, hv4⟩
    have hd24 : Did lo w2 w4 p { p with vv := v4 } := (Did.k0 h2 hk3).trans hd4
    have hcl : ∀ {w' q}, Did lo w2 w' p q → Sl rW (New w.heap.size w') a2 X := fun d => hs2.mono (d.new h)
    refine lp τok (σ := Nat × Value) (fun q => [(0, .pointer (some ⟨p.bm, 0, none⟩)), (41, .slice a2 X.length c2), (42, .int .i64 X.length), (43, .int .i64 q.1)]) (fun q w' => q.1 ≤ X.length ∧ Did lo w2 w' p { p with vv := q.2 } ∧ Vb w.heap.size w' q.2 (B ++ numsB (0 :: (X.length : Int) :: (X.take q.1).map fun x => ((x : Nat) : Int)))) (fun q => X.length - q.1) (0, v4) rfl
      ⟨rfl, rfl, rfl, rfl, trivial⟩ ⟨Nat.zero_le _, hd24, by simpa using hv4.kp (Kp.refl [] w4) k03.size⟩ ?_
    rintro ⟨k, v⟩ w5 ⟨hk, hd5, hv5⟩
    simp only at hk hd5 hv5
    refine br_dec (fun g => ?_) (fun g => ?_)
    · have hlt : k < X.length := by omega
      obtain ⟨x, hx, _⟩ := drop_get hlt
      have hxB := hB32 x (List.mem_of_getElem? hx)
      obtain ⟨b, o, rfl, hcx, hxB'⟩ := (hcl hd5).nat hx
      refine ix k rfl hlt ?_
      refine ldC (New.sub _ w5) hcx ?_
      refine int64 (by unfold BB at hxB; omega) (by unfold BB at hxB; omega) ?_
      refine fill [.int .i64 (x : Int)] rfl ?_
      refine new fun b6 w6 hb6 hB6 hs6 hk6 => ?_
      have h64' : ∀ y ∈ [(x : Int)], I64 y := fun y hy => by
        simp at hy
        unfold I64
        unfold BB at hxB
        omega
      have hl6 := numsB_len (xs := (0 : Int) :: (X.length : Int) :: (X.take (k + 1)).map fun x => ((x : Nat) : Int)) (fun y hy => by
        simp only [List.mem_cons, List.mem_map] at hy
        rcases hy with rfl | rfl | ⟨z, hz, rfl⟩
        · decide
        · omega
        · have := hB32 z (List.mem_of_mem_take hz)
          unfold BB at this
          omega)
      have heq : B ++ numsB (0 :: (X.length : Int) :: (X.take k).map fun x => ((x : Nat) : Int)) ++ numsB [(x : Int)] = B ++ numsB (0 :: (X.length : Int) :: (X.take (k + 1)).map fun x => ((x : Nat) : Int)) := by
        rw [List.append_assoc, ← numsB_app, take_get hx]
        simp
      simp only [List.length_cons, List.length_map, List.length_take] at hl6
      refine ev_call (nums_ct (hd5.mi.k0 hk6) (hv5.kp hk6 (Nat.le_refl _)) (New.sub b6 w6) [(x : Int)] (ints_row hB6 h64' (by simp)) (fun y hy => by simp at hy; omega) (by rw [heq, List.length_append]; omega)) ?_
      rintro e w7 ⟨rfl, v7, hd7, hv7⟩
      rw [heq] at hv7
      refine int64 (by omega) (by omega) ?_
      exact ⟨(k + 1, v7), by simp only; omega, rfl, ⟨rfl, rfl, rfl, rfl, trivial⟩, hlt, (hd5.trans (Did.k0 hd5.mi hk6)).trans hd7, hv7.kp (Kp.refl [] w7) (Nat.le_trans k02.size (Nat.le_trans hd5.env.2.2.2 hk6.size))⟩
    · rw [List.take_of_length_le (by omega)] at hv5
      exact ⟨rfl, v, (Did.k0 h k02).trans hd5, hv5⟩
end
end Go.Proofs.YtbggaljmollhmaaGreatDoor

/-
  Package vm at numbers: nil has no step; the closure that recovers.
-/
set_option linter.unusedSimpArgs false
set_option linter.unusedVariables false
namespace Go.Proofs.YtbggaljmollhmaaGreatDoor
open Go.Wx Nm Vm Vc Cd
theorem indexNil_ct (x : Int) (w : World) :
    CallOk Tryz.prog 109 ∧ Calls Tryz.prog 109 #[.slice none 0 0, .int .i64 x] w (fun e w' => e = .returned (.int .i64 (-1)) ∧ w' = w) := by
  refine ⟨⟨_, Tryz.func109, rfl, by decide⟩, ?_⟩
  refine calls_of (args := [_, _]) 19 [.tmp 4] τok Tryz.func109 rfl rfl rfl (Nat.le_of_ble_eq_true rfl) ?_
  refine lp τok (σ := Nat) (fun q => [(7, .int .i64 0), (8, .int .i64 0)]) (fun q w' => w' = w) (fun q => q) 0 rfl ⟨rfl, rfl, trivial⟩ rfl ?_
  rintro k w1 rfl
  exact ⟨rfl, rfl⟩
theorem containsNil_ct (x : Int) (w : World) :
    CallOk Tryz.prog 65 ∧ Calls Tryz.prog 65 #[.slice none 0 0, .int .i64 x] w (fun e w' => e = .returned (.bool false) ∧ w' = w) := by
  refine ⟨⟨_, Tryz.func65, rfl, by decide⟩, ?_⟩
  refine calls_of (args := [_, _]) 9 [.tmp 4] τok Tryz.func65 rfl rfl rfl (Nat.le_of_ble_eq_true rfl) ?_
  refine ev_call (indexNil_ct x w) ?_
  rintro e w1 ⟨rfl, rfl⟩
  exact ⟨rfl, rfl⟩
end Go.Proofs.YtbggaljmollhmaaGreatDoor

