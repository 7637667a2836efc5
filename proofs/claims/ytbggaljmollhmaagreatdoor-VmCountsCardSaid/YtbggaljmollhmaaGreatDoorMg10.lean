/-
  Own texts put together: VcB, VcC, WxV.
-/
import Derived.Test.YtbggaljmollhmaaGreatDoorMg09
/-
  Package heap at big numbers: put, Alloc.
-/
set_option linter.unusedSimpArgs false
set_option linter.unusedVariables false
namespace Go.Proofs.YtbggaljmollhmaaGreatDoor
open Go.Wx Nm Vm Vc
/-- from one footprint to the next: what was there stays, or is new -/
def Fp (n : Nat) (v v' : Value) : Prop := v'.ownBlock = v.ownBlock ∨ ∃ b, n ≤ b ∧ v'.ownBlock = some b
theorem Fp.refl (n : Nat) (v : Value) : Fp n v v := .inl rfl
theorem Fp.trans {n m : Nat} {u v x : Value} (hn : n ≤ m) (h : Fp n u v) (k : Fp m v x) : Fp n u x := by
  rcases k with k | ⟨b, hb, k⟩
  · rcases h with h | ⟨c, hc, h⟩
    · exact .inl (k.trans h)
    · exact .inr ⟨c, hc, k.trans h⟩
  · exact .inr ⟨b, by omega, k⟩
section
variable {D : Mem} {w : World} {lo bh bp words : Nat} {vw : Value} {G : List Nat}
set_option maxHeartbeats 1000000 in
theorem hput_ct (h : Hp lo w bh bp vw words G) {n : Nat} (hn : mostSmall < n) (hln : (digs BB n).length ≤ 65535) (hfew : usd G + sz n ≤ 65536) {a : Option Addr} {c : Nat} (hD : Sub D w) (hl : Sl rW D a (digs BB n)) (hdis : ∀ b o v, D b o v → vw.ownBlock ≠ some b) :
    CallOk Tryz.prog 170 ∧ Calls Tryz.prog 170 #[.pointer (some ⟨bh, 1, none⟩), .int .u32 ((2 + 4 * (digs BB n).length : Nat) : Int), .slice a (digs BB n).length c] w
      (fun e w' => e = .returned (.int .u32 ((2 * usd G : Nat) : Int)) ∧ ∃ vw', Hp lo w' bh bp vw' words (G ++ [n]) ∧ Kp (bh :: bp :: vw.ownBlock.toList) w w' ∧ Fp w.heap.size vw vw') := by
  refine ⟨⟨_, Tryz.func170, rfl, by decide⟩, ?_⟩
  have hsz : sz n = 1 + (digs BB n).length := rfl
  obtain ⟨X, hX⟩ : ∃ X, digs BB n = X := ⟨_, rfl⟩
  have hfl := flat_snoc G n
  rw [hX] at hln hl hsz hfl ⊢
  obtain ⟨H, hH⟩ : ∃ H, 2 + 4 * X.length = H := ⟨_, rfl⟩
  rw [hH] at hfl
  have hnd := h.nd
  have hblk := h.row.block
  rw [hH]
  rw [hsz] at hfew
  obtain ⟨aw, cw, hv, hcw, _⟩ := h.slice
  have hh := h.h
  have hbhl := hh.lt
  have hglen := usd_len h.len
  obtain ⟨f, hf, hf2⟩ := h.map
  have hbpl := hf.lt
  have hrow := h.row
  have hne : bh ≠ bp ∧ (∀ g, vw.ownBlock = some g → g ≠ bh ∧ g ≠ bp) := by
    simp only [List.nodup_cons, List.mem_cons, not_or] at hnd
    refine ⟨hnd.1.1, fun g hg => ⟨fun e => hnd.1.2 (by simp [hg, e]), fun e => hnd.2.1 (by simp [hg, e])⟩⟩
  obtain ⟨U, hU⟩ : ∃ U, usd G = U := ⟨_, rfl⟩
  have hlen : (flat G).length = U := hU
  rw [hU] at hv hcw hfew hglen ⊢
  subst hv
  refine calls_of (args := [_, _, _]) 36 [.tmp 6] τok Tryz.func170 rfl rfl rfl (Nat.le_of_ble_eq_true rfl) ?_
  refine ld (hh.cl rfl).cell ?_
  refine ld (hh.cl rfl).cell ?_
  refine fill [.int .u32 (H : Int)] rfl ?_
  refine new fun b1 w1 hb1 hB1 hs1 hk1 => ?_
  have hrow1 := hrow.kp hk1
  have hHB : H < BB := by unfold BB; omega
  refine hrow1.ap1 τok rfl rfl (by decide) H [.int .u32 (H : Int)] ⟨rfl, hHB⟩ (fun j t hj => by rw [Nat.zero_add]; exact hB1.cl hj) (by rw [hlen]; omega) (by rw [hlen]; simp only [maxLen]; omega) fun v2 w2 hO2 hk2 hz2 => ?_
  have hd1 : ∀ b o v, D b o v → b ∉ (Value.slice aw U cw).ownBlock.toList := fun b o v hb hx => hdis b o v hb (by simpa using hx)
  have hD2 : Sub D w2 := (hD.tr hk1).kp hk2 hd1
  refine hO2.apF τok rfl rfl (by decide) (flatN _ _) hD2 X hl (by rw [List.length_append, hlen]; simp; omega) (by rw [List.length_append, hlen]; simp [maxLen]; omega) fun v3 w3 hO3 hk3 hz3 => ?_
  have hk01 := hk1.size
  have hk02 := hk2.size
  have hk03 := hk3.size
  -- where the row stands now
  have hfp2 : Fp w.heap.size (.slice aw U cw) v2 := by
    rcases hz2 with e | e
    · exact .inl e
    · exact .inr ⟨w1.heap.size, hk01, e⟩
  have hfp3 : Fp w.heap.size (.slice aw U cw) v3 := hfp2.trans (Nat.le_trans hk01 hk02) (by
    rcases hz3 with e | e
    · exact .inl e
    · exact .inr ⟨w2.heap.size, Nat.le_refl _, e⟩)
  have far : ∀ {v : Value}, Fp w.heap.size (.slice aw U cw) v → ∀ b, b < w.heap.size → (∀ g, (Value.slice aw U cw).ownBlock = some g → g ≠ b) → b ∉ v.ownBlock.toList := fun {v} hfp b hb hg hx => by
    have hx : v.ownBlock = some b := by simpa using hx
    rcases hfp with e | ⟨g, hge, e⟩
    · exact hg b (e ▸ hx) rfl
    · rw [hx] at e
      obtain rfl := Option.some.inj e
      omega
  have hbh2 : bh ∉ (Value.slice aw U cw).ownBlock.toList := far (Fp.refl _ _) bh hbhl fun g hg => (hne.2 g hg).1
  have hbh3 : bh ∉ v2.ownBlock.toList := far hfp2 bh hbhl fun g hg => (hne.2 g hg).1
  have hbp2 : bp ∉ (Value.slice aw U cw).ownBlock.toList := far (Fp.refl _ _) bp hbpl fun g hg => (hne.2 g hg).2
  have hbp3 : bp ∉ v2.ownBlock.toList := far hfp2 bp hbpl fun g hg => (hne.2 g hg).2
  have hh3 := ((hh.kp hk1 (by simp)).kp hk2 hbh2).kp hk3 hbh3
  have hM3 := ((hf.kp hk1 (by simp)).kp hk2 hbp2).kp hk3 hbp3
  obtain ⟨a3, c3, hv3⟩ := hO3.len
  refine st hh3 (by simp) (by rw [hv3]; rfl) fun w4 hh4 hs4 hk4 => ?_
  have hM4 := hM3.kp hk4 (by simp; exact fun e => hne.1 e.symm)
  have hO4 := hO3.kpG (flatN _ _) hk4 (fun g hg hx => by
    have hx : g = bh := by simpa using hx
    exact far hfp3 bh hbhl (fun g hg => (hne.2 g hg).1) (by rw [← hx]; simp [hg]))
  refine ld (hh4.cl rfl).cell ?_
  refine i64n ((1 + X.length : Nat) : Int) (by omega) (by omega) (by omega) ?_
  refine hM4.put (by omega) (by unfold I64; omega) (by unfold I64; omega) fun w5 hM5 hk5 => ?_
  have hh5 := hh4.kp hk5 (by simp; exact hne.1)
  have hO5 := hO4.kpG (flatN _ _) hk5 (fun g hg hx => by
    have hx : g = bp := by simpa using hx
    exact far hfp3 bp hbpl (fun g hg => (hne.2 g hg).2) (by rw [← hx]; simp [hg]))
  refine u32n U (by omega) rfl ?_
  obtain ⟨z, hz⟩ : ∃ z, z = 2 * U := ⟨_, rfl⟩
  refine shl32 (n := 1) z (by decide) (by rw [hz, Nat.mod_eq_of_lt (by omega)]; omega) ?_
  rw [← hz]
  refine ⟨rfl, v3, ⟨hh5, ⟨_, by rw [List.length_append, List.length_singleton]; exact hM5, fun x m hx => ?_⟩, ?_, ?_, h.ge, ?_, ?_, h.bd⟩, ?_, hfp3⟩
  · unfold putF
    by_cases hxl : x < G.length
    · rw [List.getElem?_append_left hxl] at hx
      rw [pos_snoc hxl]
      have := pos_le hx
      have hp : (pos G x : Int) ≠ (U : Int) := by unfold sz at this; omega
      rw [if_neg hp]
      exact hf2 x m hx
    · have := get_lt hx
      rw [List.length_append, List.length_singleton] at this
      have : x = G.length := by omega
      subst this
      simp at hx
      subst hx
      rw [pos_new, hU, if_pos rfl, hsz]
  · rw [hfl]
    rw [List.append_assoc] at hO5
    exact hO5
  · simp only [List.nodup_cons, List.mem_cons, not_or]
    refine ⟨⟨hne.1, far hfp3 bh hbhl fun g hg => (hne.2 g hg).1⟩, far hfp3 bp hbpl fun g hg => (hne.2 g hg).2, ?_⟩
    cases v3.ownBlock <;> simp
  · intro m hm
    rcases List.mem_append.1 hm with hm | hm
    · exact h.len m hm
    · simp at hm
      subst hm
      exact ⟨by rw [hX]; exact hln, hn⟩
  · rw [usd_snoc, hU, hsz]
    exact hfew
  · have kA : Kp (bh :: bp :: (Value.slice aw U cw).ownBlock.toList) w w2 := (Kp.weak hk1 (by simp)).trans hk2 (fun x hx hl => by simp at hx ⊢; exact .inr (.inr hx))
    have kB := kA.trans hk3 (fun x hx hl => by
      have hx : v2.ownBlock = some x := by simpa using hx
      rcases hfp2 with e | ⟨g, hge, e⟩
      · rw [e] at hx; simp [hx]
      · rw [hx] at e; obtain rfl := Option.some.inj e; omega)
    have kC := kB.trans hk4 (fun x hx hl => by simp at hx ⊢; exact .inl hx)
    exact kC.trans hk5 (fun x hx hl => by simp at hx ⊢; exact .inr (.inl hx))

theorem arr3 : Tryz.prog.underlying 253 = some (.array (Tryz.prog.arrayLen 253) (Tryz.prog.elem 253)) := by kernel_rfl
theorem arr3_len : Tryz.prog.arrayLen 253 = 3 := by kernel_rfl
theorem arr3_elem : Tryz.prog.elem 253 = 252 := by kernel_rfl
theorem arr3_info : (Tryz.prog.info? 252).map (·.size) = some 3 := by kernel_rfl
theorem bounds_size (w : World) : (sizeOf 252).run Tryz.prog w = .ok 3 w := by
  have := arr3_info
  cases hq : Tryz.prog.info? 252 with
  | none => rw [hq] at this; cases this
  | some i =>
    rw [hq] at this
    simp [sizeOf, typeInfo, hq]
    simpa using this
theorem idx3 {k : Value → World → Prop} {i : Int} (j : Nat) (hi : i = j) (hj : j < 3) (h : k (.pointer (some ⟨0, j * 3, none⟩)) w) : EvRun Tryz.prog (Instr.indexAt 253 (.pointer (some ⟨0, 0, none⟩)) (.int .i64 i)) w k := by
  subst hi
  refine run (v := .pointer (some ⟨0, j * 3, none⟩)) ?_ h
  rw [run_indexAt_array w _ _ _ _ arr3, arr3_len, if_pos (by omega), arr3_elem, bounds_size w]
  simp [Result.andThen, add_off]

set_option maxHeartbeats 1000000 in
theorem alloc_ct {C : Mem} (hC : Sub C w) (hK : Kt C) (h : Hp lo w bh bp vw words G) {n : Nat} (hn : mostSmall < n) (hln : (digs BB n).length ≤ 65535) (hfew : usd G + sz n ≤ 65536) (hroom : usd G + sz n ≤ words) {a : Option Addr} {c : Nat} (hD : Sub D w) (hl : Sl rW D a (digs BB n)) (hdis : ∀ b o v, D b o v → vw.ownBlock ≠ some b) :
    CallOk Tryz.prog 139 ∧ Calls Tryz.prog 139 #[.pointer (some ⟨bh, 0, none⟩), .int .i64 5, .int .i64 0, .slice a (digs BB n).length c] w
      (fun e w' => e = .returned (.tuple #[.int .u32 ((2 * usd G : Nat) : Int), .int .i64 0]) ∧ ∃ vw', Hp lo w' bh bp vw' words (G ++ [n]) ∧ Kp (bh :: bp :: vw.ownBlock.toList) w w' ∧ Fp w.heap.size vw vw') := by
  refine ⟨⟨_, Tryz.func139, rfl, by decide⟩, ?_⟩
  have hput := fun {w2} (k : Kp [] w w2) => hput_ct (h.kp k (by simp)) hn hln hfew (c := c) (hD.tr k) hl hdis
  have hsz : sz n = 1 + (digs BB n).length := rfl
  have hL1 : 1 ≤ (digs BB n).length := by
    exact List.length_pos_iff.2 fun e => by have := (digs_nil_iff BB_two).1 e; unfold mostSmall at hn; omega
  obtain ⟨X, hX⟩ : ∃ X, digs BB n = X := ⟨_, rfl⟩
  rw [hX] at hln hput hL1 hsz ⊢
  rw [hsz] at hfew hroom
  refine calls_of (args := [_, _, _, _]) 87 [.tmp 8, .tmp 9] τok Tryz.func139 rfl rfl rfl (Nat.le_of_ble_eq_true rfl) ?_
  refine int64 (by decide) (by decide) ?_
  refine idx3 2 rfl (by decide) ?_
  refine ldN [.int .i64 0, .int .i64 1, .int .i64 65535] rfl (fun j v hj => ?_) ?_
  · match j, hj with
    | 0, hj => exact hC _ _ _ (hK 6 v hj)
    | 1, hj => exact hC _ _ _ (hK 7 v hj)
    | 2, hj => exact hC _ _ _ (hK 8 v hj)
  refine new fun b1 w1 hb1 hB1 hs1 hk1 => ?_
  refine stN (vs := [.int .i64 0, .int .i64 1, .int .i64 65535]) hB1 rfl (by simp [Value.oneCell']) fun w2 hB2 hs2 hk2 => ?_
  have k02 : Kp [] w w2 := hk1.newSt hb1 hk2
  refine ld (hB2.cl rfl).cell ?_
  refine ld (hB2.cl rfl).cell ?_
  refine br_no (by omega) ?_
  refine ld (hB2.cl rfl).cell ?_
  refine br_no (by omega) ?_
  obtain ⟨aw, cw, hv, hcw, _⟩ := h.slice
  have hh := h.h
  rw [hv] at hh
  have hh2 := hh.kp k02 (by simp)
  have hbd := h.bd
  refine drawR τok (by kernel_rfl) ?_
  refine ldR (hh2.cl rfl) ?_
  refine ldR (hh2.cl rfl) ?_
  refine int64 (by omega) (by omega) ?_
  refine int64 (by omega) (by omega) ?_
  intro m1
  refine br_no (by omega) ?_
  have k03 : Kp [] w { w2 with drawn := m1 } := k02.dr _
  refine drawG τok (fun u => True) ?_
  refine readsG τok [0, 1, 2, 3, 4, 5, 6, 8] 4 #[true, true, true, true, true, true, true, false, true, false, false, false] rfl rfl (by kernel_rfl) (by kernel_rfl) (by kernel_rfl) trivial ?_
  refine nextG τok 7 3 #[true, true, true, true, true, true, true, true, true, false, false, false] rfl rfl rfl (by kernel_rfl) ?_
  refine ev_call (headOf_ct X.length hln _) ?_
  rintro e w4 ⟨rfl, hw4⟩
  have k04 : Kp [] w w4 := by rw [hw4]; exact (k03.dr _)
  refine ⟨.inl trivial, ?_⟩
  refine nextG τok 9 2 #[true, true, true, true, true, true, true, true, true, true, false, false] rfl rfl rfl (by kernel_rfl) ?_
  refine ev_call (hput k04) ?_
  rintro e w5 ⟨rfl, vw', hH5, hk5, hfp⟩
  refine ⟨.inl trivial, ?_⟩
  refine nextG τok 10 1 #[true, true, true, true, true, true, true, true, true, true, true, false] rfl rfl rfl (by kernel_rfl) ?_
  refine ⟨.inl trivial, ?_⟩
  refine nextG τok 11 0 #[true, true, true, true, true, true, true, true, true, true, true, true] rfl rfl rfl (by kernel_rfl) ?_
  refine ⟨.inl trivial, ?_⟩
  refine doneG (by kernel_rfl) ?_
  refine ⟨rfl, vw', hH5, (Kp.weak k04 (by simp)).trans hk5 (fun x hx _ => hx), (Fp.refl _ _).trans k04.size hfp⟩
end
end Go.Proofs.YtbggaljmollhmaaGreatDoor

/-
  Package vm at numbers: what stands in memory; push, pop, number, room, put.
-/
set_option linter.unusedSimpArgs false
set_option linter.unusedVariables false
namespace Go.Proofs.YtbggaljmollhmaaGreatDoor
open Go.Wx Nm Vm Vc
structure Frm where
  a : Option Addr
  len : Nat
  cap : Nat
  next : Nat
  base : Nat
def rFrm : Rd Frm where
  sz := 3
  den _ cs f := cs = [.slice f.a f.len f.cap, .int .i64 f.next, .int .i64 f.base]
  len := by rintro _ cs x rfl; rfl
  mono := by rintro _ _ cs x _ h; exact h
  one := by rintro _ cs x rfl u hu; simp at hu; rcases hu with rfl | rfl | rfl <;> rfl
theorem flatFrm : Flat rFrm := fun _ _ _ _ h => h
structure Pm where
  bm : Nat
  bh : Nat
  bp : Nat
  bc : Nat
  vw : Value
  vs : Value
  vf : Value
  vv : Value
  words : Nat
  G : List Nat
  ws : List Nat
  frs : List Frm
  fuel : Nat
  steps : Nat
  most : Nat
  kind : Nat
def Pm.cells (p : Pm) : List Value := [.pointer (some ⟨p.bc, 0, none⟩), .pointer (some ⟨p.bh, 0, none⟩), .int .i64 p.words, .int .i64 p.fuel, p.vs, p.vf, .int .i64 p.kind, .int .i64 0, p.vv, .int .i64 p.steps, .int .i64 0, .int .i64 p.most]
/-- the machine in memory -/
structure Mi (lo : Nat) (w : World) (p : Pm) : Prop where
  m : Bk w.heap p.bm p.cells 68
  hp : Hp lo w p.bh p.bp p.vw p.words p.G
  rs : Own rW 82 lo w p.vs p.ws
  rf : Own rFrm 133 lo w p.vf p.frs
  lom : lo ≤ p.bm
  mh : p.bm ≠ p.bh
  mp : p.bm ≠ p.bp
  mw : p.vw.ownBlock ≠ some p.bm
  ms : p.vs.ownBlock ≠ some p.bm
  mf : p.vf.ownBlock ≠ some p.bm
  hs : p.vs.ownBlock ≠ some p.bh
  hf : p.vf.ownBlock ≠ some p.bh
  ps : p.vs.ownBlock ≠ some p.bp
  pf : p.vf.ownBlock ≠ some p.bp
  sw : ∀ b, p.vs.ownBlock = some b → p.vw.ownBlock ≠ some b
  fw : ∀ b, p.vf.ownBlock = some b → p.vw.ownBlock ≠ some b
  fs : ∀ b, p.vf.ownBlock = some b → p.vs.ownBlock ≠ some b
  wsl : p.ws.length ≤ 1000
  st : p.steps ≤ 1000
  fu : p.fuel ≤ 1000
  mo : p.most ≤ 65536
  one : p.vv.oneCell' = true
/-- b is none of the machine's blocks -/
structure Off (p : Pm) (b : Nat) : Prop where
  m : b ≠ p.bm
  h : b ≠ p.bh
  q : b ≠ p.bp
  w : p.vw.ownBlock ≠ some b
  s : p.vs.ownBlock ≠ some b
  f : p.vf.ownBlock ≠ some b
section
variable {lo : Nat} {w : World} {p : Pm}
theorem Mi.far (h : Mi lo w p) {b : Nat} (hb : w.heap.size ≤ b) : Off p b := by
  have h1 := h.m.lt
  have h2 := h.hp.h.lt
  obtain ⟨f, hf, _⟩ := h.hp.map
  have h3 := hf.lt
  exact ⟨by omega, by omega, by omega, fun e => by have := (h.hp.row.block b e).2; omega, fun e => by have := (h.rs.block b e).2; omega, fun e => by have := (h.rf.block b e).2; omega⟩
theorem Mi.old (h : Mi lo w p) {b : Nat} (hb : b < lo) : Off p b := by
  have h1 := h.lom
  have h2 := h.hp.ge
  exact ⟨by omega, by omega, by omega, fun e => by have := (h.hp.row.block b e).1; omega, fun e => by have := (h.rs.block b e).1; omega, fun e => by have := (h.rf.block b e).1; omega⟩
theorem Mi.kp {X : List Nat} {w' : World} (h : Mi lo w p) (k : Kp X w w') (hx : ∀ b ∈ X, Off p b) : Mi lo w' p := by
  have hh : ∀ b ∈ p.bh :: p.bp :: p.vw.ownBlock.toList, b ∉ X := fun b hb hbx => by
    have o := hx b hbx
    rcases List.mem_cons.1 hb with e | hb
    · exact o.h e
    rcases List.mem_cons.1 hb with e | hb
    · exact o.q e
    · exact o.w (by simpa using hb)
  exact ⟨h.m.kp k fun hb => (hx _ hb).m rfl, h.hp.kp k hh, h.rs.kpG (flatN _ _) k fun g hg hb => (hx g hb).s hg, h.rf.kpG flatFrm k fun g hg hb => (hx g hb).f hg, h.lom, h.mh, h.mp, h.mw, h.ms, h.mf, h.hs, h.hf, h.ps, h.pf, h.sw, h.fw, h.fs, h.wsl, h.st, h.fu, h.mo, h.one⟩
theorem Mi.k0 {w' : World} (h : Mi lo w p) (k : Kp [] w w') : Mi lo w' p := h.kp k (by simp)

/-- Fp keeps a row off a block -/
theorem Fp.ne {n b : Nat} {v v' : Value} (h : Fp n v v') (hv : v.ownBlock ≠ some b) (hb : b < n) : v'.ownBlock ≠ some b := by
  rcases h with e | ⟨g, hg, e⟩
  · rw [e]; exact hv
  · rw [e]
    intro e'
    obtain rfl := Option.some.inj e'
    omega
/-- the stack turned, and stored -/
theorem Mi.stack (h : Mi lo w p) {w1 w2 : World} {v' : Value} {l' : List Nat} (ho : Own rW 82 lo w1 v' l') (k1 : Kp p.vs.ownBlock.toList w w1) (hf : Fp w.heap.size p.vs v') (hb : Bk w2.heap p.bm (p.cells.set 4 v') 68) (k2 : Kp [p.bm] w1 w2) (hl : l'.length ≤ 1000) :
    Mi lo w2 { p with vs := v', ws := l' } := by
  have b1 := h.m.lt
  have b2 := h.hp.h.lt
  obtain ⟨f, hmf, _⟩ := h.hp.map
  have b3 := hmf.lt
  have hh1 : ∀ b ∈ p.bh :: p.bp :: p.vw.ownBlock.toList, b ∉ p.vs.ownBlock.toList := fun b hb hbx => by
    have hbx : p.vs.ownBlock = some b := by simpa using hbx
    rcases List.mem_cons.1 hb with rfl | hb
    · exact h.hs hbx
    rcases List.mem_cons.1 hb with rfl | hb
    · exact h.ps hbx
    · exact h.sw b hbx (by simpa using hb)
  have hh2 : ∀ b ∈ p.bh :: p.bp :: p.vw.ownBlock.toList, b ∉ [p.bm] := fun b hb hbx => by
    have hbx : b = p.bm := by simpa using hbx
    subst hbx
    rcases List.mem_cons.1 hb with e | hb
    · exact h.mh e
    rcases List.mem_cons.1 hb with e | hb
    · exact h.mp e
    · exact h.mw (by simpa using hb)
  refine ⟨hb, (h.hp.kp k1 hh1).kp k2 hh2, ho.kpG (flatN _ _) k2 fun g hg hx => ?_, (h.rf.kpG flatFrm k1 fun g hg hx => h.fs g hg (by simpa using hx)).kpG flatFrm k2 fun g hg hx => ?_, h.lom, h.mh, h.mp, h.mw, hf.ne h.ms b1, h.mf, hf.ne h.hs b2, h.hf, hf.ne h.ps b3, h.pf, fun b hb hw => ?_, h.fw, fun b hb => ?_, hl, h.st, h.fu, h.mo, h.one⟩
  · have hx : g = p.bm := by simpa using hx
    rw [hx] at hg
    exact hf.ne h.ms b1 hg
  · have hx : g = p.bm := by simpa using hx
    rw [hx] at hg
    exact h.mf hg
  · have := (h.hp.row.block b hw).2
    exact hf.ne (fun e => h.sw b e hw) this hb
  · have := (h.rf.block b hb).2
    exact hf.ne (h.fs b hb) this
/-- a field turned -/
theorem Mi.field (h : Mi lo w p) {w2 : World} {fuel steps most kind : Nat} {vv : Value} (hb : Bk w2.heap p.bm ({ p with fuel := fuel, steps := steps, most := most, kind := kind, vv := vv } : Pm).cells 68) (k2 : Kp [p.bm] w w2) (h1 : fuel ≤ 1000) (h2 : steps ≤ 1000) (h3 : most ≤ 65536) (h4 : vv.oneCell' = true) :
    Mi lo w2 { p with fuel := fuel, steps := steps, most := most, kind := kind, vv := vv } := by
  have hh2 : ∀ b ∈ p.bh :: p.bp :: p.vw.ownBlock.toList, b ∉ [p.bm] := fun b hb hbx => by
    have hbx : b = p.bm := by simpa using hbx
    subst hbx
    rcases List.mem_cons.1 hb with e | hb
    · exact h.mh e
    rcases List.mem_cons.1 hb with e | hb
    · exact h.mp e
    · exact h.mw (by simpa using hb)
  refine ⟨hb, h.hp.kp k2 hh2, h.rs.kpG (flatN _ _) k2 fun g hg hx => ?_, h.rf.kpG flatFrm k2 fun g hg hx => ?_, h.lom, h.mh, h.mp, h.mw, h.ms, h.mf, h.hs, h.hf, h.ps, h.pf, h.sw, h.fw, h.fs, h.wsl, h2, h1, h3, h4⟩
  · have hx : g = p.bm := by simpa using hx
    rw [hx] at hg
    exact h.ms hg
  · have hx : g = p.bm := by simpa using hx
    rw [hx] at hg
    exact h.mf hg
/-- the frames turned, and stored -/
theorem Mi.frames (h : Mi lo w p) {w1 w2 : World} {v' : Value} {l' : List Frm} (ho : Own rFrm 133 lo w1 v' l') (k1 : Kp p.vf.ownBlock.toList w w1) (hf : Fp w.heap.size p.vf v') (hb : Bk w2.heap p.bm (p.cells.set 5 v') 68) (k2 : Kp [p.bm] w1 w2) :
    Mi lo w2 { p with vf := v', frs := l' } := by
  have b1 := h.m.lt
  have b2 := h.hp.h.lt
  obtain ⟨f, hmf, _⟩ := h.hp.map
  have b3 := hmf.lt
  have hh1 : ∀ b ∈ p.bh :: p.bp :: p.vw.ownBlock.toList, b ∉ p.vf.ownBlock.toList := fun b hb hbx => by
    have hbx : p.vf.ownBlock = some b := by simpa using hbx
    rcases List.mem_cons.1 hb with rfl | hb
    · exact h.hf hbx
    rcases List.mem_cons.1 hb with rfl | hb
    · exact h.pf hbx
    · exact h.fw b hbx (by simpa using hb)
  have hh2 : ∀ b ∈ p.bh :: p.bp :: p.vw.ownBlock.toList, b ∉ [p.bm] := fun b hb hbx => by
    have hbx : b = p.bm := by simpa using hbx
    subst hbx
    rcases List.mem_cons.1 hb with e | hb
    · exact h.mh e
    rcases List.mem_cons.1 hb with e | hb
    · exact h.mp e
    · exact h.mw (by simpa using hb)
  refine ⟨hb, (h.hp.kp k1 hh1).kp k2 hh2, (h.rs.kpG (flatN _ _) k1 fun g hg hx => h.fs g (by simpa using hx) hg).kpG (flatN _ _) k2 fun g hg hx => ?_, ho.kpG flatFrm k2 fun g hg hx => ?_, h.lom, h.mh, h.mp, h.mw, h.ms, hf.ne h.mf b1, h.hs, hf.ne h.hf b2, h.ps, hf.ne h.pf b3, h.sw, fun b hb hw => ?_, fun b hb hs => ?_, h.wsl, h.st, h.fu, h.mo, h.one⟩
  · have hx : g = p.bm := by simpa using hx
    rw [hx] at hg
    exact h.ms hg
  · have hx : g = p.bm := by simpa using hx
    rw [hx] at hg
    exact hf.ne h.mf b1 hg
  · have := (h.hp.row.block b hw).2
    exact hf.ne (fun e => h.fw b e hw) this hb
  · have := (h.rs.block b hs).2
    exact hf.ne (fun e => h.fs b e hs) this hb
/-- the heap turned -/
theorem Mi.heap (h : Mi lo w p) {w1 : World} {v' : Value} {G' : List Nat} (ho : Hp lo w1 p.bh p.bp v' p.words G') (k1 : Kp (p.bh :: p.bp :: p.vw.ownBlock.toList) w w1) (hf : Fp w.heap.size p.vw v') : Mi lo w1 { p with vw := v', G := G' } := by
  have b1 := h.m.lt
  have hx : ∀ b, b ∈ p.bh :: p.bp :: p.vw.ownBlock.toList → b = p.bh ∨ b = p.bp ∨ p.vw.ownBlock = some b := fun b hb => by simpa using hb
  refine ⟨h.m.kp k1 fun hb => ?_, ho, h.rs.kpG (flatN _ _) k1 fun g hg hb => ?_, h.rf.kpG flatFrm k1 fun g hg hb => ?_, h.lom, h.mh, h.mp, hf.ne h.mw b1, h.ms, h.mf, h.hs, h.hf, h.ps, h.pf, fun b hb => ?_, fun b hb => ?_, h.fs, h.wsl, h.st, h.fu, h.mo, h.one⟩
  · rcases hx _ hb with e | e | e
    · exact h.mh e
    · exact h.mp e
    · exact h.mw e
  · rcases hx _ hb with rfl | rfl | e
    · exact h.hs hg
    · exact h.ps hg
    · exact h.sw g hg e
  · rcases hx _ hb with rfl | rfl | e
    · exact h.hf hg
    · exact h.pf hg
    · exact h.fw g hg e
  · exact hf.ne (h.sw b hb) (h.rs.block b hb).2
  · exact hf.ne (h.fw b hb) (h.rf.block b hb).2

/-- what a method leaves: the machine anew; of the old memory nothing else turned -/
structure Did (lo : Nat) (w w' : World) (p p' : Pm) : Prop where
  mi : Mi lo w' p'
  kp : ∀ b, b < w.heap.size → Off p b → w'.heap[b]? = w.heap[b]?
  off : ∀ b, b < w.heap.size → Off p b → Off p' b
  env : w'.os = w.os ∧ w'.tape = w.tape ∧ w'.output = w.output ∧ w.heap.size ≤ w'.heap.size
theorem Did.trans {w' w'' : World} {p' p'' : Pm} (h : Did lo w w' p p') (k : Did lo w' w'' p' p'') : Did lo w w'' p p'' :=
  ⟨k.mi, fun b hb ho => (k.kp b (by have := h.env.2.2.2; omega) (h.off b hb ho)).trans (h.kp b hb ho), fun b hb ho => k.off b (by have := h.env.2.2.2; omega) (h.off b hb ho),
    ⟨k.env.1.trans h.env.1, k.env.2.1.trans h.env.2.1, k.env.2.2.1.trans h.env.2.2.1, Nat.le_trans h.env.2.2.2 k.env.2.2.2⟩⟩
theorem Did.k0 {w' : World} (h : Mi lo w p) (k : Kp [] w w') : Did lo w w' p p := ⟨h.k0 k, fun b hb _ => k.block b hb (by simp), fun _ _ h => h, k.os, k.tape, k.output, k.size⟩
theorem Did.low {w' : World} {p' : Pm} (hm : Mi lo w p) (h : Did lo w w' p p') {w0 : World} (h0 : w0.heap.size = lo) (k : Kp [] w0 w) : Kp [] w0 w' :=
  ⟨h.env.1.trans k.os, h.env.2.1.trans k.tape, h.env.2.2.1.trans k.output, Nat.le_trans k.size h.env.2.2.2, fun b hb _ => (h.kp b (by have := k.size; omega) (hm.old (by omega))).trans (k.block b hb (by simp))⟩
theorem Did.of {X : List Nat} {w' : World} {p' : Pm} (k : Kp X w w') (hm : Mi lo w' p') (hX : ∀ b, b < w.heap.size → Off p b → b ∉ X ∧ Off p' b) : Did lo w w' p p' :=
  ⟨hm, fun b hb ho => k.block b hb (hX b hb ho).1, fun b hb ho => (hX b hb ho).2, k.os, k.tape, k.output, k.size⟩
theorem Fp.off {n b : Nat} {v v' : Value} (h : Fp n v v') (hb : b < n) (hv : v.ownBlock ≠ some b) : v'.ownBlock ≠ some b := h.ne hv hb
end
end Go.Proofs.YtbggaljmollhmaaGreatDoor

/-
  Wx: as WxJ, where the last operation waitsV for all others by one step between, too.
-/
set_option linter.unusedSimpArgs false
set_option linter.unusedVariables false
namespace Go.Wx

/-- k is waited for by number j, by so many steps between -/
def edgeV (md : Region.Mode) (ops : Array Oper) : Nat → Nat → Nat → Bool
  | 0, j, k => match ops[j]? with
    | some o => o.after.any fun e => Region.binds md e && e.on == k
    | none => false
  | d + 1, j, k => match ops[j]? with
    | some o => o.after.any fun e => Region.binds md e && (e.on == k || edgeV md ops d e.on k)
    | none => false
/-- number j waits for every other, by few steps between -/
def waitsV (md : Region.Mode) (ops : Array Oper) (j : Nat) : Bool :=
  match ops[j]? with
  | some o => (List.range ops.size).all fun k => k == j || o.after.any fun e => Region.binds md e && (e.on == k || edgeV md ops 12 e.on k)
  | none => false
/-- what is listed has all listed that it waits for -/
def ClsV (md : Region.Mode) (ops : Array Oper) (listed : Array Bool) : Prop := ∀ (k : Nat) o, ops[k]? = some o → listed.getD k false = true → ∀ e ∈ o.after, Region.binds md e = true → listed.getD e.on false = true
theorem getD_up {listed : Array Bool} {j x : Nat} (h : listed.getD x false = true) : (listed.setIfInBounds j true).getD x false = true := by
  by_cases hjx : j = x
  · subst hjx
    by_cases hl : j < listed.size
    · simp [hl]
    · simp [hl] at h
  · rw [getD_set_ne false hjx]
    exact h
theorem ClsV.set {md : Region.Mode} {ops : Array Oper} {listed : Array Bool} {j : Nat} (h : ClsV md ops listed) (hj : j ∈ Region.ready md ops listed) : ClsV md ops (listed.setIfInBounds j true) := by
  intro k o ho hk e he hb
  obtain ⟨hun, oj, hoj, hall⟩ := mem_ready.1 hj
  by_cases hjk : j = k
  · subst hjk
    rw [hoj] at ho
    obtain rfl := Option.some.inj ho
    exact getD_up (hall e he hb)
  · rw [getD_set_ne false hjk] at hk
    exact getD_up (h k o ho hk e he hb)
theorem edge_specV {md : Region.Mode} {ops : Array Oper} {listed : Array Bool} (hc : ClsV md ops listed) : ∀ (d : Nat) {m i : Nat}, listed.getD m false = true → edgeV md ops d m i = true → listed.getD i false = true
  | 0, m, i, hm, h => by
    unfold edgeV at h
    cases hom : ops[m]? with
    | none => rw [hom] at h; cases h
    | some om =>
      rw [hom] at h
      simp only [Array.any_eq_true, Bool.and_eq_true, beq_iff_eq] at h
      obtain ⟨k', hk', h3, h4⟩ := h
      have := hc _ om hom hm _ (Array.getElem_mem hk') h3
      rw [h4] at this
      exact this
  | d + 1, m, i, hm, h => by
    unfold edgeV at h
    cases hom : ops[m]? with
    | none => rw [hom] at h; cases h
    | some om =>
      rw [hom] at h
      simp only [Array.any_eq_true, Bool.and_eq_true, Bool.or_eq_true, beq_iff_eq] at h
      obtain ⟨k', hk', h3, h4⟩ := h
      have hl := hc _ om hom hm _ (Array.getElem_mem hk') h3
      rcases h4 with h4 | h4
      · rw [h4] at hl
        exact hl
      · exact edge_specV hc d hl h4
theorem waits_specV {md : Region.Mode} {ops : Array Oper} {listed : Array Bool} {i j : Nat} (hc : ClsV md ops listed) (h : waitsV md ops j = true) (hj : j ∈ Region.ready md ops listed) (hi : i < ops.size) (hne : i ≠ j) : listed.getD i false = true := by
  obtain ⟨hun, oj, hoj, hall⟩ := mem_ready.1 hj
  unfold waitsV at h
  rw [hoj] at h
  have := List.all_eq_true.1 h i (List.mem_range.2 hi)
  simp only [Bool.or_eq_true, beq_iff_eq, hne, false_or, Array.any_eq_true, Bool.and_eq_true] at this
  obtain ⟨k, hk, h1, h2⟩ := this
  have hm := hall _ (Array.getElem_mem hk) h1
  rcases h2 with h2 | h2
  · rw [← h2]; exact hm
  · exact edge_specV hc 12 hm h2

def wpAnyV (P : Program) (md : Region.Mode) (ops : Array Oper) (Q : Exit → Act → World → Prop) (S : World → Prop) : Nat → Array Bool → Act → World → Prop
  | 0, listed, a, w => Region.ready md ops listed = [] ∧ Q .normal a w
  | fuel + 1, listed, a, w => (Region.ready md ops listed = [] → Q .normal a w) ∧
    ∀ i ∈ Region.ready md ops listed, wpOp P ops Q i (fun a' w' => (S w' ∨ waitsV md ops i = true) ∧ wpAnyV P md ops Q S fuel (listed.setIfInBounds i true) a' w') a w

section
variable {P : Program} {ops : Array Oper} {Q : Exit → Act → World → Prop} {md : Region.Mode} {S : World → Prop}
theorem wpAny_of_V : ∀ (fuel : Nat) (listed : Array Bool) (a : Act) (w : World), wpAnyV P md ops Q S fuel listed a w → wpAny P md ops Q fuel listed a w
  | 0, _, _, _, h => h
  | fuel + 1, _, _, _, h => ⟨h.1, fun i hi => wpOp_mono (fun a' w' h' => wpAny_of_V fuel _ a' w' h'.2) (h.2 i hi)⟩

theorem wpAnyV_first {i : Nat} {oi : Oper} {v : Value} (hi : ops[i]? = some oi) (hsel : ∀ (j : Nat) (o : Oper) cs b, ops[j]? = some o → o.op ≠ .select cs b)
    (hQ : ∀ c a w, Q (.panic c) (a.put oi.dst v) w → Q (.panic c) a w) :
    ∀ (fuel : Nat) (listed : Array Bool) (a : Act) (w : World),
      (∀ j oj, ops[j]? = some oj → j ≠ i → listed.getD j true = false → (∀ e ∈ oj.after, Region.binds md e = true → e.on ≠ i) → oi.apart ops oj = true) →
      ClsV md ops listed → i ∈ Region.ready md ops listed → YieldsIf P ops S oi v a → S w →
      wpAnyV P md ops Q S fuel (listed.setIfInBounds i true) (a.put oi.dst v) w → wpAnyV P md ops Q S (fuel + 1) listed a w := by
  have hio : i < ops.size := (Array.getElem?_eq_some_iff.1 hi).1
  intro fuel
  induction fuel with
  | zero =>
    intro listed a w _ hcl hr hy hS H
    refine ⟨fun h => (by rw [h] at hr; cases hr), fun j hj => ?_⟩
    by_cases hji : j = i
    · subst hji
      exact hy.wpOp hi hS ⟨.inl hS, H⟩
    · have h0 := ready_mono hj hji
      rw [H.1] at h0
      cases h0
  | succ fuel ih =>
    intro listed a w hfree hcl hr hy hS H
    refine ⟨fun h => (by rw [h] at hr; cases hr), fun j hj => ?_⟩
    by_cases hji : j = i
    · subst hji
      exact hy.wpOp hi hS ⟨.inl hS, H⟩
    have h1 := H.2 j (ready_mono hj hji)
    obtain ⟨hjun, oj, hoj, hall⟩ := mem_ready.1 hj
    have hnot : ∀ e ∈ oj.after, Region.binds md e = true → e.on ≠ i := fun e he hb heq => by
      have g1 := hall e he hb
      have g0 := (mem_ready.1 hr).1
      rw [heq] at g1
      by_cases hl : i < listed.size
      · simp [hl] at g0 g1; rw [g0] at g1; cases g1
      · simp [hl] at g1
    have hnw : ¬ waitsV md ops j = true := fun hw => by
      have g1 := waits_specV hcl hw hj hio (Ne.symm hji)
      have g0 := (mem_ready.1 hr).1
      by_cases hl : i < listed.size
      · simp [hl] at g0 g1; rw [g0] at g1; cases g1
      · simp [hl] at g1
    have h2 := wpOp_putIf hoj (hfree j oj hoj hji hjun hnot) (fun cs b => hsel i oi cs b hi) (fun cs b => hsel j oj cs b hoj) hQ hy h1
    refine wpOp_mono (fun a' w' h3 => ?_) h2
    have hS' : S w' := h3.2.1.resolve_right hnw
    refine ⟨.inl hS', ih (listed.setIfInBounds j true) a' w' (fun k ok hk hki hun hno => hfree k ok hk hki ?_ hno) (hcl.set hj) (ready_mono hr (Ne.symm hji)) h3.1 hS' ?_⟩
    · by_cases hjk : j = k
      · subst hjk; exact hjun
      · rw [getD_set_ne true hjk] at hun; exact hun
    · rw [Array.setIfInBounds_comm _ _ hji]
      exact h3.2.2
end

@[irreducible] def EvAnyV (P : Program) (n : Nat) (S : World → Prop) (l : List Oper) (K : Exit → St → World → Prop) (fuel : Nat) (listed : Array Bool) (s : St) (w : World) : Prop :=
  ClsV .any l.toArray listed → ∀ a, Fr n a s → wpAnyV P .any l.toArray (endQ n K) S fuel listed a w

section
variable {P : Program} {τ : Tau} {n : Nat} {S : World → Prop} {l : List Oper} {K : Exit → St → World → Prop} {s : St} {w : World}

theorem drawV {id : Nat} (hτ : TauOk P τ) (S : World → Prop) (h : EvAnyV P n S l K l.toArray.size (Array.replicate l.toArray.size false) s { w with drawn := w.drawn + 1 }) : EvCode P n (.region id l.toArray true) s w K := by
  unfold EvCode
  intro a hF
  unfold EvAnyV at h
  exact Go.wp_mono (wp_region_any hτ.mixed (wpAny_of_V _ _ _ _ (h (fun k o _ hk => by simp [Array.getD] at hk) a hF))) fun e a' w' ⟨he, hl⟩ => by subst he; exact hl

theorem wpAnyV_takes (hs : Region.noSelect l.toArray = true) (hS : S w) {fuel : Nat} : ∀ (is : List Nat) (ops : List Oper) (listed : Array Bool) (a : Act), picks l.toArray is ops → takesOk l.toArray listed is = true → ClsV .any l.toArray listed →
    wpQuiet P l.toArray S (fun a' => wpAnyV P .any l.toArray (endQ n K) S fuel (marks listed is) a' w) ops a → wpAnyV P .any l.toArray (endQ n K) S (fuel + is.length) listed a w
  | [], [], listed, a, _, _, _, h => h
  | i :: r, o :: os, listed, a, hp, ht, hc, h => by
    obtain ⟨hi, hpl, hp'⟩ := hp
    simp only [takesOk, Bool.and_eq_true] at ht
    obtain ⟨hf, hr, ht'⟩ := ht
    unfold wpQuiet at h
    have e : fuel + (i :: r).length = (fuel + r.length) + 1 := by simp; omega
    rw [e]
    have hr' : i ∈ Region.ready .any l.toArray listed := by simpa using hr
    split at h
    · rename_i hw
      obtain ⟨v, hv, hn⟩ := h
      refine wpAnyV_first hi (Region.noSelect_spec hs) (fun c a w hq => by cases hq.1) _ _ _ _ (Region.free_spec hi hf) hc hr' (.inl ⟨hw, fun w' hw' => ?_⟩) hS (wpAnyV_takes hs hS r os _ _ hp' ht' (hc.set hr') hn)
      have := hv w' hw'
      unfold Oper.quietAt at this
      cases hrun : (execOp a.eval o).run P w' with
      | ok r w'' =>
        obtain ⟨u, rfl⟩ := plain_value' hpl hrun
        rw [hrun] at this
        obtain ⟨e1, e2⟩ := this
        rw [e1, e2]
      | halt x w'' => rw [hrun] at this; exact this.elim
    · rename_i hw
      exact wpAnyV_first hi (Region.noSelect_spec hs) (fun c a w hq => by cases hq.1) _ _ _ _ (Region.free_spec hi hf) hc hr' (.inr ⟨by simpa using hw, rfl⟩) hS (wpAnyV_takes hs hS r os _ _ hp' ht' (hc.set hr') h)
  | [], _ :: _, _, _, hp, _, _, _ => hp.elim
  | _ :: _, [], _, _, hp, _, _, _ => hp.elim
theorem ClsV.marks : ∀ {is : List Nat} {listed : Array Bool}, ClsV .any l.toArray listed → takesOk l.toArray listed is = true → ClsV .any l.toArray (marks listed is)
  | [], _, h, _ => h
  | i :: r, listed, h, ht => by
    simp only [takesOk, Bool.and_eq_true] at ht
    obtain ⟨hf, hr, ht'⟩ := ht
    exact ClsV.marks (is := r) (h.set (by simpa using hr)) ht'

/-- these first: they only read, and read the same in every world of the class -/
theorem readsV (hτ : TauOk P τ) (is : List Nat) {fuel : Nat} (fuel' : Nat) {listed : Array Bool} (listed' : Array Bool) (hf : fuel = fuel' + is.length) (hm : marks listed is = listed') (hp : picksB l is = true) (hs : Region.noSelect l.toArray = true) (ht : takesOk l.toArray listed is = true) (hS : S w)
    (h : wpQ P τ n S l (fun s' => EvAnyV P n S l K fuel' listed' s' w) (pickN l is) s) : EvAnyV P n S l K fuel listed s w := by
  subst hf hm
  unfold EvAnyV
  intro hc a hF
  have h1 := wpQ_sound hτ (l := l) (C := S) (k := fun s' => EvAnyV P n S l K fuel' (marks listed is) s' w) (Q := fun a' => wpAnyV P .any l.toArray (endQ n K) S fuel' (marks listed is) a' w)
    (fun s' a' hF' hk => by unfold EvAnyV at hk; exact hk (hc.marks ht) a' hF') (pickN l is) s a hF h
  exact wpAnyV_takes hs hS is _ listed a (picks_of hp) ht hc h1

theorem stepV (hτ : TauOk P τ) {i fuel : Nat} {listed : Array Bool} {o : Oper} (hi : l[i]? = some o) {a : Act} (hF : Fr n a s) (hc : ClsV .any l.toArray listed) (hr : i ∈ Region.ready .any l.toArray listed)
    (h : wpL P τ n l (fun s' w' => (S w' ∨ waitsV .any l.toArray i = true) ∧ EvAnyV P n S l K fuel (listed.setIfInBounds i true) s' w') (fun _ _ _ => False) [o] s w) :
    wpOp P l.toArray (endQ n K) i (fun a' w' => (S w' ∨ waitsV .any l.toArray i = true) ∧ wpAnyV P .any l.toArray (endQ n K) S fuel (listed.setIfInBounds i true) a' w') a w := by
  refine wpOp_of_list (o := o) (by simpa using hi) endQ_np endQ_no ?_
  exact wpL_sound hτ (l := l) (Q := fun e a' w' => e = .normal ∧ ((S w' ∨ waitsV .any l.toArray i = true) ∧ wpAnyV P .any l.toArray (endQ n K) S fuel (listed.setIfInBounds i true) a' w'))
    (fun s' w' a' hF' hk => ⟨rfl, hk.1, by have := hk.2; unfold EvAnyV at this; exact this (hc.set hr) a' hF'⟩) (fun _ _ _ _ _ hk => hk.elim) [o] s w a hF h

theorem allV (hτ : TauOk P τ) (is : List Nat) {fuel : Nat} {listed : Array Bool} (hr : Region.ready .any l.toArray listed = is) (hne : is ≠ [])
    (h : ∀ i ∈ is, ∃ o, l[i]? = some o ∧ wpL P τ n l (fun s' w' => (S w' ∨ waitsV .any l.toArray i = true) ∧ EvAnyV P n S l K fuel (listed.setIfInBounds i true) s' w') (fun _ _ _ => False) [o] s w) : EvAnyV P n S l K (fuel + 1) listed s w := by
  unfold EvAnyV
  intro hc a hF
  refine ⟨fun h0 => absurd (hr ▸ h0) hne, fun j hj => ?_⟩
  obtain ⟨o, ho, h⟩ := h j (hr ▸ hj)
  exact stepV hτ ho hF hc hj h

/-- one alone may come up -/
theorem nextV (hτ : TauOk P τ) (i : Nat) {o : Oper} {fuel : Nat} (fuel' : Nat) {listed : Array Bool} (listed' : Array Bool) (hf : fuel = fuel' + 1) (hm : listed.setIfInBounds i true = listed') (hi : l[i]? = some o) (hr : Region.ready .any l.toArray listed = [i])
    (h : wpL P τ n l (fun s' w' => (S w' ∨ waitsV .any l.toArray i = true) ∧ EvAnyV P n S l K fuel' listed' s' w') (fun _ _ _ => False) [o] s w) : EvAnyV P n S l K fuel listed s w := by
  subst hf hm
  refine allV hτ [i] hr (by simp) fun j hj => ?_
  obtain rfl : j = i := by simpa using hj
  exact ⟨o, hi, h⟩
/-- one of two -/
theorem twoV (hτ : TauOk P τ) (i j : Nat) {o o' : Oper} {fuel : Nat} (fuel' : Nat) {listed : Array Bool} (l1 l2 : Array Bool) (hf : fuel = fuel' + 1) (hm1 : listed.setIfInBounds i true = l1) (hm2 : listed.setIfInBounds j true = l2) (hi : l[i]? = some o) (hj : l[j]? = some o') (hr : Region.ready .any l.toArray listed = [i, j])
    (h1 : wpL P τ n l (fun s' w' => (S w' ∨ waitsV .any l.toArray i = true) ∧ EvAnyV P n S l K fuel' l1 s' w') (fun _ _ _ => False) [o] s w)
    (h2 : wpL P τ n l (fun s' w' => (S w' ∨ waitsV .any l.toArray j = true) ∧ EvAnyV P n S l K fuel' l2 s' w') (fun _ _ _ => False) [o'] s w) : EvAnyV P n S l K fuel listed s w := by
  subst hf hm1 hm2
  refine allV hτ [i, j] hr (by simp) fun m hm => ?_
  have : m = i ∨ m = j := by simpa using hm
  rcases this with rfl | rfl
  · exact ⟨o, hi, h1⟩
  · exact ⟨o', hj, h2⟩
/-- one of three -/
theorem threeV (hτ : TauOk P τ) (i j k : Nat) {o o' o'' : Oper} {fuel : Nat} (fuel' : Nat) {listed : Array Bool} (l1 l2 l3 : Array Bool) (hf : fuel = fuel' + 1) (hm1 : listed.setIfInBounds i true = l1) (hm2 : listed.setIfInBounds j true = l2) (hm3 : listed.setIfInBounds k true = l3) (hi : l[i]? = some o) (hj : l[j]? = some o') (hk : l[k]? = some o'') (hr : Region.ready .any l.toArray listed = [i, j, k])
    (h1 : wpL P τ n l (fun s' w' => (S w' ∨ waitsV .any l.toArray i = true) ∧ EvAnyV P n S l K fuel' l1 s' w') (fun _ _ _ => False) [o] s w)
    (h2 : wpL P τ n l (fun s' w' => (S w' ∨ waitsV .any l.toArray j = true) ∧ EvAnyV P n S l K fuel' l2 s' w') (fun _ _ _ => False) [o'] s w)
    (h3 : wpL P τ n l (fun s' w' => (S w' ∨ waitsV .any l.toArray k = true) ∧ EvAnyV P n S l K fuel' l3 s' w') (fun _ _ _ => False) [o''] s w) : EvAnyV P n S l K fuel listed s w := by
  subst hf hm1 hm2 hm3
  refine allV hτ [i, j, k] hr (by simp) fun m hm => ?_
  have : m = i ∨ m = j ∨ m = k := by simpa using hm
  rcases this with rfl | rfl | rfl
  · exact ⟨o, hi, h1⟩
  · exact ⟨o', hj, h2⟩
  · exact ⟨o'', hk, h3⟩

theorem doneV {fuel : Nat} {listed : Array Bool} (hr : Region.ready .any l.toArray listed = []) (h : K .normal s w) : EvAnyV P n S l K fuel listed s w := by
  unfold EvAnyV
  intro hc a hF
  cases fuel with
  | zero => exact ⟨hr, rfl, s, hF, h⟩
  | succ f => exact ⟨fun _ => ⟨rfl, s, hF, h⟩, by rw [hr]; simp⟩

theorem weakV {fuel : Nat} {listed : Array Bool} (sl : List (Nat × Value)) (hs : Has s sl) (h : EvAnyV P n S l K fuel listed ⟨sl, s.d⟩ w) : EvAnyV P n S l K fuel listed s w := by
  unfold EvAnyV at *
  intro hc a hF
  exact h hc a ⟨hF.size, hF.defers, fun t v hv => hF.has t v (hs.get t v hv)⟩
end
end Go.Wx

