/-
  Own texts put together: CdB, CdC, CdD, CdE.
-/
import Derived.Test.YtbggaljmollhmaaGreatDoorMg04
/-
  Code: the checker's parts: in, family, ctor, goes, plain.
-/
set_option linter.unusedSimpArgs false
set_option linter.unusedVariables false
namespace Go.Proofs.YtbggaljmollhmaaGreatDoor
open Go.Wx Cd

theorem in_ct (n lo hi : Int) (w : World) : CallOk Tryz.prog 59 ∧ Calls Tryz.prog 59 #[.int .i64 n, .int .i64 lo, .int .i64 hi] w (fun e w' => e = .returned (.bool (inM n lo hi)) ∧ Kp [] w w') := by
  refine ⟨⟨_, Tryz.func59, rfl, by decide⟩, ?_⟩
  refine calls_of (args := [_, _, _]) 15 [.tmp 6] τok Tryz.func59 rfl rfl rfl (Nat.le_of_ble_eq_true rfl) ?_
  refine br_dec (fun h => ?_) (fun h => ?_)
  · exact ⟨by simp [one, inM, h], Kp.refl _ _⟩
  · exact ⟨by simp [one, inM, h], Kp.refl _ _⟩

/-- the cells of a checker -/
def ckCells (bc : Nat) (ac : Option Addr) (len cc : Nat) (fl : Int) (hb hc : Nat) (most : Int) : List Value :=
  [.pointer (some ⟨bc, 0, none⟩), .slice ac len cc, .int .i64 fl, .slice (some ⟨hb, 0, none⟩) len hc, .int .i64 most]

/-- what a checker is given, and what stays -/
structure CkIn (C : Mem) (c : Cod) (code : List Ins) (p bc hb : Nat) (ac : Option Addr) : Prop where
  cod : rCod.At C bc 0 c
  code : Sl rIns C ac code
  apart : ∀ b o v, C b o v → b ≠ p ∧ b ≠ hb
  ne : p ≠ hb

/-- how a checker stands -/
structure Ck (C : Mem) (bc hb : Nat) (ac : Option Addr) (len cc : Nat) (fl : Int) (hc p : Nat) (s : List Int × Int) (w : World) : Prop where
  sub : Sub C w
  blk : Bk w.heap p (ckCells bc ac len cc fl hb hc s.2) 179
  row : RowI w.heap hb s.1 3
  len : s.1.length = len

theorem Ck.kp {C : Mem} {bc hb : Nat} {ac : Option Addr} {len cc : Nat} {fl : Int} {hc p : Nat} {s : List Int × Int} {w w' : World} (h : Ck C bc hb ac len cc fl hc p s w) (k : Kp [] w w') : Ck C bc hb ac len cc fl hc p s w' :=
  ⟨h.sub.tr k, h.blk.kp k (by simp), h.row.kp k (by simp), h.len⟩

theorem cod_cells {C : Mem} {b : Nat} {c : Cod} (h : rCod.At C b 0 c) : ∃ a1 c1 a2 c2 a3 c3 a4 c4, C b 0 (.int .i64 c.nat) ∧ C b 1 (.slice a1 c.shapes.length c1) ∧ C b 2 (.slice a2 c.funs.length c2) ∧ C b 3 (.slice a3 c.bodies.length c3) ∧ C b 4 (.slice a4 c.main.length c4) ∧
    Sl rShp C a1 c.shapes ∧ Sl rFn C a2 c.funs ∧ Sl (rSl rIns) C a3 c.bodies ∧ Sl rIns C a4 c.main ∧ I64 c.nat := by
  obtain ⟨cs, ⟨a1, c1, a2, c2, a3, c3, a4, c4, rfl, h1, h2, h3, h4, h5⟩, hc⟩ := h
  simp only [Nat.zero_add] at hc
  exact ⟨a1, c1, a2, c2, a3, c3, a4, c4, hc 0 _ rfl, hc 1 _ rfl, hc 2 _ rfl, hc 3 _ rfl, hc 4 _ rfl, h1, h2, h3, h4, h5⟩

section
variable {C : Mem} {c : Cod} {code : List Ins} {p bc hb : Nat} {ac : Option Addr} {cc : Nat} {fl : Int} {hc : Nat} {s : List Int × Int} {w : World}

theorem family_ct (hi : CkIn C c code p bc hb ac) (hl : c.shapes.length ≤ c.bodies.length) (hk : Ck C bc hb ac code.length cc fl hc p s w) (e : Int) :
    CallOk Tryz.prog 168 ∧ Calls Tryz.prog 168 #[.pointer (some ⟨p, 0, none⟩), .int .i64 e] w (fun r w' => r = .returned (.bool (famM c e)) ∧ Kp [] w w') := by
  refine ⟨⟨_, Tryz.func168, rfl, by decide⟩, ?_⟩
  refine calls_of (args := [_, _]) 30 [.tmp 4] τok Tryz.func168 rfl rfl rfl (Nat.le_of_ble_eq_true rfl) ?_
  obtain ⟨a1, c1, a2, c2, a3, c3, a4, c4, k0, k1, k2, k3, k4, h1, h2, h3, h4, h5⟩ := cod_cells hi.cod
  have hS := hk.sub
  have hB : Bk w.heap p [.pointer (some ⟨bc, 0, none⟩), .slice ac code.length cc, .int .i64 fl, .slice (some ⟨hb, 0, none⟩) code.length hc, .int .i64 s.2] 179 := hk.blk
  have hsl := h1.1
  have hbl := h3.1
  (repeat first | refine ldC ‹Sub _ _› (by assumption) ?_ | refine ld (Cl.cell (by first | assumption | exact Bk.cl (by assumption) rfl)) ?_ | refine ldK (by first | assumption | exact Bk.cl (by assumption) rfl | exact ‹Sub _ _› _ _ _ (by assumption)) ?_)
  refine int64 (by omega) (by omega) ?_
  refine ev_call (in_ct _ _ _ w) ?_
  rintro r w1 ⟨rfl, hk1⟩
  have hS1 := hS.tr hk1
  have hB1 := hB.kp hk1 (by simp)
  refine br (fun ht => ?_) (fun ht => ?_)
  · have hin : 0 ≤ e ∧ e ≤ c.shapes.length - 1 := by simpa [inM] using ht
    (repeat first | refine ldC ‹Sub _ _› (by assumption) ?_ | refine ld (Cl.cell (by first | assumption | exact Bk.cl (by assumption) rfl)) ?_ | refine ldK (by first | assumption | exact Bk.cl (by assumption) rfl | exact ‹Sub _ _› _ _ _ (by assumption)) ?_)
    obtain ⟨x, hx⟩ : ∃ x, c.bodies[e.toNat]? = some x := ⟨c.bodies[e.toNat]'(by omega), by simp⟩
    obtain ⟨b, o, rfl, a', cap, hcell, hsl'⟩ := h3.sl hx
    refine ix e.toNat (by omega) (by omega) ?_
    (repeat first | refine ldC ‹Sub _ _› (by assumption) ?_ | refine ld (Cl.cell (by first | assumption | exact Bk.cl (by assumption) rfl)) ?_ | refine ldK (by first | assumption | exact Bk.cl (by assumption) rfl | exact ‹Sub _ _› _ _ _ (by assumption)) ?_)
    refine ⟨?_, hk1⟩
    simp only [one, famM, ht, hx, Option.getD_some, Bool.true_and]
    simp
  · refine ⟨?_, hk1⟩
    simp only [one, famM, ht, Bool.false_and]

theorem ctor_ct (hi : CkIn C c code p bc hb ac) (hl : c.shapes.length ≤ c.bodies.length) (hk : Ck C bc hb ac code.length cc fl hc p s w) (a args : Int) (ha : I64 a) :
    CallOk Tryz.prog 169 ∧ Calls Tryz.prog 169 #[.pointer (some ⟨p, 0, none⟩), .int .i64 a, .int .i64 args] w (fun r w' => r = .returned (.bool (ctorM c a args)) ∧ Kp [] w w') := by
  refine ⟨⟨_, Tryz.func169, rfl, by decide⟩, ?_⟩
  refine calls_of (args := [_, _, _]) 45 [.tmp 6] τok Tryz.func169 rfl rfl rfl (Nat.le_of_ble_eq_true rfl) ?_
  refine br_dec (fun h0 => ?_) (fun h0 => ?_)
  · exact ⟨by simp [one, ctorM, show ¬ 0 ≤ a by omega], Kp.refl _ _⟩
  have h0' : 0 ≤ a := by omega
  refine quo64 h0' ha.2 (by omega) ?_
  refine ev_call (family_ct hi hl hk (a / 16)) ?_
  rintro r w1 ⟨rfl, hk1⟩
  have hkk := hk.kp hk1
  refine br (fun ht => ?_) (fun ht => ?_)
  · have hf : famM c (a / 16) = false := by simpa using ht
    exact ⟨by simp [one, ctorM, hf], hk1⟩
  have hf : famM c (a / 16) = true := by simpa using ht
  have hin : 0 ≤ a / 16 ∧ a / 16 ≤ c.shapes.length - 1 := by
    have := hf
    simp [famM, inM] at this
    exact this.1
  obtain ⟨a1, c1, a2, c2, a3, c3, a4, c4, k0, k1, k2, k3, k4, h1, h2, h3, h4, h5⟩ := cod_cells hi.cod
  have hS := hkk.sub
  have hB : Bk w1.heap p [.pointer (some ⟨bc, 0, none⟩), .slice ac code.length cc, .int .i64 fl, .slice (some ⟨hb, 0, none⟩) code.length hc, .int .i64 s.2] 179 := hkk.blk
  obtain ⟨x, hx⟩ : ∃ x, c.shapes[(a / 16).toNat]? = some x := ⟨c.shapes[(a / 16).toNat]'(by omega), by simp⟩
  obtain ⟨b, o, rfl, a', cap, hkept, _, _, hcell⟩ := sl_shp h1 hx
  (repeat first | refine ldC ‹Sub _ _› (by assumption) ?_ | refine ld (Cl.cell (by first | assumption | exact Bk.cl (by assumption) rfl)) ?_ | refine ldK (by first | assumption | exact Bk.cl (by assumption) rfl | exact ‹Sub _ _› _ _ _ (by assumption)) ?_)
  refine quo64 h0' ha.2 (by omega) ?_
  refine ix (a / 16).toNat (by omega) (by omega) ?_
  (repeat first | refine ldC ‹Sub _ _› (by assumption) ?_ | refine ld (Cl.cell (by first | assumption | exact Bk.cl (by assumption) rfl)) ?_ | refine ldK (by first | assumption | exact Bk.cl (by assumption) rfl | exact ‹Sub _ _› _ _ _ (by assumption)) ?_)
  refine rem64 h0' (by omega) ?_
  have hkm : keptM c (a / 16) = x.kept := by simp [keptM, hx]
  refine br_dec (fun hlt => ?_) (fun hlt => ?_)
  · obtain ⟨y, hy⟩ : ∃ y, x.kept[(a % 16).toNat]? = some y := ⟨x.kept[(a % 16).toNat]'(by omega), by simp⟩
    obtain ⟨b, o, rfl, a', cap, hcell', hsl'⟩ := hkept.sl hy
    refine ix (a % 16).toNat (by omega) (by omega) ?_
    (repeat first | refine ldC ‹Sub _ _› (by assumption) ?_ | refine ld (Cl.cell (by first | assumption | exact Bk.cl (by assumption) rfl)) ?_ | refine ldK (by first | assumption | exact Bk.cl (by assumption) rfl | exact ‹Sub _ _› _ _ _ (by assumption)) ?_)
    refine ⟨?_, hk1⟩
    simp [one, ctorM, hf, hkm, hy, h0']
  · refine ⟨?_, hk1⟩
    have : x.kept[(a % 16).toNat]? = none := by simp; omega
    simp [one, ctorM, hf, hkm, this]

/-- goes on, or not -/
theorem goes_ct (hi : CkIn C c code p bc hb ac) (hk : Ck C bc hb ac code.length cc fl hc p s w) (i to h : Int) (hh : 0 ≤ h) (hi0 : 0 ≤ i) :
    CallOk Tryz.prog 133 ∧ Calls Tryz.prog 133 #[.pointer (some ⟨p, 0, none⟩), .int .i64 i, .int .i64 to, .int .i64 h] w (fun r w' => ∃ ok, r = .returned (.bool ok) ∧ Kp [p, hb] w w' ∧
      match goesM code.length i (to, h) s with
      | some s' => ok = true ∧ Ck C bc hb ac code.length cc fl hc p s' w'
      | none => ok = false) := by
  refine ⟨⟨_, Tryz.func133, rfl, by decide⟩, ?_⟩
  refine calls_of (args := [_, _, _, _]) 54 [.tmp 8] τok Tryz.func133 rfl rfl rfl (Nat.le_of_ble_eq_true rfl) ?_
  have hS := hk.sub
  have hB : Bk w.heap p [.pointer (some ⟨bc, 0, none⟩), .slice ac code.length cc, .int .i64 fl, .slice (some ⟨hb, 0, none⟩) code.length hc, .int .i64 s.2] 179 := hk.blk
  have hne := hi.ne
  have hlen := hk.len
  refine br_dec (fun h0 => ?_) (fun h0 => ?_)
  · have e : goesM code.length i (to, h) s = none := by unfold goesM; rw [if_pos (.inl h0)]
    rw [e]
    exact ⟨false, rfl, (Kp.refl [] w).weak (by simp), rfl⟩
  (repeat first | refine ldC ‹Sub _ _› (by assumption) ?_ | refine ld (Cl.cell (by first | assumption | exact Bk.cl (by assumption) rfl)) ?_ | refine ldK (by first | assumption | exact Bk.cl (by assumption) rfl | exact ‹Sub _ _› _ _ _ (by assumption)) ?_)
  refine br_dec (fun h1 => ?_) (fun h1 => ?_)
  · have e : goesM code.length i (to, h) s = none := by unfold goesM; rw [if_pos (.inr h1)]
    rw [e]
    exact ⟨false, rfl, (Kp.refl [] w).weak (by simp), rfl⟩
  obtain ⟨k, rfl⟩ : ∃ k : Nat, to = k := ⟨to.toNat, by omega⟩
  have hkl : k < s.1.length := by omega
  have e : goesM code.length i ((k : Int), h) s = if s.1.getD k 0 = -1 then some (s.1.set k h, max s.2 h) else if s.1.getD k 0 = h then some (s.1, max s.2 h) else none := by
    unfold goesM; rw [if_neg (by simp only; omega)]; simp
  rw [e]
  refine ld (hB.cl rfl).cell ?_
  refine max64 ?_
  refine st hB (by simp) rfl fun w1 hB1 hs1 hk1 => ?_
  have hB1 : Bk w1.heap p [.pointer (some ⟨bc, 0, none⟩), .slice ac code.length cc, .int .i64 fl, .slice (some ⟨hb, 0, none⟩) code.length hc, .int .i64 (max s.2 h)] 179 := hB1
  have hS1 := hS.kp hk1 fun b o v hc => by have := hi.apart b o v hc; simp; exact this.1
  have hR1 : RowI w1.heap hb s.1 3 := hk.row.kp hk1 (by simp; omega)
  (repeat first | refine ldC ‹Sub _ _› (by assumption) ?_ | refine ld (Cl.cell (by first | assumption | exact Bk.cl (by assumption) rfl)) ?_ | refine ldK (by first | assumption | exact Bk.cl (by assumption) rfl | exact ‹Sub _ _› _ _ _ (by assumption)) ?_)
  refine ix k rfl (by omega) ?_
  have hcl := RowI.cl hR1 hkl
  (repeat first | refine ldC ‹Sub _ _› (by assumption) ?_ | refine ld (Cl.cell (by first | assumption | exact Bk.cl (by assumption) rfl)) ?_ | refine ldK (by first | assumption | exact Bk.cl (by assumption) rfl | exact ‹Sub _ _› _ _ _ (by assumption)) ?_)
  refine br_dec (fun h2 => ?_) (fun h2 => ?_)
  · refine ld (hB1.cl rfl).cell ?_
    refine ix k rfl (by omega) ?_
    refine stI hR1 hkl fun w2 hR2 hs2 hk2 => ?_
    have hB2 := hB1.kp hk2 (by simp; omega)
    have hS2 := hS1.kp hk2 fun b o v hc => by have := hi.apart b o v hc; simp; exact this.2
    refine ld (hB2.cl rfl).cell ?_
    refine ix k rfl (by omega) ?_
    have hcl2 := RowI.cl hR2 (k := k) (by simpa using hkl)
    have hg : (s.1.set k h).getD k 0 = h := by simp [List.getD, hkl]
    rw [hg] at hcl2
    refine ld hcl2.cell ?_
    rw [if_pos h2]
    exact ⟨true, by simp [one], (hk1.weak (by simp)).trans hk2 (by simp), rfl, ⟨hS2, hB2, hR2, by simpa using hlen⟩⟩
  · refine ld (hB1.cl rfl).cell ?_
    refine ix k rfl (by omega) ?_
    refine ld hcl.cell ?_
    rw [if_neg h2]
    by_cases h3 : s.1.getD k 0 = h
    · rw [if_pos h3]
      exact ⟨true, by simp only [one]; rw [decide_eq_true h3], hk1.weak (by simp), rfl, ⟨hS1, hB1, hR1, hlen⟩⟩
    · rw [if_neg h3]
      exact ⟨false, by simp only [one]; rw [decide_eq_false h3], hk1.weak (by simp), rfl⟩
end
end Go.Proofs.YtbggaljmollhmaaGreatDoor

/-
  Code: the checker's plain.
-/
set_option linter.unusedSimpArgs false
set_option linter.unusedVariables false
namespace Go.Proofs.YtbggaljmollhmaaGreatDoor
open Go.Wx Cd

section
variable {C : Mem} {c : Cod} {code : List Ins} {p bc hb : Nat} {ac : Option Addr} {cc : Nat} {fl : Int} {hc : Nat} {s : List Int × Int} {w : World}

def PlainPost (c : Cod) (n : Ins) (h : Int) (w : World) (r : Ending) (w' : World) : Prop :=
  ∃ pp q ok, r = .returned (.tuple #[.int .i64 pp, .int .i64 q, .bool ok]) ∧ Kp [] w w' ∧ match plainM c n h with
    | some k => ok = true ∧ pp = k ∧ q = 1
    | none => ok = false

theorem plain_post {c : Cod} {n : Ins} {h : Int} {w w' : World} {pp : Int} {ok : Bool} (hk : Kp [] w w') (e : plainM c n h = if ok then some pp else none) : PlainPost c n h w (.returned (one [.int .i64 pp, .int .i64 1, .bool ok])) w' := by
  refine ⟨pp, 1, ok, rfl, hk, ?_⟩
  rw [e]
  cases ok <;> simp

theorem plain_ct (hi : CkIn C c code p bc hb ac) (hl : c.shapes.length ≤ c.bodies.length) (hk : Ck C bc hb ac code.length cc fl hc p s w) (n : Ins) (an : Option Addr) (tc : Nat) (h : Int) (hh : 0 ≤ h ∧ h ≤ 4611686018427387904) (na : I64 n.a) (nb : I64 n.b) :
    CallOk Tryz.prog 135 ∧ Calls Tryz.prog 135 #[.pointer (some ⟨p, 0, none⟩), .agg #[.int .i64 n.op, .int .i64 n.a, .int .i64 n.b, .slice an n.to.length tc], .int .i64 h] w (PlainPost c n h w) := by
  refine ⟨⟨_, Tryz.func135, rfl, by decide⟩, ?_⟩
  refine calls_ev (args := [_, _, _]) 153 [.tmp 6, .tmp 7, .tmp 8] Tryz.func135 rfl rfl rfl (Nat.le_of_ble_eq_true rfl) ?_
  obtain ⟨a1, c1, a2, c2, a3, c3, a4, c4, k0, k1, k2, k3, k4, h1, h2, h3, h4, h5⟩ := cod_cells hi.cod
  have hs1 := h1.1
  have hs2 := h2.1
  have hs3 := h3.1
  refine ev_seq τok ?_
  refine new fun bn w1 hbn hN hsn hk1 => ?_
  have hN : Bk w1.heap bn [.int .i64 n.op, .int .i64 n.a, .int .i64 n.b, .slice an n.to.length tc] 43 := hN
  have hS : Sub C w1 := hk.sub.tr hk1
  have hkk := hk.kp hk1
  have hB : Bk w1.heap p [.pointer (some ⟨bc, 0, none⟩), .slice ac code.length cc, .int .i64 fl, .slice (some ⟨hb, 0, none⟩) code.length hc, .int .i64 s.2] 179 := hkk.blk
  refine ev_mid τok (fun z : Bool => [(0, .pointer (some ⟨p, 0, none⟩)), (2, .int .i64 h), (4, .pointer (some ⟨bn, 0, none⟩)), (9, .bool z)]) (fun z w' => z = n.zero ∧ w1 = w') ?_ ?_
  · (repeat first | refine ldC ‹Sub _ _› (by assumption) ?_ | refine ld (Cl.cell (by first | assumption | exact Bk.cl (by assumption) rfl)) ?_ | refine ldK (by first | assumption | exact Bk.cl (by assumption) rfl | exact ‹Sub _ _› _ _ _ (by assumption)) ?_)
    refine br_dec (fun ha => ?_) (fun ha => ?_)
    · (repeat first | refine ldC ‹Sub _ _› (by assumption) ?_ | refine ld (Cl.cell (by first | assumption | exact Bk.cl (by assumption) rfl)) ?_ | refine ldK (by first | assumption | exact Bk.cl (by assumption) rfl | exact ‹Sub _ _› _ _ _ (by assumption)) ?_)
      exact ⟨_, rfl, ⟨rfl, rfl, rfl, rfl, trivial⟩, by simp [Ins.zero, ha], rfl⟩
    · exact ⟨_, rfl, ⟨rfl, rfl, rfl, rfl, trivial⟩, by simp [Ins.zero, ha], rfl⟩
  rintro _ _ ⟨rfl, rfl⟩
  refine ev_of τok ?_
  (repeat first | refine ldC ‹Sub _ _› (by assumption) ?_ | refine ld (Cl.cell (by first | assumption | exact Bk.cl (by assumption) rfl)) ?_ | refine ldK (by first | assumption | exact Bk.cl (by assumption) rfl | exact ‹Sub _ _› _ _ _ (by assumption)) ?_)
  refine br_dec (fun o1 => ?_) (fun o1 => ?_)
  · exact plain_post hk1 (by unfold plainM; rw [if_pos o1])
  refine br_dec (fun o2 => ?_) (fun o2 => ?_)
  · refine drawQ τok (fun w' => Kp [] w1 w') (by kernel_rfl) ((Kp.refl [] w1).dr _) ?_
    (repeat first | refine ldC ‹Sub _ _› (by assumption) ?_ | refine ld (Cl.cell (by first | assumption | exact Bk.cl (by assumption) rfl)) ?_ | refine ldK (by first | assumption | exact Bk.cl (by assumption) rfl | exact ‹Sub _ _› _ _ _ (by assumption)) ?_)
    refine callK (fun w' hk' => in_ct _ _ _ w') ?_
    refine br (fun ht => ?_) (fun ht => ?_)
    · (repeat first | refine ldC ‹Sub _ _› (by assumption) ?_ | refine ld (Cl.cell (by first | assumption | exact Bk.cl (by assumption) rfl)) ?_ | refine ldK (by first | assumption | exact Bk.cl (by assumption) rfl | exact ‹Sub _ _› _ _ _ (by assumption)) ?_)
      intro w2 hk2
      exact plain_post (hk1.tr hk2) (by unfold plainM; rw [if_neg o1, if_pos o2, ht, Bool.true_and])
    · intro w2 hk2
      exact plain_post (hk1.tr hk2) (by unfold plainM; rw [if_neg o1, if_pos o2, ht, Bool.false_and])
  refine br_dec (fun o3 => ?_) (fun o3 => ?_)
  · refine drawQ τok (fun w' => Kp [] w1 w') (by kernel_rfl) ((Kp.refl [] w1).dr _) ?_
    (repeat first | refine ldC ‹Sub _ _› (by assumption) ?_ | refine ld (Cl.cell (by first | assumption | exact Bk.cl (by assumption) rfl)) ?_ | refine ldK (by first | assumption | exact Bk.cl (by assumption) rfl | exact ‹Sub _ _› _ _ _ (by assumption)) ?_)
    refine int64 (by omega) (by omega) ?_
    refine callK (fun w' hk' => in_ct _ _ _ w') ?_
    refine br (fun ht => ?_) (fun ht => ?_)
    · (repeat first | refine ldC ‹Sub _ _› (by assumption) ?_ | refine ld (Cl.cell (by first | assumption | exact Bk.cl (by assumption) rfl)) ?_ | refine ldK (by first | assumption | exact Bk.cl (by assumption) rfl | exact ‹Sub _ _› _ _ _ (by assumption)) ?_)
      intro w2 hk2
      exact plain_post (hk1.tr hk2) (by unfold plainM; rw [if_neg o1, if_neg o2, if_pos o3, ht, Bool.true_and])
    · intro w2 hk2
      exact plain_post (hk1.tr hk2) (by unfold plainM; rw [if_neg o1, if_neg o2, if_pos o3, ht, Bool.false_and])
  refine br_dec (fun o4 => ?_) (fun o4 => ?_)
  · refine drawQ τok (fun w' => Kp [] w1 w') (by kernel_rfl) ((Kp.refl [] w1).dr _) ?_
    (repeat first | refine ldC ‹Sub _ _› (by assumption) ?_ | refine ld (Cl.cell (by first | assumption | exact Bk.cl (by assumption) rfl)) ?_ | refine ldK (by first | assumption | exact Bk.cl (by assumption) rfl | exact ‹Sub _ _› _ _ _ (by assumption)) ?_)
    refine int64 (by omega) (by omega) ?_
    refine callK (fun w' hk' => in_ct _ _ _ w') ?_
    refine br (fun ht => ?_) (fun ht => ?_)
    · have hin : 0 ≤ n.a ∧ n.a ≤ c.funs.length - 1 := by simpa [inM] using ht
      obtain ⟨x, hx⟩ : ∃ x, c.funs[n.a.toNat]? = some x := ⟨c.funs[n.a.toNat]'(by omega), by simp⟩
      obtain ⟨b, o, rfl, a', cap, _, _, hcell, _⟩ := sl_fn h2 hx
      (repeat first | refine ldC ‹Sub _ _› (by assumption) ?_ | refine ld (Cl.cell (by first | assumption | exact Bk.cl (by assumption) rfl)) ?_ | refine ldK (by first | assumption | exact Bk.cl (by assumption) rfl | exact ‹Sub _ _› _ _ _ (by assumption)) ?_)
      refine ix n.a.toNat (by omega) (by omega) ?_
      (repeat first | refine ldC ‹Sub _ _› (by assumption) ?_ | refine ld (Cl.cell (by first | assumption | exact Bk.cl (by assumption) rfl)) ?_ | refine ldK (by first | assumption | exact Bk.cl (by assumption) rfl | exact ‹Sub _ _› _ _ _ (by assumption)) ?_)
      intro w2 hk2
      exact plain_post (hk1.tr hk2) (by unfold plainM; rw [if_neg o1, if_neg o2, if_neg o3, if_pos o4, ht, Bool.true_and, hx]; simp)
    · intro w2 hk2
      exact plain_post (hk1.tr hk2) (by unfold plainM; rw [if_neg o1, if_neg o2, if_neg o3, if_pos o4, ht, Bool.false_and])
  refine br_dec (fun o5 => ?_) (fun o5 => ?_)
  · exact plain_post hk1 (by unfold plainM; rw [if_neg o1, if_neg o2, if_neg o3, if_neg o4, if_pos o5])
  refine br_dec (fun o7 => ?_) (fun o7 => ?_)
  · refine drawQ τok (fun w' => Kp [] w1 w') (by kernel_rfl) ((Kp.refl [] w1).dr _) ?_
    (repeat first | refine ldC ‹Sub _ _› (by assumption) ?_ | refine ld (Cl.cell (by first | assumption | exact Bk.cl (by assumption) rfl)) ?_ | refine ldK (by first | assumption | exact Bk.cl (by assumption) rfl | exact ‹Sub _ _› _ _ _ (by assumption)) ?_)
    refine int64 (by omega) (by omega) ?_
    refine callK (fun w' hk' => in_ct _ _ _ w') ?_
    refine br (fun ht => ?_) (fun ht => ?_)
    · have hin : 0 ≤ n.a ∧ n.a ≤ c.bodies.length - 1 := by simpa [inM] using ht
      obtain ⟨x, hx⟩ : ∃ x, c.bodies[n.a.toNat]? = some x := ⟨c.bodies[n.a.toNat]'(by omega), by simp⟩
      obtain ⟨b, o, rfl, a', cap, hcell, hsl'⟩ := h3.sl hx
      (repeat first | refine ldC ‹Sub _ _› (by assumption) ?_ | refine ld (Cl.cell (by first | assumption | exact Bk.cl (by assumption) rfl)) ?_ | refine ldK (by first | assumption | exact Bk.cl (by assumption) rfl | exact ‹Sub _ _› _ _ _ (by assumption)) ?_)
      refine ix n.a.toNat (by omega) (by omega) ?_
      (repeat first | refine ldC ‹Sub _ _› (by assumption) ?_ | refine ld (Cl.cell (by first | assumption | exact Bk.cl (by assumption) rfl)) ?_ | refine ldK (by first | assumption | exact Bk.cl (by assumption) rfl | exact ‹Sub _ _› _ _ _ (by assumption)) ?_)
      refine br_dec (fun hp => ?_) (fun hp => ?_)
      · (repeat first | refine ldC ‹Sub _ _› (by assumption) ?_ | refine ld (Cl.cell (by first | assumption | exact Bk.cl (by assumption) rfl)) ?_ | refine ldK (by first | assumption | exact Bk.cl (by assumption) rfl | exact ‹Sub _ _› _ _ _ (by assumption)) ?_)
        intro w2 hk2
        exact plain_post (hk1.tr hk2) (by unfold plainM; rw [if_neg o1, if_neg o2, if_neg o3, if_neg o4, if_neg o5, if_pos o7, ht, hx, Option.getD_some, decide_eq_true (show 0 < x.length by omega), Bool.true_and, Bool.true_and])
      · intro w2 hk2
        exact plain_post (hk1.tr hk2) (by unfold plainM; rw [if_neg o1, if_neg o2, if_neg o3, if_neg o4, if_neg o5, if_pos o7, ht, hx, Option.getD_some, decide_eq_false (show ¬ 0 < x.length by omega), Bool.true_and, Bool.false_and])
    · intro w2 hk2
      exact plain_post (hk1.tr hk2) (by unfold plainM; rw [if_neg o1, if_neg o2, if_neg o3, if_neg o4, if_neg o5, if_pos o7, ht, Bool.false_and, Bool.false_and])
  refine br_dec (fun o8 => ?_) (fun o8 => ?_)
  · refine drawQ τok (fun w' => Kp [] w1 w') (by kernel_rfl) ((Kp.refl [] w1).dr _) ?_
    (repeat first | refine ldC ‹Sub _ _› (by assumption) ?_ | refine ld (Cl.cell (by first | assumption | exact Bk.cl (by assumption) rfl)) ?_ | refine ldK (by first | assumption | exact Bk.cl (by assumption) rfl | exact ‹Sub _ _› _ _ _ (by assumption)) ?_)
    refine callK (fun w' hk' => ctor_ct hi hl (hkk.kp hk') n.a n.b na) ?_
    intro w2 hk2
    exact plain_post (hk1.tr hk2) (by unfold plainM; rw [if_neg o1, if_neg o2, if_neg o3, if_neg o4, if_neg o5, if_neg o7, if_pos o8])
  refine br_dec (fun o10 => ?_) (fun o10 => ?_)
  · exact plain_post hk1 (by unfold plainM; rw [if_neg o1, if_neg o2, if_neg o3, if_neg o4, if_neg o5, if_neg o7, if_neg o8, if_pos o10])
  refine br_dec (fun o12 => ?_) (fun o12 => ?_)
  · refine drawQ τok (fun w' => Kp [] w1 w') (by kernel_rfl) ((Kp.refl [] w1).dr _) ?_
    (repeat first | refine ldC ‹Sub _ _› (by assumption) ?_ | refine ld (Cl.cell (by first | assumption | exact Bk.cl (by assumption) rfl)) ?_ | refine ldK (by first | assumption | exact Bk.cl (by assumption) rfl | exact ‹Sub _ _› _ _ _ (by assumption)) ?_)
    refine callK (fun w' hk' => in_ct _ _ _ w') ?_
    refine br (fun ht => ?_) (fun ht => ?_)
    · (repeat first | refine ldC ‹Sub _ _› (by assumption) ?_ | refine ld (Cl.cell (by first | assumption | exact Bk.cl (by assumption) rfl)) ?_ | refine ldK (by first | assumption | exact Bk.cl (by assumption) rfl | exact ‹Sub _ _› _ _ _ (by assumption)) ?_)
      intro w2 hk2
      exact plain_post (hk1.tr hk2) (by unfold plainM; rw [if_neg o1, if_neg o2, if_neg o3, if_neg o4, if_neg o5, if_neg o7, if_neg o8, if_neg o10, if_pos o12, ht, Bool.true_and])
    · intro w2 hk2
      exact plain_post (hk1.tr hk2) (by unfold plainM; rw [if_neg o1, if_neg o2, if_neg o3, if_neg o4, if_neg o5, if_neg o7, if_neg o8, if_neg o10, if_pos o12, ht, Bool.false_and])
  refine br_dec (fun o14 => ?_) (fun o14 => ?_)
  · refine drawQ τok (fun w' => Kp [] w1 w') (by kernel_rfl) ((Kp.refl [] w1).dr _) ?_
    (repeat first | refine ldC ‹Sub _ _› (by assumption) ?_ | refine ld (Cl.cell (by first | assumption | exact Bk.cl (by assumption) rfl)) ?_ | refine ldK (by first | assumption | exact Bk.cl (by assumption) rfl | exact ‹Sub _ _› _ _ _ (by assumption)) ?_)
    refine min64Q ?_
    refine int64 (by have := na.1; omega) (by have := na.1; omega) ?_
    (repeat first | refine ldC ‹Sub _ _› (by assumption) ?_ | refine ld (Cl.cell (by first | assumption | exact Bk.cl (by assumption) rfl)) ?_ | refine ldK (by first | assumption | exact Bk.cl (by assumption) rfl | exact ‹Sub _ _› _ _ _ (by assumption)) ?_)
    refine br_dec (fun hp => ?_) (fun hp => ?_)
    · (repeat first | refine ldC ‹Sub _ _› (by assumption) ?_ | refine ld (Cl.cell (by first | assumption | exact Bk.cl (by assumption) rfl)) ?_ | refine ldK (by first | assumption | exact Bk.cl (by assumption) rfl | exact ‹Sub _ _› _ _ _ (by assumption)) ?_)
      intro w2 hk2
      exact plain_post (hk1.tr hk2) (by unfold plainM; rw [if_neg o1, if_neg o2, if_neg o3, if_neg o4, if_neg o5, if_neg o7, if_neg o8, if_neg o10, if_neg o12, if_pos o14, decide_eq_true hp, Bool.true_and])
    · intro w2 hk2
      exact plain_post (hk1.tr hk2) (by unfold plainM; rw [if_neg o1, if_neg o2, if_neg o3, if_neg o4, if_neg o5, if_neg o7, if_neg o8, if_neg o10, if_neg o12, if_pos o14, decide_eq_false hp, Bool.false_and])
  refine ⟨0, 0, false, rfl, hk1, ?_⟩
  unfold plainM
  rw [if_neg o1, if_neg o2, if_neg o3, if_neg o4, if_neg o5, if_neg o7, if_neg o8, if_neg o10, if_neg o12, if_neg o14]
end
end Go.Proofs.YtbggaljmollhmaaGreatDoor

/-
  Code: the checker's arms and one.
-/
set_option linter.unusedSimpArgs false
set_option linter.unusedVariables false
namespace Go.Proofs.YtbggaljmollhmaaGreatDoor
open Go.Wx Cd

section
variable {C : Mem} {c : Cod} {code : List Ins} {p bc hb : Nat} {ac : Option Addr} {cc : Nat} {fl : Int} {hc : Nat} {s : List Int × Int} {w : World}

/-- what comes of a step of the checker: the next state, or not -/
def StepPost (C : Mem) (bc hb : Nat) (ac : Option Addr) (len cc : Nat) (fl : Int) (hc p : Nat) (w : World) (res : Option (List Int × Int)) (r : Ending) (w' : World) : Prop :=
  ∃ ok, r = .returned (.bool ok) ∧ Kp [p, hb] w w' ∧ match res with
    | some s' => ok = true ∧ Ck C bc hb ac len cc fl hc p s' w'
    | none => ok = false

theorem step_no {C : Mem} {bc hb : Nat} {ac : Option Addr} {len cc : Nat} {fl : Int} {hc p : Nat} {w w' : World} {res : Option (List Int × Int)} (h : Kp [p, hb] w w') (e : res = none) : StepPost C bc hb ac len cc fl hc p w res (.returned (one [.bool false])) w' :=
  ⟨false, rfl, h, by rw [e]⟩

theorem arms_ct (hi : CkIn C c code p bc hb ac) (hl : c.shapes.length ≤ c.bodies.length) (hk : Ck C bc hb ac code.length cc fl hc p s w) (i : Nat) (n : Ins) (an : Option Addr) (tc : Nat) (h : Int) (hh : 1 ≤ h ∧ h ≤ 4611686018427387904) (na : I64 n.a) (nb : I64 n.b) (hto : Sl rInt C an n.to) :
    CallOk Tryz.prog 134 ∧ Calls Tryz.prog 134 #[.pointer (some ⟨p, 0, none⟩), .int .i64 i, .agg #[.int .i64 n.op, .int .i64 n.a, .int .i64 n.b, .slice an n.to.length tc], .int .i64 h] w
      (StepPost C bc hb ac code.length cc fl hc p w ((armsM c n h).bind fun l => goM code.length i l s)) := by
  generalize hRES : ((armsM c n h).bind fun l => goM code.length i l s) = RES
  refine ⟨⟨_, Tryz.func134, rfl, by decide⟩, ?_⟩
  refine calls_ev (args := [_, _, _, _]) 106 [.tmp 8] Tryz.func134 rfl rfl rfl (Nat.le_of_ble_eq_true rfl) ?_
  refine ev_seq τok ?_
  obtain ⟨a1, c1, a2, c2, a3, c3, a4, c4, k0, k1, k2, k3, k4, h1, h2, h3, h4, h5⟩ := cod_cells hi.cod
  have hs1 := h1.1
  have htl := hto.1
  have hplt : p < w.heap.size := hk.blk.lt
  have hblt : hb < w.heap.size := Bk.lt hk.row
  refine new fun bn w1 hbn hN hsn hk1 => ?_
  have hN : Bk w1.heap bn [.int .i64 n.op, .int .i64 n.a, .int .i64 n.b, .slice an n.to.length tc] 43 := hN
  have hS : Sub C w1 := hk.sub.tr hk1
  have hkk := hk.kp hk1
  have hB : Bk w1.heap p [.pointer (some ⟨bc, 0, none⟩), .slice ac code.length cc, .int .i64 fl, .slice (some ⟨hb, 0, none⟩) code.length hc, .int .i64 s.2] 179 := hkk.blk
  refine ev_seq' τok ?_
  refine ev_mid τok (fun z : Bool => [(0, .pointer (some ⟨p, 0, none⟩)), (1, .int .i64 i), (3, .int .i64 h), (6, .pointer (some ⟨bn, 0, none⟩)), (59, .bool z)])
    (fun z w2 => Kp [] w1 w2 ∧ if z then armsM c n h = none else famM c n.a = true ∧ n.a ≠ c.nat ∧ 1 ≤ n.b ∧ n.b = (keptM c n.a).length ∧ (n.to.length : Int) = 2 * n.b) ?_ ?_
  · refine drawQ τok (fun w' => Kp [] w1 w') (by kernel_rfl) ((Kp.refl [] w1).dr _) ?_
    (repeat first | refine ldC ‹Sub _ _› (by assumption) ?_ | refine ld (Cl.cell (by first | assumption | exact Bk.cl (by assumption) rfl)) ?_ | refine ldK (by first | assumption | exact Bk.cl (by assumption) rfl | exact ‹Sub _ _› _ _ _ (by assumption)) ?_)
    refine callK (fun w' hk' => family_ct hi hl (hkk.kp hk') n.a) ?_
    have hno : ∀ w2, Kp [] w1 w2 → armsM c n h = none → Kp [] w1 w2 ∧ if true = true then armsM c n h = none else famM c n.a = true ∧ n.a ≠ c.nat ∧ 1 ≤ n.b ∧ n.b = (keptM c n.a).length ∧ (n.to.length : Int) = 2 * n.b := fun w2 hk2 e =>
      ⟨hk2, by rw [if_pos rfl]; exact e⟩
    refine br (fun ht => ?_) (fun ht => ?_)
    · intro w2 hk2
      exact ⟨true, rfl, ⟨rfl, rfl, rfl, rfl, rfl, trivial⟩, hno w2 hk2 (by unfold armsM; rw [if_neg (by simp [show famM c n.a = false by simpa using ht])])⟩
    have hf : famM c n.a = true := by simpa using ht
    have hin : 0 ≤ n.a ∧ n.a ≤ c.shapes.length - 1 := by
      have := hf
      simp [famM, inM] at this
      exact this.1
    obtain ⟨x, hx⟩ : ∃ x, c.shapes[n.a.toNat]? = some x := ⟨c.shapes[n.a.toNat]'(by omega), by simp⟩
    have hkm : keptM c n.a = x.kept := by simp [keptM, hx]
    obtain ⟨b, o, rfl, a', cap, hkept, _, _, hcell⟩ := sl_shp h1 hx
    have hkl := hkept.1
    (repeat first | refine ldC ‹Sub _ _› (by assumption) ?_ | refine ld (Cl.cell (by first | assumption | exact Bk.cl (by assumption) rfl)) ?_ | refine ldK (by first | assumption | exact Bk.cl (by assumption) rfl | exact ‹Sub _ _› _ _ _ (by assumption)) ?_)
    refine br_dec (fun e1 => ?_) (fun e1 => ?_)
    · intro w2 hk2
      exact ⟨true, rfl, ⟨rfl, rfl, rfl, rfl, rfl, trivial⟩, hno w2 hk2 (by unfold armsM; rw [if_neg]; simp [e1])⟩
    (repeat first | refine ldC ‹Sub _ _› (by assumption) ?_ | refine ld (Cl.cell (by first | assumption | exact Bk.cl (by assumption) rfl)) ?_ | refine ldK (by first | assumption | exact Bk.cl (by assumption) rfl | exact ‹Sub _ _› _ _ _ (by assumption)) ?_)
    refine br_dec (fun e2 => ?_) (fun e2 => ?_)
    · intro w2 hk2
      exact ⟨true, rfl, ⟨rfl, rfl, rfl, rfl, rfl, trivial⟩, hno w2 hk2 (by unfold armsM; rw [if_neg]; simp; intro _ _ _; omega)⟩
    (repeat first | refine ldC ‹Sub _ _› (by assumption) ?_ | refine ld (Cl.cell (by first | assumption | exact Bk.cl (by assumption) rfl)) ?_ | refine ldK (by first | assumption | exact Bk.cl (by assumption) rfl | exact ‹Sub _ _› _ _ _ (by assumption)) ?_)
    refine ix n.a.toNat (by omega) (by omega) ?_
    (repeat first | refine ldC ‹Sub _ _› (by assumption) ?_ | refine ld (Cl.cell (by first | assumption | exact Bk.cl (by assumption) rfl)) ?_ | refine ldK (by first | assumption | exact Bk.cl (by assumption) rfl | exact ‹Sub _ _› _ _ _ (by assumption)) ?_)
    refine br_dec (fun e3 => ?_) (fun e3 => ?_)
    · intro w2 hk2
      exact ⟨true, rfl, ⟨rfl, rfl, rfl, rfl, rfl, trivial⟩, hno w2 hk2 (by unfold armsM; rw [if_neg (by rw [hkm]; simp; intro _ _ _; omega)])⟩
    have e3 : n.b = x.kept.length := by simpa using e3
    (repeat first | refine ldC ‹Sub _ _› (by assumption) ?_ | refine ld (Cl.cell (by first | assumption | exact Bk.cl (by assumption) rfl)) ?_ | refine ldK (by first | assumption | exact Bk.cl (by assumption) rfl | exact ‹Sub _ _› _ _ _ (by assumption)) ?_)
    refine int64 (by omega) (by omega) ?_
    intro w2 hk2
    by_cases e4 : (n.to.length : Int) = 2 * n.b
    · exact ⟨false, rfl, ⟨rfl, rfl, rfl, rfl, by show some _ = some _; simp [e4], trivial⟩, hk2, by rw [if_neg (by simp)]; exact ⟨hf, e1, by omega, by rw [hkm]; exact e3, e4⟩⟩
    · exact ⟨true, rfl, ⟨rfl, rfl, rfl, rfl, by show some _ = some _; simp [e4], trivial⟩, hno w2 hk2 (by unfold armsM; rw [if_neg (by rw [hkm]; simp; intro _ _ _; omega)])⟩
  rintro z w2 ⟨hk2, hz⟩
  refine ev_of τok ?_
  refine br (fun hzt => ?_) (fun hzt => ?_)
  · rw [if_pos hzt] at hz
    exact step_no ((hk1.tr hk2).weak (by simp)) (by rw [← hRES, hz]; rfl)
  rw [if_neg (by simp [hzt])] at hz
  obtain ⟨hf, e1, e2, e3, e4⟩ := hz
  have hin : 0 ≤ n.a ∧ n.a ≤ c.shapes.length - 1 := by
    have := hf
    simp [famM, inM] at this
    exact this.1
  obtain ⟨x, hx⟩ : ∃ x, c.shapes[n.a.toNat]? = some x := ⟨c.shapes[n.a.toNat]'(by omega), by simp⟩
  have hkm : keptM c n.a = x.kept := by simp [keptM, hx]
  rw [hkm] at e3
  obtain ⟨b, o, rfl, a', cap, hkept, _, _, hcell⟩ := sl_shp h1 hx
  have hkl := hkept.1
  refine ev_seq' τok ?_
  refine ev_mid τok (fun _ : Unit => [(0, .pointer (some ⟨p, 0, none⟩)), (1, .int .i64 i), (3, .int .i64 h), (6, .pointer (some ⟨bn, 0, none⟩)), (71, .slice a' x.kept.length cap), (72, .int .i64 x.kept.length), (73, .int .i64 ((0 : Nat) : Int))])
    (fun _ w3 => Kp [] w2 w3) ?_ ?_
  · have hN2 := hN.kp hk2 (by simp)
    have hS2 := hS.tr hk2
    have hB2 := hB.kp hk2 (by simp)
    refine drawQ τok (fun w' => Kp [] w2 w') (by kernel_rfl) ((Kp.refl [] w2).dr _) ?_
    (repeat first | refine ldC ‹Sub _ _› (by assumption) ?_ | refine ld (Cl.cell (by first | assumption | exact Bk.cl (by assumption) rfl)) ?_ | refine ldK (by first | assumption | exact Bk.cl (by assumption) rfl | exact ‹Sub _ _› _ _ _ (by assumption)) ?_)
    refine ix n.a.toNat (by omega) (by omega) ?_
    (repeat first | refine ldC ‹Sub _ _› (by assumption) ?_ | refine ld (Cl.cell (by first | assumption | exact Bk.cl (by assumption) rfl)) ?_ | refine ldK (by first | assumption | exact Bk.cl (by assumption) rfl | exact ‹Sub _ _› _ _ _ (by assumption)) ?_)
    intro w3 hk3
    exact ⟨(), rfl, ⟨rfl, rfl, rfl, rfl, rfl, rfl, rfl, trivial⟩, hk3⟩
  rintro _ w3 hk3
  refine ev_of τok ?_
  have earm : armsM c n h = armsL x.kept n.to h := by
    unfold armsM
    rw [if_pos, hkm]
    rw [hf, hkm, decide_eq_true (show 1 ≤ n.b by omega), decide_eq_true e3, decide_eq_true e4, decide_eq_true e1]
    rfl
  rw [earm] at hRES
  have hN2 := hN.kp hk2 (by simp)
  have hk13 := (hk1.tr hk2).tr hk3
  refine lp τok (σ := Nat × (List Int × Int)) (fun q => [(0, .pointer (some ⟨p, 0, none⟩)), (1, .int .i64 i), (3, .int .i64 h), (6, .pointer (some ⟨bn, 0, none⟩)), (71, .slice a' x.kept.length cap), (72, .int .i64 x.kept.length), (73, .int .i64 q.1)])
    (fun q w' => q.1 ≤ x.kept.length ∧ Ck C bc hb ac code.length cc fl hc p q.2 w' ∧ Bk w'.heap bn [.int .i64 n.op, .int .i64 n.a, .int .i64 n.b, .slice an n.to.length tc] 43 ∧ Kp [p, hb] w w' ∧
      RES = ((armsL (x.kept.drop q.1) (n.to.drop (2 * q.1)) h).bind fun l => goM code.length i l q.2)) (fun q => x.kept.length - q.1) (0, s)
    rfl ⟨rfl, rfl, rfl, rfl, rfl, rfl, rfl, trivial⟩ ⟨Nat.zero_le _, (hkk.kp hk2).kp hk3, hN2.kp hk3 (by simp), hk13.weak (by simp), hRES.symm⟩ ?_
  clear hN hS hkk hB hN2
  rintro ⟨k, st⟩ w4 ⟨hk5, hck, hN, hkp, hres⟩
  simp only at hk5 hck hres
  refine br_dec (fun hlt => ?_) (fun hlt => ?_)
  · have hlt : k < x.kept.length := by omega
    obtain ⟨y, hy, hdk⟩ := drop_get hlt
    obtain ⟨t1, ht1, hd1⟩ := drop_get (l := n.to) (k := 2 * k) (by omega)
    obtain ⟨t2, ht2, hd2⟩ := drop_get (l := n.to) (k := 2 * k + 1) (by omega)
    have hS := hck.sub
    obtain ⟨b, o, rfl, ay, cy, hcy, hsy⟩ := hkept.sl hy
    have hyl := hsy.1
    refine ix k rfl hlt ?_
    (repeat first | refine ldC ‹Sub _ _› (by assumption) ?_ | refine ld (Cl.cell (by first | assumption | exact Bk.cl (by assumption) rfl)) ?_ | refine ldK (by first | assumption | exact Bk.cl (by assumption) rfl | exact ‹Sub _ _› _ _ _ (by assumption)) ?_)
    refine int64 (by omega) (by omega) ?_
    refine int64 (by omega) (by omega) ?_
    obtain ⟨bt, ot, rfl, hct2, _⟩ := hto.int ht2
    obtain ⟨bt', ot', e5, hct1, ht1'⟩ := hto.int ht1
    have e5 := Option.some.inj e5
    injection e5 with e6 e7
    subst e6 e7
    refine ix (2 * k + 1) (by omega) (by omega) ?_
    (repeat first | refine ldC ‹Sub _ _› (by assumption) ?_ | refine ld (Cl.cell (by first | assumption | exact Bk.cl (by assumption) rfl)) ?_ | refine ldK (by first | assumption | exact Bk.cl (by assumption) rfl | exact ‹Sub _ _› _ _ _ (by assumption)) ?_)
    have estep : armsL (x.kept.drop k) (n.to.drop (2 * k)) h = if t2 = y.length then (armsL (x.kept.drop (k + 1)) (n.to.drop (2 * (k + 1))) h).map ((t1, h - 1 + y.length) :: ·) else none := by
      rw [hdk, hd1, hd2]
      rfl
    rw [estep] at hres
    refine br_dec (fun e8 => ?_) (fun e8 => ?_)
    · exact step_no hkp (by rw [hres, if_neg e8]; rfl)
    have e8 : t2 = y.length := by simpa using e8
    rw [if_pos e8] at hres
    (repeat first | refine ldC ‹Sub _ _› (by assumption) ?_ | refine ld (Cl.cell (by first | assumption | exact Bk.cl (by assumption) rfl)) ?_ | refine ldK (by first | assumption | exact Bk.cl (by assumption) rfl | exact ‹Sub _ _› _ _ _ (by assumption)) ?_)
    refine int64 (by omega) (by omega) ?_
    refine ix (2 * k) (by omega) (by omega) ?_
    (repeat first | refine ldC ‹Sub _ _› (by assumption) ?_ | refine ld (Cl.cell (by first | assumption | exact Bk.cl (by assumption) rfl)) ?_ | refine ldK (by first | assumption | exact Bk.cl (by assumption) rfl | exact ‹Sub _ _› _ _ _ (by assumption)) ?_)
    refine int64 (by omega) (by omega) ?_
    refine int64 (by omega) (by omega) ?_
    refine ev_call (goes_ct hi hck i t1 (h - 1 + y.length) (by omega) (by omega)) ?_
    rintro r w5 ⟨ok, rfl, hk6, hpost⟩
    have hkp5 : Kp [p, hb] w w5 := hkp.trans hk6 fun x hx _ => hx
    cases hg : goesM code.length i (t1, h - 1 + y.length) st with
    | none =>
      rw [hg] at hpost
      subst hpost
      refine step_no hkp5 ?_
      rw [hres]
      cases armsL (x.kept.drop (k + 1)) (n.to.drop (2 * (k + 1))) h with
      | none => rfl
      | some l => simp [goM, hg]
    | some st' =>
      rw [hg] at hpost
      obtain ⟨rfl, hck'⟩ := hpost
      refine int64 (by omega) (by omega) ?_
      refine ⟨(k + 1, st'), by simp only; omega, rfl, ⟨rfl, rfl, rfl, rfl, rfl, rfl, rfl, trivial⟩, hlt, hck', hN.kp hk6 (by simp; omega), hkp5, ?_⟩
      simp only
      rw [hres]
      cases armsL (x.kept.drop (k + 1)) (n.to.drop (2 * (k + 1))) h with
      | none => rfl
      | some l => simp [goM, hg]
  · refine ev_of τok ?_
    refine ⟨true, rfl, hkp, ?_⟩
    rw [List.drop_eq_nil_of_le (by omega)] at hres
    rw [hres]
    exact ⟨rfl, hck⟩

end
end Go.Proofs.YtbggaljmollhmaaGreatDoor

/-
  Code: slices.Repeat; the checker's one and block.
-/
set_option linter.unusedSimpArgs false
set_option linter.unusedVariables false
namespace Go.Proofs.YtbggaljmollhmaaGreatDoor
open Go.Wx Cd

theorem and_mask (n : Nat) (h : n < 4294967296) : n &&& 4294967295 = n := by
  have := Nat.and_two_pow_sub_one_eq_mod n 32
  simp at this
  rw [this]
  omega
theorem and_mask' (n : Nat) : n &&& 4294967295 = n % 4294967296 := by
  have := Nat.and_two_pow_sub_one_eq_mod n 32
  simpa using this

theorem mul64_ct (n : Nat) (hn : n < 1099511627777) (w : World) : CallOk Tryz.prog 167 ∧ Calls Tryz.prog 167 #[.int .u64 1, .int .u64 (n : Int)] w (fun e w' => e = .returned (.tuple #[.int .u64 0, .int .u64 (n : Int)]) ∧ Kp [] w w') := by
  refine ⟨⟨_, Tryz.func167, rfl, by decide⟩, ?_⟩
  refine calls_of (args := [_, _]) 51 [.tmp 4, .tmp 5] τok Tryz.func167 rfl rfl rfl (Nat.le_of_ble_eq_true rfl) ?_
  have hy0' : n % 4294967296 < 4294967296 := by omega
  have hy1' : n / 4294967296 < 257 := by omega
  obtain ⟨y0, hy0⟩ : ∃ y0, n % 4294967296 = y0 := ⟨_, rfl⟩
  obtain ⟨y1, hy1⟩ : ∃ y1, n / 4294967296 = y1 := ⟨_, rfl⟩
  rw [hy0] at hy0'
  rw [hy1] at hy1'
  refine and64 (x := 1) (y := 4294967295) 1 (by omega) (by omega) (by decide) ?_
  refine shr64 (x := 1) (n := 32) 0 (by omega) (by decide) ?_
  refine and64 (x := n) (y := 4294967295) y0 (by omega) (by omega) (by rw [and_mask', hy0]) ?_
  refine shr64 (x := n) (n := 32) y1 (by omega) hy1 ?_
  refine u64n y0 (by omega) (by omega) ?_
  refine u64n 0 (by omega) (by omega) ?_
  refine shr64 (x := y0) (n := 32) 0 (by omega) (by omega) ?_
  refine u64n 0 (by omega) (by omega) ?_
  refine and64 (x := 0) (y := 4294967295) 0 (by omega) (by omega) (by decide) ?_
  refine shr64 (x := 0) (n := 32) 0 (by omega) (by decide) ?_
  refine u64n y1 (by omega) (by omega) ?_
  refine u64n y1 (by omega) (by omega) ?_
  refine u64n 0 (by omega) (by omega) ?_
  refine u64n 0 (by omega) (by omega) ?_
  refine shr64 (x := y1) (n := 32) 0 (by omega) (by omega) ?_
  refine u64n 0 (by omega) (by omega) ?_
  refine u64n n (by omega) (by omega) ?_
  exact ⟨rfl, Kp.refl _ _⟩

theorem mul_ct (n : Nat) (hn : n < 1099511627777) (w : World) : CallOk Tryz.prog 132 ∧ Calls Tryz.prog 132 #[.int .u64 1, .int .u64 (n : Int)] w (fun e w' => e = .returned (.tuple #[.int .u64 0, .int .u64 (n : Int)]) ∧ Kp [] w w') := by
  refine ⟨⟨_, Tryz.func132, rfl, by decide⟩, ?_⟩
  refine calls_of (args := [_, _]) 30 [.tmp 4, .tmp 5] τok Tryz.func132 rfl rfl rfl (Nat.le_of_ble_eq_true rfl) ?_
  refine ev_call (mul64_ct n hn w) ?_
  rintro e w1 ⟨rfl, hk1⟩
  exact ⟨rfl, hk1⟩

theorem repeat_ct (n : Nat) (hn : n < 1099511627777) (h0 : 0 < n) (x : Int) (b c : Nat) (w : World) (hb : Cl w.heap b 0 (.int .i64 x)) :
    CallOk Tryz.prog 95 ∧ Calls Tryz.prog 95 #[.slice (some ⟨b, 0, none⟩) 1 c, .int .i64 n] w (fun e w' => ∃ g, e = .returned (.slice (some ⟨g, 0, none⟩) n n) ∧ w.heap.size ≤ g ∧ RowI w'.heap g (List.replicate n x) 3 ∧ Kp [] w w') := by
  refine ⟨⟨_, Tryz.func95, rfl, by decide⟩, ?_⟩
  refine calls_of (args := [_, _]) 48 [.tmp 4] τok Tryz.func95 rfl rfl rfl (Nat.le_of_ble_eq_true rfl) ?_
  refine u64n 1 (by omega) rfl ?_
  refine u64n n (by omega) rfl ?_
  refine ev_call (mul_ct n hn w) ?_
  rintro e w1 ⟨rfl, hk1⟩
  refine br_dec (fun h => ?_) (fun _ => ?_)
  · exact absurd h (by omega)
  refine int64 (by omega) (by omega) ?_
  refine mk τok rfl rfl n rfl (by simp) (by omega) (by omega) fun g w2 hg hG hs2 hk2 => ?_
  have hR : RowI w2.heap g (List.replicate n (0 : Int)) 3 := by
    unfold RowI
    have : (List.replicate n (0 : Int)).map (Value.int .i64) = rep [zc 0] n := by rw [rep_one]; simp [zc]
    rw [this]
    exact hG
  have hb2 : Cl w2.heap b 0 (.int .i64 x) := hb.kp (hk1.tr hk2) (by simp)
  refine copyI τok rfl [x] hR (by simp; omega) (fun j y hj => ?_) (by simp; omega) fun w3 hR3 hs3 hk3 => ?_
  · match j with
    | 0 => simp at hj; subst hj; exact hb2
    | j + 1 => simp at hj
  have e1 : List.take 0 (List.replicate n (0 : Int)) ++ [x] ++ List.drop (0 + [x].length) (List.replicate n 0) = List.replicate 1 x ++ List.replicate (n - 1) 0 := by simp
  rw [e1] at hR3
  have hk13 : Kp [] w w3 := (hk1.tr hk2).trans hk3 (fun y hy hl => by have := hk1.size; simp at hy; omega)
  have hgl : w.heap.size ≤ g := by rw [hg]; exact hk1.size
  refine lp τok (σ := Nat) (fun m => [(7, .slice (some ⟨g, 0, none⟩) n n), (8, .int .i64 m)])
    (fun m w' => 1 ≤ m ∧ m ≤ n ∧ RowI w'.heap g (List.replicate m x ++ List.replicate (n - m) 0) 3 ∧ Kp [] w w') (fun m => n - m) 1 rfl ⟨rfl, rfl, trivial⟩ ⟨Nat.le_refl _, h0, hR3, hk13⟩ ?_
  rintro m w4 ⟨hm1, hmn, hR4, hk4⟩
  refine br_dec (fun hlt => ?_) (fun hlt => ?_)
  · have hlt : m < n := by omega
    refine drawH τok (fun w' => Kp [] w w') ?_
    refine any_reads τok [0, 1, 2, 3, 4, 5, 6] 3 #[true, true, true, true, true, true, true, false, false, false] rfl rfl (by kernel_rfl) (by kernel_rfl) (by kernel_rfl) (hk4.dr _) ?_
    refine slcLQ τok rfl m _ rfl (by omega) (sliced_lo hlt) ?_
    refine slcHQ τok rfl m _ rfl (by omega) sliced_hi ?_
    refine any_next τok 7 2 #[true, true, true, true, true, true, true, true, false, false] rfl rfl rfl (by kernel_rfl) ?_
    obtain ⟨w5, hw5⟩ : ∃ w5 : World, w5 = { w4 with drawn := w4.drawn + 1 } := ⟨_, rfl⟩
    have hR5 : RowI w5.heap g (List.replicate m x ++ List.replicate (n - m) 0) 3 := by rw [hw5]; exact hR4
    have hk5 : Kp [] w w5 := by rw [hw5]; exact hk4.dr _
    rw [← hw5]
    have hml : (List.replicate (min m (n - m)) x).length = min m (n - m) := by simp
    refine copyI τok rfl (List.replicate (min m (n - m)) x) hR5 (by simp) (fun j y hj => ?_) (by simp; omega) fun w6 hR6 hs6 hk6 => ?_
    · rw [List.getElem?_replicate] at hj
      split at hj
      · have hj := Option.some.inj hj
        subst hj
        have := RowI.cl hR5 (k := j) (by simp; omega)
        rw [Nat.mul_one] at this
        have e3 : (List.replicate m x ++ List.replicate (n - m) 0).getD j 0 = x := by
          rw [List.getD_eq_getElem?_getD, List.getElem?_append_left (by simp; omega), List.getElem?_replicate]
          rw [if_pos (by omega)]
          rfl
        rw [e3] at this
        exact this
      · cases hj
    have hk6' : Kp [] w w6 := hk5.trans hk6 (fun y hy hl => by simp at hy; omega)
    refine ⟨hk6', ?_⟩
    refine any_next τok 8 1 #[true, true, true, true, true, true, true, true, true, false] rfl rfl rfl (by kernel_rfl) ?_
    refine int64 (by rw [hml]; omega) (by rw [hml]; omega) ?_
    refine ⟨hk6', ?_⟩
    refine any_next τok 9 0 #[true, true, true, true, true, true, true, true, true, true] rfl rfl rfl (by kernel_rfl) ?_
    refine ⟨hk6', ?_⟩
    refine any_done (by kernel_rfl) ?_
    refine ⟨m + min m (n - m), by omega, rfl, ⟨rfl, by show some _ = some _; simp, trivial⟩, by omega, by omega, ?_, hk6'⟩
    have e4 : List.take m (List.replicate m x ++ List.replicate (n - m) 0) ++ List.replicate (min m (n - m)) x ++ List.drop (m + (List.replicate (min m (n - m)) x).length) (List.replicate m x ++ List.replicate (n - m) 0)
        = List.replicate (m + min m (n - m)) x ++ List.replicate (n - (m + min m (n - m))) 0 := by
      rw [List.take_append_of_le_length (by simp), List.drop_append]
      simp
      omega
    rw [Nat.zero_add, Nat.mul_one, e4] at hR6
    exact hR6
  · have e2 : m = n := by omega
    subst e2
    exact ⟨g, rfl, hgl, by simpa using hR4, hk4⟩

section
variable {C : Mem} {c : Cod} {code : List Ins} {p bc hb : Nat} {ac : Option Addr} {cc : Nat} {fl : Int} {hc : Nat} {s : List Int × Int} {w : World}

theorem one_ct (hi : CkIn C c code p bc hb ac) (hco : CodOk c) (hk : Ck C bc hb ac code.length cc fl hc p s w) (i : Nat) (n : Ins) (hn : code[i]? = some n) (hlen : code.length ≤ 1048576)
    (hf : 0 ≤ fl) (hh : fl ≤ s.1.getD i 0 ∧ s.1.getD i 0 ≤ 2305843009213693952) (hfb : fl ≤ 256) :
    CallOk Tryz.prog 96 ∧ Calls Tryz.prog 96 #[.pointer (some ⟨p, 0, none⟩), .int .i64 i] w
      (StepPost C bc hb ac code.length cc fl hc p w (oneM c code.length fl i n s)) := by
  have hl : c.shapes.length ≤ c.bodies.length := by rw [hco.len]; exact Nat.le_refl _
  generalize hRES : oneM c code.length fl i n s = RES
  generalize hH : s.1.getD i 0 = h at *
  have hone : (nextM c i n h fl).bind (fun l => goM code.length i l s) = RES := by rw [← hRES, ← hH]; rfl
  refine ⟨⟨_, Tryz.func96, rfl, by decide⟩, ?_⟩
  refine calls_ev (args := [_, _]) 149 [.tmp 4] Tryz.func96 rfl rfl rfl (Nat.le_of_ble_eq_true rfl) ?_
  have hil := get_lt hn
  have hplt : p < w.heap.size := hk.blk.lt
  have hblt : hb < w.heap.size := Bk.lt hk.row
  have hS := hk.sub
  have hB : Bk w.heap p [.pointer (some ⟨bc, 0, none⟩), .slice ac code.length cc, .int .i64 fl, .slice (some ⟨hb, 0, none⟩) code.length hc, .int .i64 s.2] 179 := hk.blk
  obtain ⟨bI, oI, hac, an, tc, hto, nop, na, nb, hcells⟩ := sl_ins hi.code hn
  have hrow : Cl w.heap hb (0 + i * 1) (.int .i64 h) := by
    have := RowI.cl hk.row (k := i) (by rw [hk.len]; exact hil)
    rw [hH] at this
    exact this
  refine ev_seq τok ?_
  -- the instruction and its height are read; a block is made for the instruction
  refine ev_mid τok (fun bn : Nat => [(0, .pointer (some ⟨p, 0, none⟩)), (1, .int .i64 i), (5, .pointer (some ⟨bn, 0, none⟩)), (6, .int .i64 h)])
    (fun bn w1 => Kp [] w w1 ∧ Bk w1.heap bn [.int .i64 n.op, .int .i64 n.a, .int .i64 n.b, .slice an n.to.length tc] 43 ∧ bn ≠ p ∧ bn ≠ hb) ?_ ?_
  · subst hac
    refine drawH τok (fun w' => Kp [] w w') ?_
    refine any_reads τok [0, 1, 2, 3, 4, 5, 6, 7, 8, 9, 10, 11, 12, 13] 3 #[true, true, true, true, true, true, true, true, true, true, true, true, true, true, false, false, false] rfl rfl (by kernel_rfl) (by kernel_rfl) (by kernel_rfl) ((Kp.refl _ _).dr _) ?_
    (repeat first | refine ldC ‹Sub _ _› (by assumption) ?_ | refine ld (Cl.cell (by first | assumption | exact Bk.cl (by assumption) rfl)) ?_ | refine ldK (by first | assumption | exact Bk.cl (by assumption) rfl | exact ‹Sub _ _› _ _ _ (by assumption)) ?_)
    refine ix i rfl hil ?_
    refine ldNK [.int .i64 n.op, .int .i64 n.a, .int .i64 n.b, .slice an n.to.length tc] rfl (fun j v hj => hS _ _ _ (hcells j v hj)) ?_
    (repeat first | refine ldC ‹Sub _ _› (by assumption) ?_ | refine ld (Cl.cell (by first | assumption | exact Bk.cl (by assumption) rfl)) ?_ | refine ldK (by first | assumption | exact Bk.cl (by assumption) rfl | exact ‹Sub _ _› _ _ _ (by assumption)) ?_)
    refine ix i rfl hil ?_
    (repeat first | refine ldC ‹Sub _ _› (by assumption) ?_ | refine ld (Cl.cell (by first | assumption | exact Bk.cl (by assumption) rfl)) ?_ | refine ldK (by first | assumption | exact Bk.cl (by assumption) rfl | exact ‹Sub _ _› _ _ _ (by assumption)) ?_)
    refine any_next τok 14 2 #[true, true, true, true, true, true, true, true, true, true, true, true, true, true, true, false, false] rfl rfl rfl (by kernel_rfl) ?_
    refine new fun bn w1 hbn hN hsn hk1 => ?_
    have hk1' : Kp [] w w1 := hk1.rd
    have hbn' : bn = w.heap.size := hbn
    refine ⟨hk1', ?_⟩
    refine any_next τok 15 1 #[true, true, true, true, true, true, true, true, true, true, true, true, true, true, true, true, false] rfl rfl rfl (by kernel_rfl) ?_
    refine stN hN rfl (by simp [Value.oneCell']) fun w2 hN2 hs2 hk2 => ?_
    have hk2' : Kp [] w w2 := hk1'.newSt hbn' hk2
    refine ⟨hk2', ?_⟩
    refine any_next τok 16 0 #[true, true, true, true, true, true, true, true, true, true, true, true, true, true, true, true, true] rfl rfl rfl (by kernel_rfl) ?_
    refine ⟨hk2', ?_⟩
    refine any_done (by kernel_rfl) ?_
    exact ⟨bn, rfl, ⟨rfl, rfl, rfl, rfl, trivial⟩, hk2', hN2, by omega, by omega⟩
  rintro bn w1 ⟨hk1, hN, hnp, hnh⟩
  have hk1w : Kp [p, hb] w w1 := hk1.weak (by simp)
  have hkk := hk.kp hk1
  have hS1 := hkk.sub
  have hB1 : Bk w1.heap p [.pointer (some ⟨bc, 0, none⟩), .slice ac code.length cc, .int .i64 fl, .slice (some ⟨hb, 0, none⟩) code.length hc, .int .i64 s.2] 179 := hkk.blk
  refine ev_seq τok ?_
  (repeat first | refine ldC ‹Sub _ _› (by assumption) ?_ | refine ld (Cl.cell (by first | assumption | exact Bk.cl (by assumption) rfl)) ?_ | refine ldK (by first | assumption | exact Bk.cl (by assumption) rfl | exact ‹Sub _ _› _ _ _ (by assumption)) ?_)
  refine int64 (by omega) (by omega) ?_
  refine ev_mid τok (fun z : Bool => [(0, .pointer (some ⟨p, 0, none⟩)), (1, .int .i64 i), (5, .pointer (some ⟨bn, 0, none⟩)), (6, .int .i64 h), (7, .int .i64 (h - fl)), (8, .bool z)]) (fun z w' => z = n.zero ∧ w1 = w') ?_ ?_
  · (repeat first | refine ldC ‹Sub _ _› (by assumption) ?_ | refine ld (Cl.cell (by first | assumption | exact Bk.cl (by assumption) rfl)) ?_ | refine ldK (by first | assumption | exact Bk.cl (by assumption) rfl | exact ‹Sub _ _› _ _ _ (by assumption)) ?_)
    refine br_dec (fun ha => ?_) (fun ha => ?_)
    · (repeat first | refine ldC ‹Sub _ _› (by assumption) ?_ | refine ld (Cl.cell (by first | assumption | exact Bk.cl (by assumption) rfl)) ?_ | refine ldK (by first | assumption | exact Bk.cl (by assumption) rfl | exact ‹Sub _ _› _ _ _ (by assumption)) ?_)
      exact ⟨_, rfl, ⟨rfl, rfl, rfl, rfl, rfl, rfl, trivial⟩, by simp [Ins.zero, ha], rfl⟩
    · exact ⟨_, rfl, ⟨rfl, rfl, rfl, rfl, rfl, rfl, trivial⟩, by simp [Ins.zero, ha], rfl⟩
  rintro _ _ ⟨rfl, rfl⟩
  obtain ⟨z, hz⟩ : ∃ z, n.zero = z := ⟨_, rfl⟩
  rw [hz]
  have htl := hto.1
  have hto0 : n.to.length = 1 → ∃ b o, an = some ⟨b, o, none⟩ ∧ C b (o + 0 * 1) (.int .i64 (n.to.getD 0 0)) := fun h1 => by
    obtain ⟨y, hy⟩ : ∃ y, n.to[0]? = some y := ⟨n.to[0]'(by omega), by simp⟩
    obtain ⟨b, o, h2, h3, _⟩ := hto.int hy
    exact ⟨b, o, h2, by rw [List.getD_eq_getElem?_getD, hy]; exact h3⟩
  refine ev_of τok ?_
  (repeat first | refine ldC ‹Sub _ _› (by assumption) ?_ | refine ld (Cl.cell (by first | assumption | exact Bk.cl (by assumption) rfl)) ?_ | refine ldK (by first | assumption | exact Bk.cl (by assumption) rfl | exact ‹Sub _ _› _ _ _ (by assumption)) ?_)
  refine br_dec (fun o6 => ?_) (fun o6 => ?_)
  · -- return
    have e1 : RES = if z && decide (n.to.length = 0) && decide (h - fl = 1) then some s else none := by
      rw [← hone, ← hz]
      unfold nextM
      rw [if_pos o6]
      split <;> rfl
    refine br (fun hz1 => ?_) (fun hz1 => ?_)
    · (repeat first | refine ldC ‹Sub _ _› (by assumption) ?_ | refine ld (Cl.cell (by first | assumption | exact Bk.cl (by assumption) rfl)) ?_ | refine ldK (by first | assumption | exact Bk.cl (by assumption) rfl | exact ‹Sub _ _› _ _ _ (by assumption)) ?_)
      refine br_dec (fun h2 => ?_) (fun h2 => ?_)
      · by_cases h3 : h - fl = 1
        · refine ⟨true, by simp [one, h3], hk1w, ?_⟩
          rw [e1, hz1, decide_eq_true (show n.to.length = 0 by omega), decide_eq_true h3]
          exact ⟨rfl, hkk⟩
        · refine ⟨false, by simp [one, h3], hk1w, ?_⟩
          rw [e1, decide_eq_false h3, Bool.and_false]
          rfl
      · exact step_no hk1w (by rw [e1, decide_eq_false (show ¬ n.to.length = 0 by omega), Bool.and_false, Bool.false_and]; rfl)
    · exact step_no hk1w (by rw [e1, hz1]; rfl)
  refine br_dec (fun o13 => ?_) (fun o13 => ?_)
  · -- goto
    have e1 : RES = if z && decide (n.to.length = 1) then goesM code.length i (n.to.getD 0 0, h) s else none := by
      rw [← hone, ← hz]
      unfold nextM
      rw [if_neg o6, if_pos o13]
      split
      · simp [goM]
      · rfl
    refine br (fun hz1 => ?_) (fun hz1 => ?_)
    · (repeat first | refine ldC ‹Sub _ _› (by assumption) ?_ | refine ld (Cl.cell (by first | assumption | exact Bk.cl (by assumption) rfl)) ?_ | refine ldK (by first | assumption | exact Bk.cl (by assumption) rfl | exact ‹Sub _ _› _ _ _ (by assumption)) ?_)
      refine br_dec (fun h2 => ?_) (fun h2 => ?_)
      · obtain ⟨b, o, rfl, hcell⟩ := hto0 (by omega)
        (repeat first | refine ldC ‹Sub _ _› (by assumption) ?_ | refine ld (Cl.cell (by first | assumption | exact Bk.cl (by assumption) rfl)) ?_ | refine ldK (by first | assumption | exact Bk.cl (by assumption) rfl | exact ‹Sub _ _› _ _ _ (by assumption)) ?_)
        refine ix 0 rfl (by omega) ?_
        (repeat first | refine ldC ‹Sub _ _› (by assumption) ?_ | refine ld (Cl.cell (by first | assumption | exact Bk.cl (by assumption) rfl)) ?_ | refine ldK (by first | assumption | exact Bk.cl (by assumption) rfl | exact ‹Sub _ _› _ _ _ (by assumption)) ?_)
        refine ev_call (goes_ct hi hkk i _ h (by omega) (by omega)) ?_
        rintro r w2 ⟨ok, rfl, hk2, hpost⟩
        refine ⟨ok, rfl, hk1w.trans hk2 (fun x hx _ => hx), ?_⟩
        rw [e1, hz1, decide_eq_true (show n.to.length = 1 by omega)]
        exact hpost
      · exact step_no hk1w (by rw [e1, decide_eq_false (show ¬ n.to.length = 1 by omega), Bool.and_false]; rfl)
    · exact step_no hk1w (by rw [e1, hz1]; rfl)
  refine br_dec (fun o11 => ?_) (fun o11 => ?_)
  · -- peel
    have e1 : RES = if z && decide (n.to.length = 1) && decide (1 ≤ h - fl) then (goesM code.length i (n.to.getD 0 0, h - 1) s).bind (goesM code.length i ((i : Int) + 1, h)) else none := by
      rw [← hone, ← hz]
      unfold nextM
      rw [if_neg o6, if_neg o13, if_pos o11]
      split
      · simp [goM]
      · rfl
    refine br (fun hz1 => ?_) (fun hz1 => ?_)
    · (repeat first | refine ldC ‹Sub _ _› (by assumption) ?_ | refine ld (Cl.cell (by first | assumption | exact Bk.cl (by assumption) rfl)) ?_ | refine ldK (by first | assumption | exact Bk.cl (by assumption) rfl | exact ‹Sub _ _› _ _ _ (by assumption)) ?_)
      refine br_dec (fun h2 => ?_) (fun h2 => ?_)
      · refine br_dec (fun h3 => ?_) (fun h3 => ?_)
        · obtain ⟨b, o, rfl, hcell⟩ := hto0 (by omega)
          (repeat first | refine ldC ‹Sub _ _› (by assumption) ?_ | refine ld (Cl.cell (by first | assumption | exact Bk.cl (by assumption) rfl)) ?_ | refine ldK (by first | assumption | exact Bk.cl (by assumption) rfl | exact ‹Sub _ _› _ _ _ (by assumption)) ?_)
          refine ix 0 rfl (by omega) ?_
          (repeat first | refine ldC ‹Sub _ _› (by assumption) ?_ | refine ld (Cl.cell (by first | assumption | exact Bk.cl (by assumption) rfl)) ?_ | refine ldK (by first | assumption | exact Bk.cl (by assumption) rfl | exact ‹Sub _ _› _ _ _ (by assumption)) ?_)
          refine int64 (by omega) (by omega) ?_
          rw [hz1, decide_eq_true (show n.to.length = 1 by omega), decide_eq_true h3] at e1
          refine ev_call (goes_ct hi hkk i _ (h - 1) (by omega) (by omega)) ?_
          rintro r w2 ⟨ok, rfl, hk2, hpost⟩
          have hk2w : Kp [p, hb] w w2 := hk1w.trans hk2 (fun x hx _ => hx)
          cases hg : goesM code.length i (n.to.getD 0 0, h - 1) s with
          | none =>
            rw [hg] at hpost e1
            subst hpost
            exact step_no hk2w e1
          | some s' =>
            rw [hg] at hpost e1
            obtain ⟨rfl, hck'⟩ := hpost
            refine int64 (by omega) (by omega) ?_
            refine ev_call (goes_ct hi hck' i ((i : Int) + 1) h (by omega) (by omega)) ?_
            rintro r w3 ⟨ok, rfl, hk3, hpost⟩
            refine ⟨ok, rfl, hk2w.trans hk3 (fun x hx _ => hx), ?_⟩
            rw [e1]
            exact hpost
        · exact step_no hk1w (by rw [e1, decide_eq_false h3, Bool.and_false]; rfl)
      · exact step_no hk1w (by rw [e1, decide_eq_false (show ¬ n.to.length = 1 by omega), Bool.and_false, Bool.false_and]; rfl)
    · exact step_no hk1w (by rw [e1, hz1]; rfl)
  refine br_dec (fun o9 => ?_) (fun o9 => ?_)
  · -- switch
    have e1 : RES = if 1 ≤ h - fl then (armsM c n h).bind (fun l => goM code.length i l s) else none := by
      rw [← hone]
      unfold nextM
      rw [if_neg o6, if_neg o13, if_neg o11, if_pos o9]
      split <;> rfl
    refine br_dec (fun h3 => ?_) (fun h3 => ?_)
    · refine ldN [.int .i64 n.op, .int .i64 n.a, .int .i64 n.b, .slice an n.to.length tc] rfl (fun j v hj => by rw [Nat.zero_add]; exact hN.cl hj) ?_
      refine ev_call (arms_ct hi hl hkk i n an tc h (by omega) na nb hto) ?_
      rintro r w2 ⟨ok, rfl, hk2, hpost⟩
      refine ⟨ok, rfl, hk1w.trans hk2 (fun x hx _ => hx), ?_⟩
      rw [e1, if_pos h3]
      exact hpost
    · exact step_no hk1w (by rw [e1, if_neg h3])
  -- all others
  refine ldN [.int .i64 n.op, .int .i64 n.a, .int .i64 n.b, .slice an n.to.length tc] rfl (fun j v hj => by rw [Nat.zero_add]; exact hN.cl hj) ?_
  refine ev_call (plain_ct hi hl hkk n an tc h (by omega) na nb) ?_
  rintro r w2 ⟨pp, q, ok, rfl, hk2, hpost⟩
  have e1 : RES = match plainM c n h with
      | some p => if n.to.length = 0 ∧ p ≤ h - fl then goesM code.length i ((i : Int) + 1, h - p + 1) s else none
      | none => none := by
    rw [← hone]
    unfold nextM
    rw [if_neg o6, if_neg o13, if_neg o11, if_neg o9]
    cases plainM c n h with
    | none => rfl
    | some p =>
      simp only
      split
      · simp [goM]
      · rfl
  have hk2w : Kp [p, hb] w w2 := hk1w.trans hk2 (by simp)
  have hN2 := hN.kp hk2 (by simp)
  cases hpl : plainM c n h with
  | none =>
    rw [hpl] at hpost e1
    subst hpost
    exact step_no hk2w e1
  | some k =>
    rw [hpl] at hpost e1
    obtain ⟨rfl, rfl, rfl⟩ := hpost
    have hpos := plainM_pos hco (by omega) hpl
    (repeat first | refine ldC ‹Sub _ _› (by assumption) ?_ | refine ld (Cl.cell (by first | assumption | exact Bk.cl (by assumption) rfl)) ?_ | refine ldK (by first | assumption | exact Bk.cl (by assumption) rfl | exact ‹Sub _ _› _ _ _ (by assumption)) ?_)
    refine br_dec (fun h2 => ?_) (fun h2 => ?_)
    · refine br_dec (fun h3 => ?_) (fun h3 => ?_)
      · have e1 : RES = goesM code.length i ((i : Int) + 1, h - pp + 1) s := by rw [e1]; exact if_pos ⟨by omega, h3⟩
        refine int64 (by omega) (by omega) ?_
        refine int64 (by omega) (by omega) ?_
        refine int64 (by omega) (by omega) ?_
        refine ev_call (goes_ct hi (hkk.kp hk2) i ((i : Int) + 1) (h - pp + 1) (by omega) (by omega)) ?_
        rintro r w3 ⟨ok, rfl, hk3, hpost⟩
        refine ⟨ok, rfl, hk2w.trans hk3 (fun x hx _ => hx), ?_⟩
        rw [e1]
        exact hpost
      · exact step_no hk2w (by rw [e1]; exact if_neg (fun h => h3 h.2))
    · exact step_no hk2w (by rw [e1]; exact if_neg (fun h => h2 (by omega)))
end
end Go.Proofs.YtbggaljmollhmaaGreatDoor

