/-
  Code: the checker's parts: in, family, ctor, goes, plain.
-/
import Derived.Test.YtjogpbiilokldaaCdA
import Derived.Test.YtjogpbiilokldaaWxG
import Derived.Test.YtjogpbiilokldaaTau
set_option linter.unusedSimpArgs false
set_option linter.unusedVariables false
namespace Go.Proofs.Ytjogpbiilokldaa
open Go.Wx Cd

theorem in_ct (n lo hi : Int) (w : World) : CallOk Try.prog 25 ∧ Calls Try.prog 25 #[.int .i64 n, .int .i64 lo, .int .i64 hi] w (fun e w' => e = .returned (.bool (inM n lo hi)) ∧ Kp [] w w') := by
  refine ⟨⟨_, Try.func25, rfl, by decide⟩, ?_⟩
  refine calls_of (args := [_, _, _]) 15 [.tmp 6] τok Try.func25 rfl rfl rfl (Nat.le_of_ble_eq_true rfl) ?_
  refine br_dec (fun h => ?_) (fun h => ?_)
  · exact ⟨by simp [one, inM, h], Kp.refl _ _⟩
  · exact ⟨by simp [one, inM, h], Kp.refl _ _⟩

/-- the cells of a checker -/
def ckCells (bc : Nat) (ac : Option Addr) (len cc : Nat) (fl : Int) (hb hc : Nat) (most : Int) : List Value :=
  [.pointer (some ⟨bc, 0, none⟩), .slice ac len cc, .int .i64 fl, .slice (some ⟨hb, 0, none⟩) len hc, .int .i64 most]

/-- what a checker is given, and what stays -/
structure CkIn (C : Mem) (c : Cod) (code : List Ins) (p bc hb : Nat) (ac : Option Addr) : Prop where
  cod : rCod.At C bc 0 c
  code : Sl rIns C ac code
  apart : ∀ b o v, C b o v → b ≠ p ∧ b ≠ hb
  ne : p ≠ hb

/-- how a checker stands -/
structure Ck (C : Mem) (bc hb : Nat) (ac : Option Addr) (len cc : Nat) (fl : Int) (hc p : Nat) (s : List Int × Int) (w : World) : Prop where
  sub : Sub C w
  blk : Bk w.heap p (ckCells bc ac len cc fl hb hc s.2) 113
  row : RowI w.heap hb s.1 3
  len : s.1.length = len

theorem Ck.kp {C : Mem} {bc hb : Nat} {ac : Option Addr} {len cc : Nat} {fl : Int} {hc p : Nat} {s : List Int × Int} {w w' : World} (h : Ck C bc hb ac len cc fl hc p s w) (k : Kp [] w w') : Ck C bc hb ac len cc fl hc p s w' :=
  ⟨h.sub.tr k, h.blk.kp k (by simp), h.row.kp k (by simp), h.len⟩

theorem cod_cells {C : Mem} {b : Nat} {c : Cod} (h : rCod.At C b 0 c) : ∃ a1 c1 a2 c2 a3 c3 a4 c4, C b 0 (.int .i64 c.nat) ∧ C b 1 (.slice a1 c.shapes.length c1) ∧ C b 2 (.slice a2 c.funs.length c2) ∧ C b 3 (.slice a3 c.bodies.length c3) ∧ C b 4 (.slice a4 c.main.length c4) ∧
    Sl rShp C a1 c.shapes ∧ Sl rFn C a2 c.funs ∧ Sl (rSl rIns) C a3 c.bodies ∧ Sl rIns C a4 c.main ∧ I64 c.nat := by
  obtain ⟨cs, ⟨a1, c1, a2, c2, a3, c3, a4, c4, rfl, h1, h2, h3, h4, h5⟩, hc⟩ := h
  simp only [Nat.zero_add] at hc
  exact ⟨a1, c1, a2, c2, a3, c3, a4, c4, hc 0 _ rfl, hc 1 _ rfl, hc 2 _ rfl, hc 3 _ rfl, hc 4 _ rfl, h1, h2, h3, h4, h5⟩

section
variable {C : Mem} {c : Cod} {code : List Ins} {p bc hb : Nat} {ac : Option Addr} {cc : Nat} {fl : Int} {hc : Nat} {s : List Int × Int} {w : World}

theorem family_ct (hi : CkIn C c code p bc hb ac) (hl : c.shapes.length ≤ c.bodies.length) (hk : Ck C bc hb ac code.length cc fl hc p s w) (e : Int) :
    CallOk Try.prog 95 ∧ Calls Try.prog 95 #[.pointer (some ⟨p, 0, none⟩), .int .i64 e] w (fun r w' => r = .returned (.bool (famM c e)) ∧ Kp [] w w') := by
  refine ⟨⟨_, Try.func95, rfl, by decide⟩, ?_⟩
  refine calls_of (args := [_, _]) 30 [.tmp 4] τok Try.func95 rfl rfl rfl (Nat.le_of_ble_eq_true rfl) ?_
  obtain ⟨a1, c1, a2, c2, a3, c3, a4, c4, k0, k1, k2, k3, k4, h1, h2, h3, h4, h5⟩ := cod_cells hi.cod
  have hS := hk.sub
  have hB : Bk w.heap p [.pointer (some ⟨bc, 0, none⟩), .slice ac code.length cc, .int .i64 fl, .slice (some ⟨hb, 0, none⟩) code.length hc, .int .i64 s.2] 113 := hk.blk
  have hsl := h1.1
  have hbl := h3.1
  (repeat first | refine ldC ‹Sub _ _› (by assumption) ?_ | refine ld (Cl.cell (by first | assumption | exact Bk.cl (by assumption) rfl)) ?_ | refine ldK (by first | assumption | exact Bk.cl (by assumption) rfl | exact ‹Sub _ _› _ _ _ (by assumption)) ?_)
  refine int64 (by omega) (by omega) ?_
  refine ev_call (in_ct _ _ _ w) ?_
  rintro r w1 ⟨rfl, hk1⟩
  have hS1 := hS.tr hk1
  have hB1 := hB.kp hk1 (by simp)
  refine br (fun ht => ?_) (fun ht => ?_)
  · have hin : 0 ≤ e ∧ e ≤ c.shapes.length - 1 := by simpa [inM] using ht
    (repeat first | refine ldC ‹Sub _ _› (by assumption) ?_ | refine ld (Cl.cell (by first | assumption | exact Bk.cl (by assumption) rfl)) ?_ | refine ldK (by first | assumption | exact Bk.cl (by assumption) rfl | exact ‹Sub _ _› _ _ _ (by assumption)) ?_)
    obtain ⟨x, hx⟩ : ∃ x, c.bodies[e.toNat]? = some x := ⟨c.bodies[e.toNat]'(by omega), by simp⟩
    obtain ⟨b, o, rfl, a', cap, hcell, hsl'⟩ := h3.sl hx
    refine ix e.toNat (by omega) (by omega) ?_
    (repeat first | refine ldC ‹Sub _ _› (by assumption) ?_ | refine ld (Cl.cell (by first | assumption | exact Bk.cl (by assumption) rfl)) ?_ | refine ldK (by first | assumption | exact Bk.cl (by assumption) rfl | exact ‹Sub _ _› _ _ _ (by assumption)) ?_)
    refine ⟨?_, hk1⟩
    simp only [one, famM, ht, hx, Option.getD_some, Bool.true_and]
    simp
  · refine ⟨?_, hk1⟩
    simp only [one, famM, ht, Bool.false_and]

theorem ctor_ct (hi : CkIn C c code p bc hb ac) (hl : c.shapes.length ≤ c.bodies.length) (hk : Ck C bc hb ac code.length cc fl hc p s w) (a args : Int) (ha : I64 a) :
    CallOk Try.prog 96 ∧ Calls Try.prog 96 #[.pointer (some ⟨p, 0, none⟩), .int .i64 a, .int .i64 args] w (fun r w' => r = .returned (.bool (ctorM c a args)) ∧ Kp [] w w') := by
  refine ⟨⟨_, Try.func96, rfl, by decide⟩, ?_⟩
  refine calls_of (args := [_, _, _]) 45 [.tmp 6] τok Try.func96 rfl rfl rfl (Nat.le_of_ble_eq_true rfl) ?_
  refine br_dec (fun h0 => ?_) (fun h0 => ?_)
  · exact ⟨by simp [one, ctorM, show ¬ 0 ≤ a by omega], Kp.refl _ _⟩
  have h0' : 0 ≤ a := by omega
  refine quo64 h0' ha.2 (by omega) ?_
  refine ev_call (family_ct hi hl hk (a / 16)) ?_
  rintro r w1 ⟨rfl, hk1⟩
  have hkk := hk.kp hk1
  refine br (fun ht => ?_) (fun ht => ?_)
  · have hf : famM c (a / 16) = false := by simpa using ht
    exact ⟨by simp [one, ctorM, hf], hk1⟩
  have hf : famM c (a / 16) = true := by simpa using ht
  have hin : 0 ≤ a / 16 ∧ a / 16 ≤ c.shapes.length - 1 := by
    have := hf
    simp [famM, inM] at this
    exact this.1
  obtain ⟨a1, c1, a2, c2, a3, c3, a4, c4, k0, k1, k2, k3, k4, h1, h2, h3, h4, h5⟩ := cod_cells hi.cod
  have hS := hkk.sub
  have hB : Bk w1.heap p [.pointer (some ⟨bc, 0, none⟩), .slice ac code.length cc, .int .i64 fl, .slice (some ⟨hb, 0, none⟩) code.length hc, .int .i64 s.2] 113 := hkk.blk
  obtain ⟨x, hx⟩ : ∃ x, c.shapes[(a / 16).toNat]? = some x := ⟨c.shapes[(a / 16).toNat]'(by omega), by simp⟩
  obtain ⟨b, o, rfl, a', cap, hkept, _, _, hcell⟩ := sl_shp h1 hx
  (repeat first | refine ldC ‹Sub _ _› (by assumption) ?_ | refine ld (Cl.cell (by first | assumption | exact Bk.cl (by assumption) rfl)) ?_ | refine ldK (by first | assumption | exact Bk.cl (by assumption) rfl | exact ‹Sub _ _› _ _ _ (by assumption)) ?_)
  refine quo64 h0' ha.2 (by omega) ?_
  refine ix (a / 16).toNat (by omega) (by omega) ?_
  (repeat first | refine ldC ‹Sub _ _› (by assumption) ?_ | refine ld (Cl.cell (by first | assumption | exact Bk.cl (by assumption) rfl)) ?_ | refine ldK (by first | assumption | exact Bk.cl (by assumption) rfl | exact ‹Sub _ _› _ _ _ (by assumption)) ?_)
  refine rem64 h0' (by omega) ?_
  have hkm : keptM c (a / 16) = x.kept := by simp [keptM, hx]
  refine br_dec (fun hlt => ?_) (fun hlt => ?_)
  · obtain ⟨y, hy⟩ : ∃ y, x.kept[(a % 16).toNat]? = some y := ⟨x.kept[(a % 16).toNat]'(by omega), by simp⟩
    obtain ⟨b, o, rfl, a', cap, hcell', hsl'⟩ := hkept.sl hy
    refine ix (a % 16).toNat (by omega) (by omega) ?_
    (repeat first | refine ldC ‹Sub _ _› (by assumption) ?_ | refine ld (Cl.cell (by first | assumption | exact Bk.cl (by assumption) rfl)) ?_ | refine ldK (by first | assumption | exact Bk.cl (by assumption) rfl | exact ‹Sub _ _› _ _ _ (by assumption)) ?_)
    refine ⟨?_, hk1⟩
    simp [one, ctorM, hf, hkm, hy, h0']
  · refine ⟨?_, hk1⟩
    have : x.kept[(a % 16).toNat]? = none := by simp; omega
    simp [one, ctorM, hf, hkm, this]

/-- goes on, or not -/
theorem goes_ct (hi : CkIn C c code p bc hb ac) (hk : Ck C bc hb ac code.length cc fl hc p s w) (i to h : Int) (hh : 0 ≤ h) (hi0 : 0 ≤ i) :
    CallOk Try.prog 74 ∧ Calls Try.prog 74 #[.pointer (some ⟨p, 0, none⟩), .int .i64 i, .int .i64 to, .int .i64 h] w (fun r w' => ∃ ok, r = .returned (.bool ok) ∧ Kp [p, hb] w w' ∧
      match goesM code.length i (to, h) s with
      | some s' => ok = true ∧ Ck C bc hb ac code.length cc fl hc p s' w'
      | none => ok = false) := by
  refine ⟨⟨_, Try.func74, rfl, by decide⟩, ?_⟩
  refine calls_of (args := [_, _, _, _]) 54 [.tmp 8] τok Try.func74 rfl rfl rfl (Nat.le_of_ble_eq_true rfl) ?_
  have hS := hk.sub
  have hB : Bk w.heap p [.pointer (some ⟨bc, 0, none⟩), .slice ac code.length cc, .int .i64 fl, .slice (some ⟨hb, 0, none⟩) code.length hc, .int .i64 s.2] 113 := hk.blk
  have hne := hi.ne
  have hlen := hk.len
  refine br_dec (fun h0 => ?_) (fun h0 => ?_)
  · have e : goesM code.length i (to, h) s = none := by unfold goesM; rw [if_pos (.inl h0)]
    rw [e]
    exact ⟨false, rfl, (Kp.refl [] w).weak (by simp), rfl⟩
  (repeat first | refine ldC ‹Sub _ _› (by assumption) ?_ | refine ld (Cl.cell (by first | assumption | exact Bk.cl (by assumption) rfl)) ?_ | refine ldK (by first | assumption | exact Bk.cl (by assumption) rfl | exact ‹Sub _ _› _ _ _ (by assumption)) ?_)
  refine br_dec (fun h1 => ?_) (fun h1 => ?_)
  · have e : goesM code.length i (to, h) s = none := by unfold goesM; rw [if_pos (.inr h1)]
    rw [e]
    exact ⟨false, rfl, (Kp.refl [] w).weak (by simp), rfl⟩
  obtain ⟨k, rfl⟩ : ∃ k : Nat, to = k := ⟨to.toNat, by omega⟩
  have hkl : k < s.1.length := by omega
  have e : goesM code.length i ((k : Int), h) s = if s.1.getD k 0 = -1 then some (s.1.set k h, max s.2 h) else if s.1.getD k 0 = h then some (s.1, max s.2 h) else none := by
    unfold goesM; rw [if_neg (by simp only; omega)]; simp
  rw [e]
  refine ld (hB.cl rfl).cell ?_
  refine max64 ?_
  refine st hB (by simp) rfl fun w1 hB1 hs1 hk1 => ?_
  have hB1 : Bk w1.heap p [.pointer (some ⟨bc, 0, none⟩), .slice ac code.length cc, .int .i64 fl, .slice (some ⟨hb, 0, none⟩) code.length hc, .int .i64 (max s.2 h)] 113 := hB1
  have hS1 := hS.kp hk1 fun b o v hc => by have := hi.apart b o v hc; simp; exact this.1
  have hR1 : RowI w1.heap hb s.1 3 := hk.row.kp hk1 (by simp; omega)
  (repeat first | refine ldC ‹Sub _ _› (by assumption) ?_ | refine ld (Cl.cell (by first | assumption | exact Bk.cl (by assumption) rfl)) ?_ | refine ldK (by first | assumption | exact Bk.cl (by assumption) rfl | exact ‹Sub _ _› _ _ _ (by assumption)) ?_)
  refine ix k rfl (by omega) ?_
  have hcl := RowI.cl hR1 hkl
  (repeat first | refine ldC ‹Sub _ _› (by assumption) ?_ | refine ld (Cl.cell (by first | assumption | exact Bk.cl (by assumption) rfl)) ?_ | refine ldK (by first | assumption | exact Bk.cl (by assumption) rfl | exact ‹Sub _ _› _ _ _ (by assumption)) ?_)
  refine br_dec (fun h2 => ?_) (fun h2 => ?_)
  · refine ld (hB1.cl rfl).cell ?_
    refine ix k rfl (by omega) ?_
    refine stI hR1 hkl fun w2 hR2 hs2 hk2 => ?_
    have hB2 := hB1.kp hk2 (by simp; omega)
    have hS2 := hS1.kp hk2 fun b o v hc => by have := hi.apart b o v hc; simp; exact this.2
    refine ld (hB2.cl rfl).cell ?_
    refine ix k rfl (by omega) ?_
    have hcl2 := RowI.cl hR2 (k := k) (by simpa using hkl)
    have hg : (s.1.set k h).getD k 0 = h := by simp [List.getD, hkl]
    rw [hg] at hcl2
    refine ld hcl2.cell ?_
    rw [if_pos h2]
    exact ⟨true, by simp [one], (hk1.weak (by simp)).trans hk2 (by simp), rfl, ⟨hS2, hB2, hR2, by simpa using hlen⟩⟩
  · refine ld (hB1.cl rfl).cell ?_
    refine ix k rfl (by omega) ?_
    refine ld hcl.cell ?_
    rw [if_neg h2]
    by_cases h3 : s.1.getD k 0 = h
    · rw [if_pos h3]
      exact ⟨true, by simp only [one]; rw [decide_eq_true h3], hk1.weak (by simp), rfl, ⟨hS1, hB1, hR1, hlen⟩⟩
    · rw [if_neg h3]
      exact ⟨false, by simp only [one]; rw [decide_eq_false h3], hk1.weak (by simp), rfl⟩
end
end Go.Proofs.Ytjogpbiilokldaa
