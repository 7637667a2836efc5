/-
  Code: the checker's arms and one.
-/
import Derived.Test.YtjogpbiilokldaaCdC
set_option linter.unusedSimpArgs false
set_option linter.unusedVariables false
namespace Go.Proofs.Ytjogpbiilokldaa
open Go.Wx Cd

section
variable {C : Mem} {c : Cod} {code : List Ins} {p bc hb : Nat} {ac : Option Addr} {cc : Nat} {fl : Int} {hc : Nat} {s : List Int × Int} {w : World}

/-- what comes of a step of the checker: the next state, or not -/
def StepPost (C : Mem) (bc hb : Nat) (ac : Option Addr) (len cc : Nat) (fl : Int) (hc p : Nat) (w : World) (res : Option (List Int × Int)) (r : Ending) (w' : World) : Prop :=
  ∃ ok, r = .returned (.bool ok) ∧ Kp [p, hb] w w' ∧ match res with
    | some s' => ok = true ∧ Ck C bc hb ac len cc fl hc p s' w'
    | none => ok = false

theorem step_no {C : Mem} {bc hb : Nat} {ac : Option Addr} {len cc : Nat} {fl : Int} {hc p : Nat} {w w' : World} {res : Option (List Int × Int)} (h : Kp [p, hb] w w') (e : res = none) : StepPost C bc hb ac len cc fl hc p w res (.returned (one [.bool false])) w' :=
  ⟨false, rfl, h, by rw [e]⟩

theorem arms_ct (hi : CkIn C c code p bc hb ac) (hl : c.shapes.length ≤ c.bodies.length) (hk : Ck C bc hb ac code.length cc fl hc p s w) (i : Nat) (n : Ins) (an : Option Addr) (tc : Nat) (h : Int) (hh : 1 ≤ h ∧ h ≤ 4611686018427387904) (na : I64 n.a) (nb : I64 n.b) (hto : Sl rInt C an n.to) :
    CallOk Try.prog 75 ∧ Calls Try.prog 75 #[.pointer (some ⟨p, 0, none⟩), .int .i64 i, .agg #[.int .i64 n.op, .int .i64 n.a, .int .i64 n.b, .slice an n.to.length tc], .int .i64 h] w
      (StepPost C bc hb ac code.length cc fl hc p w ((armsM c n h).bind fun l => goM code.length i l s)) := by
  generalize hRES : ((armsM c n h).bind fun l => goM code.length i l s) = RES
  refine ⟨⟨_, Try.func75, rfl, by decide⟩, ?_⟩
  refine calls_ev (args := [_, _, _, _]) 106 [.tmp 8] Try.func75 rfl rfl rfl (Nat.le_of_ble_eq_true rfl) ?_
  refine ev_seq τok ?_
  obtain ⟨a1, c1, a2, c2, a3, c3, a4, c4, k0, k1, k2, k3, k4, h1, h2, h3, h4, h5⟩ := cod_cells hi.cod
  have hs1 := h1.1
  have htl := hto.1
  have hplt : p < w.heap.size := hk.blk.lt
  have hblt : hb < w.heap.size := Bk.lt hk.row
  refine new fun bn w1 hbn hN hsn hk1 => ?_
  have hN : Bk w1.heap bn [.int .i64 n.op, .int .i64 n.a, .int .i64 n.b, .slice an n.to.length tc] 45 := hN
  have hS : Sub C w1 := hk.sub.tr hk1
  have hkk := hk.kp hk1
  have hB : Bk w1.heap p [.pointer (some ⟨bc, 0, none⟩), .slice ac code.length cc, .int .i64 fl, .slice (some ⟨hb, 0, none⟩) code.length hc, .int .i64 s.2] 113 := hkk.blk
  refine ev_seq' τok ?_
  refine ev_mid τok (fun z : Bool => [(0, .pointer (some ⟨p, 0, none⟩)), (1, .int .i64 i), (3, .int .i64 h), (6, .pointer (some ⟨bn, 0, none⟩)), (59, .bool z)])
    (fun z w2 => Kp [] w1 w2 ∧ if z then armsM c n h = none else famM c n.a = true ∧ n.a ≠ c.nat ∧ 1 ≤ n.b ∧ n.b = (keptM c n.a).length ∧ (n.to.length : Int) = 2 * n.b) ?_ ?_
  · refine drawQ τok (fun w' => Kp [] w1 w') (by kernel_rfl) ((Kp.refl [] w1).dr _) ?_
    (repeat first | refine ldC ‹Sub _ _› (by assumption) ?_ | refine ld (Cl.cell (by first | assumption | exact Bk.cl (by assumption) rfl)) ?_ | refine ldK (by first | assumption | exact Bk.cl (by assumption) rfl | exact ‹Sub _ _› _ _ _ (by assumption)) ?_)
    refine callK (fun w' hk' => family_ct hi hl (hkk.kp hk') n.a) ?_
    have hno : ∀ w2, Kp [] w1 w2 → armsM c n h = none → Kp [] w1 w2 ∧ if true = true then armsM c n h = none else famM c n.a = true ∧ n.a ≠ c.nat ∧ 1 ≤ n.b ∧ n.b = (keptM c n.a).length ∧ (n.to.length : Int) = 2 * n.b := fun w2 hk2 e =>
      ⟨hk2, by rw [if_pos rfl]; exact e⟩
    refine br (fun ht => ?_) (fun ht => ?_)
    · intro w2 hk2
      exact ⟨true, rfl, ⟨rfl, rfl, rfl, rfl, rfl, trivial⟩, hno w2 hk2 (by unfold armsM; rw [if_neg (by simp [show famM c n.a = false by simpa using ht])])⟩
    have hf : famM c n.a = true := by simpa using ht
    have hin : 0 ≤ n.a ∧ n.a ≤ c.shapes.length - 1 := by
      have := hf
      simp [famM, inM] at this
      exact this.1
    obtain ⟨x, hx⟩ : ∃ x, c.shapes[n.a.toNat]? = some x := ⟨c.shapes[n.a.toNat]'(by omega), by simp⟩
    have hkm : keptM c n.a = x.kept := by simp [keptM, hx]
    obtain ⟨b, o, rfl, a', cap, hkept, _, _, hcell⟩ := sl_shp h1 hx
    have hkl := hkept.1
    (repeat first | refine ldC ‹Sub _ _› (by assumption) ?_ | refine ld (Cl.cell (by first | assumption | exact Bk.cl (by assumption) rfl)) ?_ | refine ldK (by first | assumption | exact Bk.cl (by assumption) rfl | exact ‹Sub _ _› _ _ _ (by assumption)) ?_)
    refine br_dec (fun e1 => ?_) (fun e1 => ?_)
    · intro w2 hk2
      exact ⟨true, rfl, ⟨rfl, rfl, rfl, rfl, rfl, trivial⟩, hno w2 hk2 (by unfold armsM; rw [if_neg]; simp [e1])⟩
    (repeat first | refine ldC ‹Sub _ _› (by assumption) ?_ | refine ld (Cl.cell (by first | assumption | exact Bk.cl (by assumption) rfl)) ?_ | refine ldK (by first | assumption | exact Bk.cl (by assumption) rfl | exact ‹Sub _ _› _ _ _ (by assumption)) ?_)
    refine br_dec (fun e2 => ?_) (fun e2 => ?_)
    · intro w2 hk2
      exact ⟨true, rfl, ⟨rfl, rfl, rfl, rfl, rfl, trivial⟩, hno w2 hk2 (by unfold armsM; rw [if_neg]; simp; intro _ _ _; omega)⟩
    (repeat first | refine ldC ‹Sub _ _› (by assumption) ?_ | refine ld (Cl.cell (by first | assumption | exact Bk.cl (by assumption) rfl)) ?_ | refine ldK (by first | assumption | exact Bk.cl (by assumption) rfl | exact ‹Sub _ _› _ _ _ (by assumption)) ?_)
    refine ix n.a.toNat (by omega) (by omega) ?_
    (repeat first | refine ldC ‹Sub _ _› (by assumption) ?_ | refine ld (Cl.cell (by first | assumption | exact Bk.cl (by assumption) rfl)) ?_ | refine ldK (by first | assumption | exact Bk.cl (by assumption) rfl | exact ‹Sub _ _› _ _ _ (by assumption)) ?_)
    refine br_dec (fun e3 => ?_) (fun e3 => ?_)
    · intro w2 hk2
      exact ⟨true, rfl, ⟨rfl, rfl, rfl, rfl, rfl, trivial⟩, hno w2 hk2 (by unfold armsM; rw [if_neg (by rw [hkm]; simp; intro _ _ _; omega)])⟩
    have e3 : n.b = x.kept.length := by simpa using e3
    (repeat first | refine ldC ‹Sub _ _› (by assumption) ?_ | refine ld (Cl.cell (by first | assumption | exact Bk.cl (by assumption) rfl)) ?_ | refine ldK (by first | assumption | exact Bk.cl (by assumption) rfl | exact ‹Sub _ _› _ _ _ (by assumption)) ?_)
    refine int64 (by omega) (by omega) ?_
    intro w2 hk2
    by_cases e4 : (n.to.length : Int) = 2 * n.b
    · exact ⟨false, rfl, ⟨rfl, rfl, rfl, rfl, by show some _ = some _; simp [e4], trivial⟩, hk2, by rw [if_neg (by simp)]; exact ⟨hf, e1, by omega, by rw [hkm]; exact e3, e4⟩⟩
    · exact ⟨true, rfl, ⟨rfl, rfl, rfl, rfl, by show some _ = some _; simp [e4], trivial⟩, hno w2 hk2 (by unfold armsM; rw [if_neg (by rw [hkm]; simp; intro _ _ _; omega)])⟩
  rintro z w2 ⟨hk2, hz⟩
  refine ev_of τok ?_
  refine br (fun hzt => ?_) (fun hzt => ?_)
  · rw [if_pos hzt] at hz
    exact step_no ((hk1.tr hk2).weak (by simp)) (by rw [← hRES, hz]; rfl)
  rw [if_neg (by simp [hzt])] at hz
  obtain ⟨hf, e1, e2, e3, e4⟩ := hz
  have hin : 0 ≤ n.a ∧ n.a ≤ c.shapes.length - 1 := by
    have := hf
    simp [famM, inM] at this
    exact this.1
  obtain ⟨x, hx⟩ : ∃ x, c.shapes[n.a.toNat]? = some x := ⟨c.shapes[n.a.toNat]'(by omega), by simp⟩
  have hkm : keptM c n.a = x.kept := by simp [keptM, hx]
  rw [hkm] at e3
  obtain ⟨b, o, rfl, a', cap, hkept, _, _, hcell⟩ := sl_shp h1 hx
  have hkl := hkept.1
  refine ev_seq' τok ?_
  refine ev_mid τok (fun _ : Unit => [(0, .pointer (some ⟨p, 0, none⟩)), (1, .int .i64 i), (3, .int .i64 h), (6, .pointer (some ⟨bn, 0, none⟩)), (71, .slice a' x.kept.length cap), (72, .int .i64 x.kept.length), (73, .int .i64 ((0 : Nat) : Int))])
    (fun _ w3 => Kp [] w2 w3) ?_ ?_
  · have hN2 := hN.kp hk2 (by simp)
    have hS2 := hS.tr hk2
    have hB2 := hB.kp hk2 (by simp)
    refine drawQ τok (fun w' => Kp [] w2 w') (by kernel_rfl) ((Kp.refl [] w2).dr _) ?_
    (repeat first | refine ldC ‹Sub _ _› (by assumption) ?_ | refine ld (Cl.cell (by first | assumption | exact Bk.cl (by assumption) rfl)) ?_ | refine ldK (by first | assumption | exact Bk.cl (by assumption) rfl | exact ‹Sub _ _› _ _ _ (by assumption)) ?_)
    refine ix n.a.toNat (by omega) (by omega) ?_
    (repeat first | refine ldC ‹Sub _ _› (by assumption) ?_ | refine ld (Cl.cell (by first | assumption | exact Bk.cl (by assumption) rfl)) ?_ | refine ldK (by first | assumption | exact Bk.cl (by assumption) rfl | exact ‹Sub _ _› _ _ _ (by assumption)) ?_)
    intro w3 hk3
    exact ⟨(), rfl, ⟨rfl, rfl, rfl, rfl, rfl, rfl, rfl, trivial⟩, hk3⟩
  rintro _ w3 hk3
  refine ev_of τok ?_
  have earm : armsM c n h = armsL x.kept n.to h := by
    unfold armsM
    rw [if_pos, hkm]
    rw [hf, hkm, decide_eq_true (show 1 ≤ n.b by omega), decide_eq_true e3, decide_eq_true e4, decide_eq_true e1]
    rfl
  rw [earm] at hRES
  have hN2 := hN.kp hk2 (by simp)
  have hk13 := (hk1.tr hk2).tr hk3
  refine lp τok (σ := Nat × (List Int × Int)) (fun q => [(0, .pointer (some ⟨p, 0, none⟩)), (1, .int .i64 i), (3, .int .i64 h), (6, .pointer (some ⟨bn, 0, none⟩)), (71, .slice a' x.kept.length cap), (72, .int .i64 x.kept.length), (73, .int .i64 q.1)])
    (fun q w' => q.1 ≤ x.kept.length ∧ Ck C bc hb ac code.length cc fl hc p q.2 w' ∧ Bk w'.heap bn [.int .i64 n.op, .int .i64 n.a, .int .i64 n.b, .slice an n.to.length tc] 45 ∧ Kp [p, hb] w w' ∧
      RES = ((armsL (x.kept.drop q.1) (n.to.drop (2 * q.1)) h).bind fun l => goM code.length i l q.2)) (fun q => x.kept.length - q.1) (0, s)
    rfl ⟨rfl, rfl, rfl, rfl, rfl, rfl, rfl, trivial⟩ ⟨Nat.zero_le _, (hkk.kp hk2).kp hk3, hN2.kp hk3 (by simp), hk13.weak (by simp), hRES.symm⟩ ?_
  clear hN hS hkk hB hN2
  rintro ⟨k, st⟩ w4 ⟨hk5, hck, hN, hkp, hres⟩
  simp only at hk5 hck hres
  refine br_dec (fun hlt => ?_) (fun hlt => ?_)
  · have hlt : k < x.kept.length := by omega
    obtain ⟨y, hy, hdk⟩ := drop_get hlt
    obtain ⟨t1, ht1, hd1⟩ := drop_get (l := n.to) (k := 2 * k) (by omega)
    obtain ⟨t2, ht2, hd2⟩ := drop_get (l := n.to) (k := 2 * k + 1) (by omega)
    have hS := hck.sub
    obtain ⟨b, o, rfl, ay, cy, hcy, hsy⟩ := hkept.sl hy
    have hyl := hsy.1
    refine ix k rfl hlt ?_
    (repeat first | refine ldC ‹Sub _ _› (by assumption) ?_ | refine ld (Cl.cell (by first | assumption | exact Bk.cl (by assumption) rfl)) ?_ | refine ldK (by first | assumption | exact Bk.cl (by assumption) rfl | exact ‹Sub _ _› _ _ _ (by assumption)) ?_)
    refine int64 (by omega) (by omega) ?_
    refine int64 (by omega) (by omega) ?_
    obtain ⟨bt, ot, rfl, hct2, _⟩ := hto.int ht2
    obtain ⟨bt', ot', e5, hct1, ht1'⟩ := hto.int ht1
    have e5 := Option.some.inj e5
    injection e5 with e6 e7
    subst e6 e7
    refine ix (2 * k + 1) (by omega) (by omega) ?_
    (repeat first | refine ldC ‹Sub _ _› (by assumption) ?_ | refine ld (Cl.cell (by first | assumption | exact Bk.cl (by assumption) rfl)) ?_ | refine ldK (by first | assumption | exact Bk.cl (by assumption) rfl | exact ‹Sub _ _› _ _ _ (by assumption)) ?_)
    have estep : armsL (x.kept.drop k) (n.to.drop (2 * k)) h = if t2 = y.length then (armsL (x.kept.drop (k + 1)) (n.to.drop (2 * (k + 1))) h).map ((t1, h - 1 + y.length) :: ·) else none := by
      rw [hdk, hd1, hd2]
      rfl
    rw [estep] at hres
    refine br_dec (fun e8 => ?_) (fun e8 => ?_)
    · exact step_no hkp (by rw [hres, if_neg e8]; rfl)
    have e8 : t2 = y.length := by simpa using e8
    rw [if_pos e8] at hres
    (repeat first | refine ldC ‹Sub _ _› (by assumption) ?_ | refine ld (Cl.cell (by first | assumption | exact Bk.cl (by assumption) rfl)) ?_ | refine ldK (by first | assumption | exact Bk.cl (by assumption) rfl | exact ‹Sub _ _› _ _ _ (by assumption)) ?_)
    refine int64 (by omega) (by omega) ?_
    refine ix (2 * k) (by omega) (by omega) ?_
    (repeat first | refine ldC ‹Sub _ _› (by assumption) ?_ | refine ld (Cl.cell (by first | assumption | exact Bk.cl (by assumption) rfl)) ?_ | refine ldK (by first | assumption | exact Bk.cl (by assumption) rfl | exact ‹Sub _ _› _ _ _ (by assumption)) ?_)
    refine int64 (by omega) (by omega) ?_
    refine int64 (by omega) (by omega) ?_
    refine ev_call (goes_ct hi hck i t1 (h - 1 + y.length) (by omega) (by omega)) ?_
    rintro r w5 ⟨ok, rfl, hk6, hpost⟩
    have hkp5 : Kp [p, hb] w w5 := hkp.trans hk6 fun x hx _ => hx
    cases hg : goesM code.length i (t1, h - 1 + y.length) st with
    | none =>
      rw [hg] at hpost
      subst hpost
      refine step_no hkp5 ?_
      rw [hres]
      cases armsL (x.kept.drop (k + 1)) (n.to.drop (2 * (k + 1))) h with
      | none => rfl
      | some l => simp [goM, hg]
    | some st' =>
      rw [hg] at hpost
      obtain ⟨rfl, hck'⟩ := hpost
      refine int64 (by omega) (by omega) ?_
      refine ⟨(k + 1, st'), by simp only; omega, rfl, ⟨rfl, rfl, rfl, rfl, rfl, rfl, rfl, trivial⟩, hlt, hck', hN.kp hk6 (by simp; omega), hkp5, ?_⟩
      simp only
      rw [hres]
      cases armsL (x.kept.drop (k + 1)) (n.to.drop (2 * (k + 1))) h with
      | none => rfl
      | some l => simp [goM, hg]
  · refine ev_of τok ?_
    refine ⟨true, rfl, hkp, ?_⟩
    rw [List.drop_eq_nil_of_le (by omega)] at hres
    rw [hres]
    exact ⟨rfl, hck⟩

end
end Go.Proofs.Ytjogpbiilokldaa
