/-
  Code: package bare: shapes, what is registered, Right, where all rows are boxes or none.
-/
import Derived.Test.YtjogpbiilokldaaCdG
set_option linter.unusedSimpArgs false
set_option linter.unusedVariables false
namespace Cd
open Go Go.Wx

structure Nd where
  op : Int
  a : Int
  b : Int
def rNd : Rd Nd where
  sz := 3
  den C cs x := cs = [.int .i64 x.op, .int .i64 x.a, .int .i64 x.b] ∧ I64 x.op ∧ I64 x.a ∧ I64 x.b
  len := by rintro C cs x ⟨rfl, _⟩; rfl
  mono := by rintro C C' cs x hc h; exact h
  one := by rintro C cs x ⟨rfl, _⟩ u hu; simp at hu; rcases hu with rfl | rfl | rfl <;> rfl

def Nd.box : Nd := ⟨22, 0, 0⟩

def shpOk (s : Shp) : Bool := decide (0 ≤ s.params) && decide (s.params ≤ 16) && decide (s.kept.length ≤ 16) && !s.kept.any fun k => decide (16 < k.length)
def entOk (b : List Nd) (s : Shp) : Bool := shpOk s && (decide (b.length = 0) || (decide (s.params = 0) && decide (s.kept.length = 0)))
def entsOk : List (List Nd) → List Shp → Bool
  | b :: bs, s :: ss => entOk b s && entsOk bs ss
  | _, _ => true
def natOk (bodies : List (List Nd)) (shapes : List Shp) (nat : Int) : Bool :=
  decide (nat = -1) || (decide (0 ≤ nat) && decide (nat < bodies.length) && decide (((bodies[nat.toNat]?).getD []).length = 0) && match shapes[nat.toNat]? with
    | some s => decide (s.params = 0) && decide (s.kept = [[], [true]])
    | none => false)
def rightM (bodies : List (List Nd)) (shapes : List Shp) (nat : Int) : Bool :=
  decide (bodies.length = shapes.length) && (entsOk bodies shapes && natOk bodies shapes nat)
end Cd

namespace Go.Proofs.Ytjogpbiilokldaa
open Go.Wx Cd

theorem shaped1_ct (a : Option Addr) (k cap : Nat) (w : World) : CallOk Try.prog 88 ∧ Calls Try.prog 88 #[.slice a k cap] w (fun e w' => e = .returned (.bool (decide (16 < k))) ∧ Kp [] w w') := by
  refine ⟨⟨_, Try.func88, rfl, by decide⟩, ?_⟩
  refine calls_of (args := [_]) 6 [.tmp 2] τok Try.func88 rfl rfl rfl (Nat.le_of_ble_eq_true rfl) ?_
  refine ⟨?_, Kp.refl _ _⟩
  simp [one]
  omega

theorem indexKept_ct {C : Mem} {w : World} (hS : Sub C w) (l : List (List Bool)) (a : Option Addr) (cap : Nat) (hl : Sl (rSl rBool) C a l) :
    CallOk Try.prog 100 ∧ Calls Try.prog 100 #[.slice a l.length cap, .func (.func 88) #[] #[]] w (fun e w' => ∃ i : Int, e = .returned (.int .i64 i) ∧ Kp [] w w' ∧ (l.any (fun k => decide (16 < k.length)) = decide (0 ≤ i))) := by
  refine ⟨⟨_, Try.func100, rfl, by decide⟩, ?_⟩
  have hlen := hl.1
  refine calls_of (args := [_, _]) 19 [.tmp 4] τok Try.func100 rfl rfl rfl (Nat.le_of_ble_eq_true rfl) ?_
  refine lp τok (σ := Nat) (fun k => [(0, .slice a l.length cap), (1, .func (.func 88) #[] #[]), (7, .int .i64 l.length), (8, .int .i64 k)]) (fun k w' => k ≤ l.length ∧ Kp [] w w' ∧ l.any (fun k => decide (16 < k.length)) = (l.drop k).any (fun k => decide (16 < k.length))) (fun k => l.length - k) 0 rfl
    ⟨rfl, rfl, rfl, rfl, trivial⟩ ⟨Nat.zero_le _, Kp.refl _ _, rfl⟩ ?_
  rintro k w1 ⟨hk, hkp, hr⟩
  refine br_dec (fun h => ?_) (fun h => ?_)
  · have hlt : k < l.length := by omega
    obtain ⟨x, hx, hd⟩ := drop_get hlt
    rw [hd, List.any_cons] at hr
    obtain ⟨b, o, rfl, a', c', hcell, hsl⟩ := hl.sl hx
    have hS1 := hS.tr hkp
    refine ix k rfl hlt ?_
    (repeat first | refine ldC ‹Sub _ _› (by assumption) ?_ | refine ld (Cl.cell (by first | assumption | exact Bk.cl (by assumption) rfl)) ?_ | refine ldK (by first | assumption | exact Bk.cl (by assumption) rfl | exact ‹Sub _ _› _ _ _ (by assumption)) ?_)
    refine ev_call (shaped1_ct a' x.length c' w1) ?_
    rintro e w2 ⟨rfl, hk2⟩
    have hkp2 := hkp.tr hk2
    refine br_dec (fun hc => ?_) (fun hc => ?_)
    · refine ⟨(k : Int), rfl, hkp2, ?_⟩
      rw [hr, decide_eq_true hc, decide_eq_true (by omega)]
      rfl
    · refine int64 (by omega) (by omega) ?_
      refine ⟨k + 1, by omega, rfl, ⟨rfl, rfl, rfl, rfl, trivial⟩, hlt, hkp2, ?_⟩
      rw [hr, decide_eq_false hc, Bool.false_or]
  · refine ⟨-1, rfl, hkp, ?_⟩
    rw [hr, List.drop_eq_nil_of_le (by omega)]
    rfl

theorem containsKept_ct {C : Mem} {w : World} (hS : Sub C w) (l : List (List Bool)) (a : Option Addr) (cap : Nat) (hl : Sl (rSl rBool) C a l) :
    CallOk Try.prog 87 ∧ Calls Try.prog 87 #[.slice a l.length cap, .func (.func 88) #[] #[]] w (fun e w' => e = .returned (.bool (l.any fun k => decide (16 < k.length))) ∧ Kp [] w w') := by
  refine ⟨⟨_, Try.func87, rfl, by decide⟩, ?_⟩
  refine calls_of (args := [_, _]) 9 [.tmp 4] τok Try.func87 rfl rfl rfl (Nat.le_of_ble_eq_true rfl) ?_
  refine ev_call (indexKept_ct hS l a cap hl) ?_
  rintro e w1 ⟨i, rfl, hk1, hi⟩
  refine ⟨?_, hk1⟩
  rw [hi]
  rfl

theorem shapedS_ct {C : Mem} {w : World} (hS : Sub C w) (s : Shp) (a : Option Addr) (cap : Nat) (hl : Sl (rSl rBool) C a s.kept) :
    CallOk Try.prog 70 ∧ Calls Try.prog 70 #[.agg #[.int .i64 s.params, .slice a s.kept.length cap]] w (fun e w' => e = .returned (.bool (shpOk s)) ∧ Kp [] w w') := by
  refine ⟨⟨_, Try.func70, rfl, by decide⟩, ?_⟩
  refine calls_of (args := [_]) 21 [.tmp 2] τok Try.func70 rfl rfl rfl (Nat.le_of_ble_eq_true rfl) ?_
  refine new fun b1 w1 hb1 hB1 hs1 hk1 => ?_
  have hB1 : Bk w1.heap b1 [.int .i64 s.params, .slice a s.kept.length cap] 56 := hB1
  have hS1 := hS.tr hk1
  (repeat first | refine ldC ‹Sub _ _› (by assumption) ?_ | refine ld (Cl.cell (by first | assumption | exact Bk.cl (by assumption) rfl)) ?_ | refine ldK (by first | assumption | exact Bk.cl (by assumption) rfl | exact ‹Sub _ _› _ _ _ (by assumption)) ?_)
  refine br_dec (fun h1 => ?_) (fun h1 => ?_)
  · exact ⟨by simp [one, shpOk, show ¬ 0 ≤ s.params by omega], hk1⟩
  (repeat first | refine ldC ‹Sub _ _› (by assumption) ?_ | refine ld (Cl.cell (by first | assumption | exact Bk.cl (by assumption) rfl)) ?_ | refine ldK (by first | assumption | exact Bk.cl (by assumption) rfl | exact ‹Sub _ _› _ _ _ (by assumption)) ?_)
  refine br_dec (fun h2 => ?_) (fun h2 => ?_)
  · exact ⟨by simp [one, shpOk, show ¬ s.params ≤ 16 by omega], hk1⟩
  (repeat first | refine ldC ‹Sub _ _› (by assumption) ?_ | refine ld (Cl.cell (by first | assumption | exact Bk.cl (by assumption) rfl)) ?_ | refine ldK (by first | assumption | exact Bk.cl (by assumption) rfl | exact ‹Sub _ _› _ _ _ (by assumption)) ?_)
  refine br_dec (fun h3 => ?_) (fun h3 => ?_)
  · exact ⟨by simp [one, shpOk, show ¬ s.kept.length ≤ 16 by omega], hk1⟩
  (repeat first | refine ldC ‹Sub _ _› (by assumption) ?_ | refine ld (Cl.cell (by first | assumption | exact Bk.cl (by assumption) rfl)) ?_ | refine ldK (by first | assumption | exact Bk.cl (by assumption) rfl | exact ‹Sub _ _› _ _ _ (by assumption)) ?_)
  refine ev_call (containsKept_ct hS1 s.kept a cap hl) ?_
  rintro e w2 ⟨rfl, hk2⟩
  refine ⟨?_, hk1.tr hk2⟩
  unfold shpOk
  rw [decide_eq_true (show 0 ≤ s.params by omega), decide_eq_true (show s.params ≤ 16 by omega), decide_eq_true (show s.kept.length ≤ 16 by omega)]
  rfl

theorem equalB_ct {C D : Mem} {w : World} (hS : Sub C w) (hD : Sub D w) (l m : List Bool) (a a' : Option Addr) (c c' : Nat) (hl : Sl rBool C a l) (hm : Sl rBool D a' m) :
    CallOk Try.prog 90 ∧ Calls Try.prog 90 #[.slice a l.length c, .slice a' m.length c'] w (fun e w' => e = .returned (.bool (decide (l = m))) ∧ Kp [] w w') := by
  refine ⟨⟨_, Try.func90, rfl, by decide⟩, ?_⟩
  have hlen := hl.1
  refine calls_of (args := [_, _]) 26 [.tmp 4] τok Try.func90 rfl rfl rfl (Nat.le_of_ble_eq_true rfl) ?_
  refine br_dec (fun h1 => ?_) (fun h1 => ?_)
  · have : ¬ l = m := fun e => h1 (by rw [e])
    exact ⟨by rw [decide_eq_false this]; rfl, Kp.refl _ _⟩
  have h1 : l.length = m.length := by
    have : (l.length : Int) = m.length := by simpa using h1
    omega
  refine lp τok (σ := Nat) (fun k => [(0, .slice a l.length c), (1, .slice a' m.length c'), (12, .int .i64 l.length), (13, .int .i64 k)]) (fun k w' => k ≤ l.length ∧ Kp [] w w' ∧ decide (l = m) = decide (l.drop k = m.drop k)) (fun k => l.length - k) 0 rfl
    ⟨rfl, rfl, rfl, rfl, trivial⟩ ⟨Nat.zero_le _, Kp.refl _ _, rfl⟩ ?_
  rintro k w1 ⟨hk, hkp, hr⟩
  refine br_dec (fun h => ?_) (fun h => ?_)
  · have hlt : k < l.length := by omega
    obtain ⟨x, hx, hd⟩ := drop_get hlt
    obtain ⟨y, hy, hd'⟩ := drop_get (l := m) (k := k) (by omega)
    rw [hd, hd'] at hr
    obtain ⟨b, o, rfl, hcell⟩ := hl.bool hx
    obtain ⟨b', o', rfl, hcell'⟩ := hm.bool hy
    have hc1 := (hS.tr hkp) _ _ _ hcell
    have hc2 := (hD.tr hkp) _ _ _ hcell'
    refine drawR τok (by kernel_rfl) ?_
    refine ix k rfl hlt ?_
    refine ldR hc1 ?_
    refine ix k rfl (by omega) ?_
    refine ldR hc2 ?_
    intro m'
    refine br (fun hc => ?_) (fun hc => ?_)
    · have : x ≠ y := by simpa using hc
      refine ⟨?_, hkp.dr _⟩
      rw [hr, decide_eq_false (by simp [this])]
      rfl
    · have : x = y := by simpa using hc
      subst this
      refine int64 (by omega) (by omega) ?_
      refine ⟨k + 1, by omega, rfl, ⟨rfl, rfl, rfl, rfl, trivial⟩, hlt, hkp.dr _, ?_⟩
      rw [hr]
      simp
  · refine ⟨?_, hkp⟩
    rw [hr, List.drop_eq_nil_of_le (by omega), List.drop_eq_nil_of_le (by omega)]
    rfl
end Go.Proofs.Ytjogpbiilokldaa
