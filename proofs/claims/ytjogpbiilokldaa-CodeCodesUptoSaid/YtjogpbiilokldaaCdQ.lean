/-
  Code: reading: many, instr, block, bit, kept, shape, fun. Printed by cdq.py.
-/
import Derived.Test.YtjogpbiilokldaaCdP
set_option linter.unusedSimpArgs false
set_option linter.unusedVariables false
namespace Cd
open Go Go.Wx
def manyL {α : Type} (one : RS → α × RS) : Nat → List α → RS → List α × RS
  | 0, acc, s => (acc, s)
  | n + 1, acc, s => if (one s).2.2 ≠ 0 then ([], (one s).2) else manyL one n (acc ++ [(one s).1]) (one s).2
def manyM {α : Type} (one : RS → α × RS) (s : RS) : List α × RS := manyL one (numM 1048576 s).1 [] (numM 1048576 s).2
def numI (s : RS) : Int × RS := (((numM 1048576 s).1 : Int), (numM 1048576 s).2)
def bitM (s : RS) : Bool × RS := (decide (((numM 1 s).1 : Int) = 1), (numM 1 s).2)
def insM (s : RS) : Ins × RS :=
  let q1 := numM 255 s
  let q2 := numM 1048576 q1.2
  let q3 := numM 1048576 q2.2
  let q4 := manyM numI q3.2
  (⟨(q1.1 : Int), (q2.1 : Int), (q3.1 : Int), q4.1⟩, q4.2)
def rblockM (s : RS) : List Ins × RS := manyM insM s
def rkeptM (s : RS) : List Bool × RS := manyM bitM s
def rshpM (s : RS) : Shp × RS :=
  let q1 := numM 1048576 s
  let q2 := manyM rkeptM q1.2
  (⟨(q1.1 : Int), q2.1⟩, q2.2)
def rfnM (s : RS) : Cd.Fn × RS :=
  let q1 := numM 1048576 s
  let q2 := rblockM q1.2
  (⟨(q1.1 : Int), q2.1⟩, q2.2)
theorem manyL_len {α : Type} {one : RS → α × RS} : ∀ (n : Nat) (acc : List α) (s : RS), (manyL one n acc s).1.length ≤ acc.length + n
  | 0, acc, s => by simp [manyL]
  | n + 1, acc, s => by
    simp only [manyL]
    split
    · simp
    · have := manyL_len (one := one) n (acc ++ [(one s).1]) (one s).2
      simp at this ⊢
      omega
theorem manyM_len {α : Type} (one : RS → α × RS) (s : RS) : (manyM one s).1.length ≤ 1048576 := by
  have h1 := manyL_len (one := one) (numM 1048576 s).1 [] (numM 1048576 s).2
  have h2 := num_le 1048576 s
  unfold manyM
  simp at h1
  omega
end Cd

namespace Go.Wx
/-- a result that is a cell's struct -/
theorem resN {P : Program} {τ : Tau} (hτ : TauOk P τ) {T : Nat} {fs : List (Nat × Nat × Bool)} {z : List Nat} (hr : look τ.tab T = some (fs, z)) {b : Nat} {w : World} {K : Value → Prop} (cs : List Value) (hl : cs.length = z.length) (hc : ∀ j v, cs[j]? = some v → Cl w.heap b j v) (hk : K (.agg cs.toArray)) :
    EvRun P (loadVar T ⟨b, 0, none⟩) w fun v w' => w' = w ∧ K v := by
  obtain ⟨gs, hu, hfs, hinf, i, hi, hsz, hz⟩ := hτ.tab T fs z hr
  have := run_loadCells_list (P := P) (w := w) ⟨b, 0, none⟩ cs (fun j v hj => by rw [add_off, Nat.zero_add]; exact (hc j v hj).cell)
  rw [hl] at this
  refine run (v := .agg cs.toArray) (w' := w) ?_ ⟨rfl, hk⟩
  simp [loadVar, isAgg, run_underlying hu, sizeOf, typeInfo, hi, hsz, this]
end Go.Wx

namespace Go.Proofs.Ytjogpbiilokldaa
open Go.Wx Cd
section
variable {D : Mem} {p : Nat} {ab : Option Addr} {cb : Nat} {bs : List Nat} {s : RS} {w : World}

theorem new_dn {w4 w5 w7 : World} {lo : Nat} {v : Value} {α : Type} {R : Rd α} {e : Nat} {l : List α} (hO : Own R e lo w4 v l) (k : Kp [] w5 w7) : ∀ b o u, New w4.heap.size w5 b o u → Dn lo v w7 b o u := fun b o u hu =>
  ⟨Nat.le_trans hO.low hu.1, fun e => by have := (hO.block b e.symm).2; have := hu.1; omega, hu.2.kp k (by simp)⟩

theorem manyInt_ct (hin : Rin D p ab cb bs) (h : Rdr D p ab cb bs s w) : CallOk Try.prog 85 ∧ Calls Try.prog 85 #[.agg #[.pointer (some ⟨p, 0, none⟩)], .func (.func 35) #[] #[]] w
    (fun e w' => ∃ a cap, e = .returned (.slice a (manyM numI s).1.length cap) ∧ Sl rInt (New w.heap.size w') a (manyM numI s).1 ∧ Rdr D p ab cb bs (manyM numI s).2 w' ∧ Kp [p] w w') := by
  obtain ⟨RES, hRES⟩ : ∃ r, manyM numI s = r := ⟨_, rfl⟩
  have hRl := manyM_len numI s
  rw [hRES] at hRl ⊢
  have hpl := h.lt
  have hD := h.1
  have hNle := num_le 1048576 s
  unfold manyM at hRES
  refine ⟨⟨_, Try.func85, rfl, by decide⟩, ?_⟩
  refine calls_of (args := [_, _]) 24 [.tmp 4] τok Try.func85 rfl rfl rfl (Nat.le_of_ble_eq_true rfl) ?_
  refine new fun b2 w2 hb2 hB2 hs2 hk2 => ?_
  have hB2 : Bk w2.heap b2 [.pointer (some ⟨p, 0, none⟩)] 83 := hB2
  refine ldN [.pointer (some ⟨p, 0, none⟩)] rfl (fun j v hj => by rw [Nat.zero_add]; exact hB2.cl hj) ?_
  refine ev_call (rnum_ct hin (h.kp hk2)) ?_
  rintro e w3 ⟨rfl, hR3, hk3⟩
  obtain ⟨N, hN⟩ : ∃ N, (numM 1048576 s).1 = N := ⟨_, rfl⟩
  rw [hN] at hRES hNle
  rw [hN]
  have hB3 := hB2.kp hk3 (by simp; omega)
  have hk13 : Kp [p] w w3 := (hk2.weak (by simp)).trans hk3 (fun x hx _ => hx)
  have hsz3 := hk3.size
  refine lp τok (σ := Nat × Value × List Int × RS) (fun q => [(1, .func (.func 35) #[] #[]), (2, .pointer (some ⟨b2, 0, none⟩)), (5, q.2.1), (8, .int .i64 (N : Int)), (9, .int .i64 (q.1 : Int))])
    (fun q w' => q.1 ≤ N ∧ q.2.2.1.length = q.1 ∧ Own rInt 3 (b2 + 1) w' q.2.1 q.2.2.1 ∧ Rdr D p ab cb bs q.2.2.2 w' ∧ Bk w'.heap b2 [.pointer (some ⟨p, 0, none⟩)] 83 ∧ Kp [p] w w' ∧ RES = manyL numI (N - q.1) q.2.2.1 q.2.2.2) (fun q => N - q.1)
    (0, .slice none 0 0, [], (numM 1048576 s).2) rfl ⟨rfl, rfl, rfl, rfl, rfl, trivial⟩ ⟨Nat.zero_le _, rfl, Own.nil _ _ (by omega), hR3, hB3, hk13, hRES.symm⟩ ?_
  rintro ⟨k, v, acc, st⟩ w4 ⟨hk, hal, hO, hR4, hB4, hkp, hres⟩
  simp only at hk hal hO hR4 hres
  refine br_dec (fun h1 => ?_) (fun h1 => ?_)
  · have hlt : k < N := by omega
    obtain ⟨m, hm⟩ : ∃ m, N - k = m + 1 := ⟨N - k - 1, by omega⟩
    have hm' : N - (k + 1) = m := by omega
    rw [hm] at hres
    simp only [manyL] at hres
    refine ldN [.pointer (some ⟨p, 0, none⟩)] rfl (fun j v hj => by rw [Nat.zero_add]; exact hB4.cl hj) ?_
    refine ev_call (rnum_ct hin hR4) ?_
    rintro e w5 ⟨rfl, hR5, hk5⟩
    have hkp5 : Kp [p] w w5 := hkp.trans hk5 (fun x hx _ => hx)
    have hB5 := hB4.kp hk5 (by simp; omega)
    have hO5 := hO.kpl hk5 (by simp; omega)

    refine ld (hB5.cl rfl).cell ?_
    refine ev_call (err_ct hR5) ?_
    rintro e w6 ⟨rfl, hk6⟩
    have hkp6 := hkp5.tr hk6
    refine br_dec (fun h2 => ?_) (fun h2 => ?_)
    · have h2 : (numI st).2.2 ≠ 0 := h2
      rw [if_pos h2] at hres
      rw [hres]
      exact ⟨none, 0, rfl, Sl.nil _ _ _, hR5.kp hk6, hkp6⟩
    have h2 : ¬ (numI st).2.2 ≠ 0 := h2
    rw [if_neg h2] at hres

    refine fill [.int .i64 (numI st).1] rfl ?_
    refine new fun b7 w7 hb7 hB7 hs7 hk7 => ?_
    have hk57 : Kp [] w5 w7 := hk6.tr hk7
    refine (hO5.kp hk57).ap1 τok rfl rfl (by decide) (numI st).1 [.int .i64 (numI st).1] (⟨rfl, by have := num_le 1048576 st; unfold I64 numI; simp only; omega⟩) (fun j u hj => by rw [Nat.zero_add]; exact hB7.cl hj) (by rw [hal]; omega) (by rw [hal]; simp only [maxLen]; omega) fun v' w8 hO8 hk8 _ => ?_
    have hvb : ∀ x ∈ v.ownBlock.toList, b2 + 1 ≤ x := fun x hx => (hO.block x (by simpa using hx)).1
    refine int64 (by omega) (by omega) ?_
    refine ⟨(k + 1, v', acc ++ [(numI st).1], (numI st).2), by simp only; omega, rfl, ⟨rfl, rfl, rfl, rfl, rfl, trivial⟩, hlt, by simp [hal], hO8, ?_, ?_, ?_, by simp only; rw [hm']; exact hres⟩
    · have hR7 := hR5.kp hk57
      obtain ⟨q1, at', q2, q3⟩ := hR7
      have hp8 : p ∉ v.ownBlock.toList := fun hx => by have := hvb p hx; omega
      refine ⟨q1.kp hk8 fun b o u hu hx => ?_, at', q2.kp hk8 hp8, q3⟩
      have := hvb b hx
      have := hD.lt b o u hu
      omega
    · exact (hB5.kp hk57 (by simp)).kp hk8 fun hx => by have := hvb b2 hx; omega
    · exact (hkp6.tr hk7).trans hk8 fun x hx hl => by have := hvb x hx; omega
  · have hke : N - k = 0 := by omega
    rw [hke] at hres
    have hres : RES = (acc, st) := hres
    subst hres
    obtain ⟨a, cap, rfl, hSl⟩ := hO.den (by simp only at hRl; omega)
    exact ⟨a, cap, rfl, hSl.mono fun b o u hu => ⟨by have := hu.1; omega, hu.2⟩, hR4, hkp⟩

theorem instr_ct (hin : Rin D p ab cb bs) (h : Rdr D p ab cb bs s w) : CallOk Try.prog 65 ∧ Calls Try.prog 65 #[.agg #[.pointer (some ⟨p, 0, none⟩)]] w
    (fun e w' => ∃ a cap, e = .returned (.agg #[.int .i64 (insM s).1.op, .int .i64 (insM s).1.a, .int .i64 (insM s).1.b, .slice a (insM s).1.to.length cap]) ∧ Sl rInt (New w.heap.size w') a (insM s).1.to ∧ Rdr D p ab cb bs (insM s).2 w' ∧ Kp [p] w w') := by
  have hpl := h.lt
  obtain ⟨q1, hq1⟩ : ∃ q, numM 255 s = q := ⟨_, rfl⟩
  obtain ⟨q2, hq2⟩ : ∃ q, numM 1048576 q1.2 = q := ⟨_, rfl⟩
  obtain ⟨q3, hq3⟩ : ∃ q, numM 1048576 q2.2 = q := ⟨_, rfl⟩
  obtain ⟨q4, hq4⟩ : ∃ q, manyM numI q3.2 = q := ⟨_, rfl⟩
  have hM : insM s = (⟨(q1.1 : Int), (q2.1 : Int), (q3.1 : Int), q4.1⟩, q4.2) := by
    unfold insM
    simp only [hq1, hq2, hq3, hq4]
  rw [hM]
  refine ⟨⟨_, Try.func65, rfl, by decide⟩, ?_⟩
  refine calls_of (args := [_]) 18 [.cell 2 45] τok Try.func65 rfl rfl rfl (Nat.le_of_ble_eq_true rfl) ?_
  refine new fun b1 w1 hb1 hB1 hs1 hk1 => ?_
  have hB1 : Bk w1.heap b1 [.pointer (some ⟨p, 0, none⟩)] 83 := hB1
  refine new fun b2 w2 hb2 hB2 hs2 hk2 => ?_
  have hB2 : Bk w2.heap b2 [.int .i64 0, .int .i64 0, .int .i64 0, .slice none 0 0] 45 := hB2
  have hk02 := hk1.tr hk2
  have hB1 := hB1.kp hk2 (by simp)
  refine ld (hB1.cl rfl).cell ?_
  have c1 := Num_ct hin (h.kp hk02) 255 (by omega)
  rw [hq1] at c1
  refine ev_call c1 ?_
  rintro e w3 ⟨rfl, hR3, hk3⟩
  have hB1 := hB1.kp hk3 (by simp; omega)
  have hB2 := hB2.kp hk3 (by simp; omega)
  have hz3 := hk3.size
  refine new fun b3 w4 hb3 hB3 hs4 hk4 => ?_
  refine stN (vs := [.int .i64 (q1.1 : Int), .int .i64 0, .int .i64 0, .slice none 0 0]) hB3 rfl (by simp [Value.oneCell']) fun w5 hB3 hs5 hk5 => ?_
  have hk35 : Kp [] w3 w5 := hk4.newSt hb3 hk5
  have hB1 := hB1.kp hk35 (by simp)
  have hB2 := hB2.kp hk35 (by simp)
  refine ldN [.pointer (some ⟨p, 0, none⟩)] rfl (fun j v hj => by rw [Nat.zero_add]; exact hB1.cl hj) ?_
  have c2 := rnum_ct hin (hR3.kp hk35)
  rw [hq2] at c2
  refine ev_call c2 ?_
  rintro e w6 ⟨rfl, hR6, hk6⟩
  have hB1 := hB1.kp hk6 (by simp; omega)
  have hB2 := hB2.kp hk6 (by simp; omega)
  have hB3 := hB3.kp hk6 (by simp; omega)
  refine st hB3 (by simp) rfl fun w7 hB3 hs7 hk7 => ?_
  have hB1 := hB1.kp hk7 (by simp; omega)
  have hB2 := hB2.kp hk7 (by simp; omega)
  have hR7 : Rdr D p ab cb bs q2.2 w7 := by
    obtain ⟨r1, at', r2, r3⟩ := hR6
    refine ⟨r1.kp hk7 fun b o u hu => ?_, at', r2.kp hk7 (by simp; omega), r3⟩
    have := h.1.lt b o u hu
    simp; omega
  refine ldN [.pointer (some ⟨p, 0, none⟩)] rfl (fun j v hj => by rw [Nat.zero_add]; exact hB1.cl hj) ?_
  have c3 := rnum_ct hin hR7
  rw [hq3] at c3
  refine ev_call c3 ?_
  rintro e w8 ⟨rfl, hR8, hk8⟩
  have hB1 := hB1.kp hk8 (by simp; omega)
  have hB2 := hB2.kp hk8 (by simp; omega)
  have hB3 := hB3.kp hk8 (by simp; omega)
  refine st hB3 (by simp) rfl fun w9 hB3 hs9 hk9 => ?_
  have hB1 := hB1.kp hk9 (by simp; omega)
  have hB2 := hB2.kp hk9 (by simp; omega)
  have hR9 : Rdr D p ab cb bs q3.2 w9 := by
    obtain ⟨r1, at', r2, r3⟩ := hR8
    refine ⟨r1.kp hk9 fun b o u hu => ?_, at', r2.kp hk9 (by simp; omega), r3⟩
    have := h.1.lt b o u hu
    simp; omega
  refine ldN [.pointer (some ⟨p, 0, none⟩)] rfl (fun j v hj => by rw [Nat.zero_add]; exact hB1.cl hj) ?_
  have c4 := manyInt_ct hin hR9
  rw [hq4] at c4
  refine ev_call c4 ?_
  rintro e w10 ⟨a, cap, rfl, hSl, hR10, hk10⟩
  have hz : w9.heap.size ≤ w10.heap.size := hk10.size
  have z6 := hk6.size
  have z8 := hk8.size
  have hB2 := hB2.kp hk10 (by simp; omega)
  have hB3 := hB3.kp hk10 (by simp; omega)
  refine st hB3 (by simp) rfl fun w11 hB3 hs11 hk11 => ?_
  have hB2 := hB2.kp hk11 (by simp; omega)
  have hB3 : Bk w11.heap b3 [.int .i64 (q1.1 : Int), .int .i64 (q2.1 : Int), .int .i64 (q3.1 : Int), .slice a q4.1.length cap] 45 := hB3
  refine ldN [.int .i64 (q1.1 : Int), .int .i64 (q2.1 : Int), .int .i64 (q3.1 : Int), .slice a q4.1.length cap] rfl (fun j v hj => by rw [Nat.zero_add]; exact hB3.cl hj) ?_
  refine stN hB2 rfl (by simp [Value.oneCell']) fun w12 hB2 hs12 hk12 => ?_
  have K : Kp [b3, b2] w10 w12 := (hk11.weak (by simp)).trans (hk12.weak (Y := [b3, b2]) (by simp)) (fun x hx _ => hx)
  have K0 : Kp [p] w w12 := by
    have k3 : Kp [p] w w3 := (hk02.weak (by simp)).trans hk3 (fun x hx _ => hx)
    have k6 : Kp [p] w w6 := (k3.tr hk35).trans hk6 (fun x hx _ => hx)
    have k7 : Kp [p] w w7 := k6.trans hk7 (fun x hx hl => by simp at hx; omega)
    have k8 : Kp [p] w w8 := k7.trans hk8 (fun x hx _ => hx)
    have k9 : Kp [p] w w9 := k8.trans hk9 (fun x hx hl => by simp at hx; omega)
    have k10 : Kp [p] w w10 := k9.trans hk10 (fun x hx _ => hx)
    exact k10.trans K (fun x hx hl => by simp at hx; omega)
  refine resN τok rfl [.int .i64 (q1.1 : Int), .int .i64 (q2.1 : Int), .int .i64 (q3.1 : Int), .slice a q4.1.length cap] rfl (fun j v hj => hB2.cl hj) ?_
  refine ⟨a, cap, rfl, hSl.mono fun b o u hu => ⟨by have := hu.1; omega, hu.2.kp K ?_⟩, ?_, K0⟩
  · have := hu.1
    simp
    omega
  · obtain ⟨r1, at', r2, r3⟩ := hR10
    refine ⟨r1.kp K fun b o u hu => ?_, at', r2.kp K (by simp; omega), r3⟩
    have := h.1.lt b o u hu
    simp; omega

theorem ins_i64 (s : RS) : I64 (insM s).1.op ∧ I64 (insM s).1.a ∧ I64 (insM s).1.b := by
  unfold insM I64
  have h1 := num_le 255 s
  have h2 := num_le 1048576 (numM 255 s).2
  have h3 := num_le 1048576 (numM 1048576 (numM 255 s).2).2
  simp only
  omega

theorem manyIns_ct (hin : Rin D p ab cb bs) (h : Rdr D p ab cb bs s w) : CallOk Try.prog 64 ∧ Calls Try.prog 64 #[.agg #[.pointer (some ⟨p, 0, none⟩)], .func (.func 65) #[] #[]] w
    (fun e w' => ∃ a cap, e = .returned (.slice a (manyM insM s).1.length cap) ∧ Sl rIns (New w.heap.size w') a (manyM insM s).1 ∧ Rdr D p ab cb bs (manyM insM s).2 w' ∧ Kp [p] w w') := by
  obtain ⟨RES, hRES⟩ : ∃ r, manyM insM s = r := ⟨_, rfl⟩
  have hRl := manyM_len insM s
  rw [hRES] at hRl ⊢
  have hpl := h.lt
  have hD := h.1
  have hNle := num_le 1048576 s
  unfold manyM at hRES
  refine ⟨⟨_, Try.func64, rfl, by decide⟩, ?_⟩
  refine calls_of (args := [_, _]) 24 [.tmp 4] τok Try.func64 rfl rfl rfl (Nat.le_of_ble_eq_true rfl) ?_
  refine new fun b2 w2 hb2 hB2 hs2 hk2 => ?_
  have hB2 : Bk w2.heap b2 [.pointer (some ⟨p, 0, none⟩)] 83 := hB2
  refine ldN [.pointer (some ⟨p, 0, none⟩)] rfl (fun j v hj => by rw [Nat.zero_add]; exact hB2.cl hj) ?_
  refine ev_call (rnum_ct hin (h.kp hk2)) ?_
  rintro e w3 ⟨rfl, hR3, hk3⟩
  obtain ⟨N, hN⟩ : ∃ N, (numM 1048576 s).1 = N := ⟨_, rfl⟩
  rw [hN] at hRES hNle
  rw [hN]
  have hB3 := hB2.kp hk3 (by simp; omega)
  have hk13 : Kp [p] w w3 := (hk2.weak (by simp)).trans hk3 (fun x hx _ => hx)
  have hsz3 := hk3.size
  refine lp τok (σ := Nat × Value × List Ins × RS) (fun q => [(1, .func (.func 65) #[] #[]), (2, .pointer (some ⟨b2, 0, none⟩)), (5, q.2.1), (8, .int .i64 (N : Int)), (9, .int .i64 (q.1 : Int))])
    (fun q w' => q.1 ≤ N ∧ q.2.2.1.length = q.1 ∧ Own rIns 45 (b2 + 1) w' q.2.1 q.2.2.1 ∧ Rdr D p ab cb bs q.2.2.2 w' ∧ Bk w'.heap b2 [.pointer (some ⟨p, 0, none⟩)] 83 ∧ Kp [p] w w' ∧ RES = manyL insM (N - q.1) q.2.2.1 q.2.2.2) (fun q => N - q.1)
    (0, .slice none 0 0, [], (numM 1048576 s).2) rfl ⟨rfl, rfl, rfl, rfl, rfl, trivial⟩ ⟨Nat.zero_le _, rfl, Own.nil _ _ (by omega), hR3, hB3, hk13, hRES.symm⟩ ?_
  rintro ⟨k, v, acc, st⟩ w4 ⟨hk, hal, hO, hR4, hB4, hkp, hres⟩
  simp only at hk hal hO hR4 hres
  refine br_dec (fun h1 => ?_) (fun h1 => ?_)
  · have hlt : k < N := by omega
    obtain ⟨m, hm⟩ : ∃ m, N - k = m + 1 := ⟨N - k - 1, by omega⟩
    have hm' : N - (k + 1) = m := by omega
    rw [hm] at hres
    simp only [manyL] at hres
    refine ldN [.pointer (some ⟨p, 0, none⟩)] rfl (fun j v hj => by rw [Nat.zero_add]; exact hB4.cl hj) ?_
    refine ev_call (instr_ct hin hR4) ?_
    rintro e w5 ⟨ae, ce, rfl, hSe, hR5, hk5⟩
    have hkp5 : Kp [p] w w5 := hkp.trans hk5 (fun x hx _ => hx)
    have hB5 := hB4.kp hk5 (by simp; omega)
    have hO5 := hO.kpl hk5 (by simp; omega)
    refine new fun bz wz hbz hBz hsz hkz => ?_
    refine stN hBz rfl (by simp [Value.oneCell']) fun wy hBy hsy hky => ?_
    have hk5y : Kp [] w5 wy := hkz.newSt hbz hky
    have hB5y := hB5.kp hk5y (by simp)
    refine ld (hB5y.cl rfl).cell ?_
    refine ev_call (err_ct (hR5.kp hk5y)) ?_
    rintro e w6 ⟨rfl, hk6⟩
    have hk6 : Kp [] w5 w6 := hk5y.tr hk6
    have hBy6 := hBy.kp ‹Kp [] wy w6› (by simp)
    have hkp6 := hkp5.tr hk6
    refine br_dec (fun h2 => ?_) (fun h2 => ?_)
    · have h2 : (insM st).2.2 ≠ 0 := h2
      rw [if_pos h2] at hres
      rw [hres]
      exact ⟨none, 0, rfl, Sl.nil _ _ _, hR5.kp hk6, hkp6⟩
    have h2 : ¬ (insM st).2.2 ≠ 0 := h2
    rw [if_neg h2] at hres
    refine ldN [.int .i64 (insM st).1.op, .int .i64 (insM st).1.a, .int .i64 (insM st).1.b, .slice ae (insM st).1.to.length ce] rfl (fun j v hj => by rw [Nat.zero_add]; exact hBy6.cl hj) ?_
    refine fill [.int .i64 (insM st).1.op, .int .i64 (insM st).1.a, .int .i64 (insM st).1.b, .slice ae (insM st).1.to.length ce] rfl ?_
    refine new fun b7 w7 hb7 hB7 hs7 hk7 => ?_
    have hk57 : Kp [] w5 w7 := hk6.tr hk7
    refine (hO5.kp hk57).ap1 τok rfl rfl (by decide) (insM st).1 [.int .i64 (insM st).1.op, .int .i64 (insM st).1.a, .int .i64 (insM st).1.b, .slice ae (insM st).1.to.length ce] (⟨ae, ce, rfl, hSe.mono (new_dn hO hk57), (ins_i64 st).1, (ins_i64 st).2.1, (ins_i64 st).2.2⟩) (fun j u hj => by rw [Nat.zero_add]; exact hB7.cl hj) (by rw [hal]; omega) (by rw [hal]; simp only [maxLen]; omega) fun v' w8 hO8 hk8 _ => ?_
    have hvb : ∀ x ∈ v.ownBlock.toList, b2 + 1 ≤ x := fun x hx => (hO.block x (by simpa using hx)).1
    refine int64 (by omega) (by omega) ?_
    refine ⟨(k + 1, v', acc ++ [(insM st).1], (insM st).2), by simp only; omega, rfl, ⟨rfl, rfl, rfl, rfl, rfl, trivial⟩, hlt, by simp [hal], hO8, ?_, ?_, ?_, by simp only; rw [hm']; exact hres⟩
    · have hR7 := hR5.kp hk57
      obtain ⟨q1, at', q2, q3⟩ := hR7
      have hp8 : p ∉ v.ownBlock.toList := fun hx => by have := hvb p hx; omega
      refine ⟨q1.kp hk8 fun b o u hu hx => ?_, at', q2.kp hk8 hp8, q3⟩
      have := hvb b hx
      have := hD.lt b o u hu
      omega
    · exact (hB5.kp hk57 (by simp)).kp hk8 fun hx => by have := hvb b2 hx; omega
    · exact (hkp6.tr hk7).trans hk8 fun x hx hl => by have := hvb x hx; omega
  · have hke : N - k = 0 := by omega
    rw [hke] at hres
    have hres : RES = (acc, st) := hres
    subst hres
    obtain ⟨a, cap, rfl, hSl⟩ := hO.den (by simp only at hRl; omega)
    exact ⟨a, cap, rfl, hSl.mono fun b o u hu => ⟨by have := hu.1; omega, hu.2⟩, hR4, hkp⟩

theorem rblock_ct (hin : Rin D p ab cb bs) (h : Rdr D p ab cb bs s w) : CallOk Try.prog 41 ∧ Calls Try.prog 41 #[.agg #[.pointer (some ⟨p, 0, none⟩)]] w
    (fun e w' => ∃ a cap, e = .returned (.slice a (rblockM s).1.length cap) ∧ Sl rIns (New w.heap.size w') a (rblockM s).1 ∧ Rdr D p ab cb bs (rblockM s).2 w' ∧ Kp [p] w w') := by
  refine ⟨⟨_, Try.func41, rfl, by decide⟩, ?_⟩
  refine calls_of (args := [_]) 5 [.tmp 2] τok Try.func41 rfl rfl rfl (Nat.le_of_ble_eq_true rfl) ?_
  refine new fun b1 w1 hb1 hB1 hs1 hk1 => ?_
  have hB1 : Bk w1.heap b1 [.pointer (some ⟨p, 0, none⟩)] 83 := hB1
  refine ldN [.pointer (some ⟨p, 0, none⟩)] rfl (fun j v hj => by rw [Nat.zero_add]; exact hB1.cl hj) ?_
  refine ev_call (manyIns_ct hin (h.kp hk1)) ?_
  rintro e w2 ⟨a, cap, rfl, hSl, hR, hk2⟩
  exact ⟨a, cap, rfl, hSl.mono fun b o u hu => ⟨by have := hu.1; omega, hu.2⟩, hR, (hk1.weak (by simp)).trans hk2 (fun x hx _ => hx)⟩

theorem bit_ct (hin : Rin D p ab cb bs) (h : Rdr D p ab cb bs s w) : CallOk Try.prog 84 ∧ Calls Try.prog 84 #[.agg #[.pointer (some ⟨p, 0, none⟩)]] w (fun e w' => e = .returned (.bool (bitM s).1) ∧ Rdr D p ab cb bs (bitM s).2 w' ∧ Kp [p] w w') := by
  refine ⟨⟨_, Try.func84, rfl, by decide⟩, ?_⟩
  refine calls_of (args := [_]) 7 [.tmp 2] τok Try.func84 rfl rfl rfl (Nat.le_of_ble_eq_true rfl) ?_
  refine new fun b1 w1 hb1 hB1 hs1 hk1 => ?_
  refine ld (hB1.cl rfl).cell ?_
  refine ev_call (Num_ct hin (h.kp hk1) 1 (by omega)) ?_
  rintro e w2 ⟨rfl, hR, hk2⟩
  exact ⟨rfl, hR, (hk1.weak (by simp)).trans hk2 (fun x hx _ => hx)⟩

theorem manyBool_ct (hin : Rin D p ab cb bs) (h : Rdr D p ab cb bs s w) : CallOk Try.prog 83 ∧ Calls Try.prog 83 #[.agg #[.pointer (some ⟨p, 0, none⟩)], .func (.func 84) #[] #[]] w
    (fun e w' => ∃ a cap, e = .returned (.slice a (manyM bitM s).1.length cap) ∧ Sl rBool (New w.heap.size w') a (manyM bitM s).1 ∧ Rdr D p ab cb bs (manyM bitM s).2 w' ∧ Kp [p] w w') := by
  obtain ⟨RES, hRES⟩ : ∃ r, manyM bitM s = r := ⟨_, rfl⟩
  have hRl := manyM_len bitM s
  rw [hRES] at hRl ⊢
  have hpl := h.lt
  have hD := h.1
  have hNle := num_le 1048576 s
  unfold manyM at hRES
  refine ⟨⟨_, Try.func83, rfl, by decide⟩, ?_⟩
  refine calls_of (args := [_, _]) 24 [.tmp 4] τok Try.func83 rfl rfl rfl (Nat.le_of_ble_eq_true rfl) ?_
  refine new fun b2 w2 hb2 hB2 hs2 hk2 => ?_
  have hB2 : Bk w2.heap b2 [.pointer (some ⟨p, 0, none⟩)] 83 := hB2
  refine ldN [.pointer (some ⟨p, 0, none⟩)] rfl (fun j v hj => by rw [Nat.zero_add]; exact hB2.cl hj) ?_
  refine ev_call (rnum_ct hin (h.kp hk2)) ?_
  rintro e w3 ⟨rfl, hR3, hk3⟩
  obtain ⟨N, hN⟩ : ∃ N, (numM 1048576 s).1 = N := ⟨_, rfl⟩
  rw [hN] at hRES hNle
  rw [hN]
  have hB3 := hB2.kp hk3 (by simp; omega)
  have hk13 : Kp [p] w w3 := (hk2.weak (by simp)).trans hk3 (fun x hx _ => hx)
  have hsz3 := hk3.size
  refine lp τok (σ := Nat × Value × List Bool × RS) (fun q => [(1, .func (.func 84) #[] #[]), (2, .pointer (some ⟨b2, 0, none⟩)), (5, q.2.1), (8, .int .i64 (N : Int)), (9, .int .i64 (q.1 : Int))])
    (fun q w' => q.1 ≤ N ∧ q.2.2.1.length = q.1 ∧ Own rBool 4 (b2 + 1) w' q.2.1 q.2.2.1 ∧ Rdr D p ab cb bs q.2.2.2 w' ∧ Bk w'.heap b2 [.pointer (some ⟨p, 0, none⟩)] 83 ∧ Kp [p] w w' ∧ RES = manyL bitM (N - q.1) q.2.2.1 q.2.2.2) (fun q => N - q.1)
    (0, .slice none 0 0, [], (numM 1048576 s).2) rfl ⟨rfl, rfl, rfl, rfl, rfl, trivial⟩ ⟨Nat.zero_le _, rfl, Own.nil _ _ (by omega), hR3, hB3, hk13, hRES.symm⟩ ?_
  rintro ⟨k, v, acc, st⟩ w4 ⟨hk, hal, hO, hR4, hB4, hkp, hres⟩
  simp only at hk hal hO hR4 hres
  refine br_dec (fun h1 => ?_) (fun h1 => ?_)
  · have hlt : k < N := by omega
    obtain ⟨m, hm⟩ : ∃ m, N - k = m + 1 := ⟨N - k - 1, by omega⟩
    have hm' : N - (k + 1) = m := by omega
    rw [hm] at hres
    simp only [manyL] at hres
    refine ldN [.pointer (some ⟨p, 0, none⟩)] rfl (fun j v hj => by rw [Nat.zero_add]; exact hB4.cl hj) ?_
    refine ev_call (bit_ct hin hR4) ?_
    rintro e w5 ⟨rfl, hR5, hk5⟩
    have hkp5 : Kp [p] w w5 := hkp.trans hk5 (fun x hx _ => hx)
    have hB5 := hB4.kp hk5 (by simp; omega)
    have hO5 := hO.kpl hk5 (by simp; omega)

    refine ld (hB5.cl rfl).cell ?_
    refine ev_call (err_ct hR5) ?_
    rintro e w6 ⟨rfl, hk6⟩
    have hkp6 := hkp5.tr hk6
    refine br_dec (fun h2 => ?_) (fun h2 => ?_)
    · have h2 : (bitM st).2.2 ≠ 0 := h2
      rw [if_pos h2] at hres
      rw [hres]
      exact ⟨none, 0, rfl, Sl.nil _ _ _, hR5.kp hk6, hkp6⟩
    have h2 : ¬ (bitM st).2.2 ≠ 0 := h2
    rw [if_neg h2] at hres

    refine fill [.bool (bitM st).1] rfl ?_
    refine new fun b7 w7 hb7 hB7 hs7 hk7 => ?_
    have hk57 : Kp [] w5 w7 := hk6.tr hk7
    refine (hO5.kp hk57).ap1 τok rfl rfl (by decide) (bitM st).1 [.bool (bitM st).1] (rfl) (fun j u hj => by rw [Nat.zero_add]; exact hB7.cl hj) (by rw [hal]; omega) (by rw [hal]; simp only [maxLen]; omega) fun v' w8 hO8 hk8 _ => ?_
    have hvb : ∀ x ∈ v.ownBlock.toList, b2 + 1 ≤ x := fun x hx => (hO.block x (by simpa using hx)).1
    refine int64 (by omega) (by omega) ?_
    refine ⟨(k + 1, v', acc ++ [(bitM st).1], (bitM st).2), by simp only; omega, rfl, ⟨rfl, rfl, rfl, rfl, rfl, trivial⟩, hlt, by simp [hal], hO8, ?_, ?_, ?_, by simp only; rw [hm']; exact hres⟩
    · have hR7 := hR5.kp hk57
      obtain ⟨q1, at', q2, q3⟩ := hR7
      have hp8 : p ∉ v.ownBlock.toList := fun hx => by have := hvb p hx; omega
      refine ⟨q1.kp hk8 fun b o u hu hx => ?_, at', q2.kp hk8 hp8, q3⟩
      have := hvb b hx
      have := hD.lt b o u hu
      omega
    · exact (hB5.kp hk57 (by simp)).kp hk8 fun hx => by have := hvb b2 hx; omega
    · exact (hkp6.tr hk7).trans hk8 fun x hx hl => by have := hvb x hx; omega
  · have hke : N - k = 0 := by omega
    rw [hke] at hres
    have hres : RES = (acc, st) := hres
    subst hres
    obtain ⟨a, cap, rfl, hSl⟩ := hO.den (by simp only at hRl; omega)
    exact ⟨a, cap, rfl, hSl.mono fun b o u hu => ⟨by have := hu.1; omega, hu.2⟩, hR4, hkp⟩

theorem kept_ct (hin : Rin D p ab cb bs) (h : Rdr D p ab cb bs s w) : CallOk Try.prog 63 ∧ Calls Try.prog 63 #[.agg #[.pointer (some ⟨p, 0, none⟩)]] w
    (fun e w' => ∃ a cap, e = .returned (.slice a (rkeptM s).1.length cap) ∧ Sl rBool (New w.heap.size w') a (rkeptM s).1 ∧ Rdr D p ab cb bs (rkeptM s).2 w' ∧ Kp [p] w w') := by
  refine ⟨⟨_, Try.func63, rfl, by decide⟩, ?_⟩
  refine calls_of (args := [_]) 5 [.tmp 2] τok Try.func63 rfl rfl rfl (Nat.le_of_ble_eq_true rfl) ?_
  refine new fun b1 w1 hb1 hB1 hs1 hk1 => ?_
  have hB1 : Bk w1.heap b1 [.pointer (some ⟨p, 0, none⟩)] 83 := hB1
  refine ldN [.pointer (some ⟨p, 0, none⟩)] rfl (fun j v hj => by rw [Nat.zero_add]; exact hB1.cl hj) ?_
  refine ev_call (manyBool_ct hin (h.kp hk1)) ?_
  rintro e w2 ⟨a, cap, rfl, hSl, hR, hk2⟩
  exact ⟨a, cap, rfl, hSl.mono fun b o u hu => ⟨by have := hu.1; omega, hu.2⟩, hR, (hk1.weak (by simp)).trans hk2 (fun x hx _ => hx)⟩

theorem manyKept_ct (hin : Rin D p ab cb bs) (h : Rdr D p ab cb bs s w) : CallOk Try.prog 62 ∧ Calls Try.prog 62 #[.agg #[.pointer (some ⟨p, 0, none⟩)], .func (.func 63) #[] #[]] w
    (fun e w' => ∃ a cap, e = .returned (.slice a (manyM rkeptM s).1.length cap) ∧ Sl (rSl rBool) (New w.heap.size w') a (manyM rkeptM s).1 ∧ Rdr D p ab cb bs (manyM rkeptM s).2 w' ∧ Kp [p] w w') := by
  obtain ⟨RES, hRES⟩ : ∃ r, manyM rkeptM s = r := ⟨_, rfl⟩
  have hRl := manyM_len rkeptM s
  rw [hRES] at hRl ⊢
  have hpl := h.lt
  have hD := h.1
  have hNle := num_le 1048576 s
  unfold manyM at hRES
  refine ⟨⟨_, Try.func62, rfl, by decide⟩, ?_⟩
  refine calls_of (args := [_, _]) 24 [.tmp 4] τok Try.func62 rfl rfl rfl (Nat.le_of_ble_eq_true rfl) ?_
  refine new fun b2 w2 hb2 hB2 hs2 hk2 => ?_
  have hB2 : Bk w2.heap b2 [.pointer (some ⟨p, 0, none⟩)] 83 := hB2
  refine ldN [.pointer (some ⟨p, 0, none⟩)] rfl (fun j v hj => by rw [Nat.zero_add]; exact hB2.cl hj) ?_
  refine ev_call (rnum_ct hin (h.kp hk2)) ?_
  rintro e w3 ⟨rfl, hR3, hk3⟩
  obtain ⟨N, hN⟩ : ∃ N, (numM 1048576 s).1 = N := ⟨_, rfl⟩
  rw [hN] at hRES hNle
  rw [hN]
  have hB3 := hB2.kp hk3 (by simp; omega)
  have hk13 : Kp [p] w w3 := (hk2.weak (by simp)).trans hk3 (fun x hx _ => hx)
  have hsz3 := hk3.size
  refine lp τok (σ := Nat × Value × List (List Bool) × RS) (fun q => [(1, .func (.func 63) #[] #[]), (2, .pointer (some ⟨b2, 0, none⟩)), (5, q.2.1), (8, .int .i64 (N : Int)), (9, .int .i64 (q.1 : Int))])
    (fun q w' => q.1 ≤ N ∧ q.2.2.1.length = q.1 ∧ Own (rSl rBool) 99 (b2 + 1) w' q.2.1 q.2.2.1 ∧ Rdr D p ab cb bs q.2.2.2 w' ∧ Bk w'.heap b2 [.pointer (some ⟨p, 0, none⟩)] 83 ∧ Kp [p] w w' ∧ RES = manyL rkeptM (N - q.1) q.2.2.1 q.2.2.2) (fun q => N - q.1)
    (0, .slice none 0 0, [], (numM 1048576 s).2) rfl ⟨rfl, rfl, rfl, rfl, rfl, trivial⟩ ⟨Nat.zero_le _, rfl, Own.nil _ _ (by omega), hR3, hB3, hk13, hRES.symm⟩ ?_
  rintro ⟨k, v, acc, st⟩ w4 ⟨hk, hal, hO, hR4, hB4, hkp, hres⟩
  simp only at hk hal hO hR4 hres
  refine br_dec (fun h1 => ?_) (fun h1 => ?_)
  · have hlt : k < N := by omega
    obtain ⟨m, hm⟩ : ∃ m, N - k = m + 1 := ⟨N - k - 1, by omega⟩
    have hm' : N - (k + 1) = m := by omega
    rw [hm] at hres
    simp only [manyL] at hres
    refine ldN [.pointer (some ⟨p, 0, none⟩)] rfl (fun j v hj => by rw [Nat.zero_add]; exact hB4.cl hj) ?_
    refine ev_call (kept_ct hin hR4) ?_
    rintro e w5 ⟨ae, ce, rfl, hSe, hR5, hk5⟩
    have hkp5 : Kp [p] w w5 := hkp.trans hk5 (fun x hx _ => hx)
    have hB5 := hB4.kp hk5 (by simp; omega)
    have hO5 := hO.kpl hk5 (by simp; omega)

    refine ld (hB5.cl rfl).cell ?_
    refine ev_call (err_ct hR5) ?_
    rintro e w6 ⟨rfl, hk6⟩
    have hkp6 := hkp5.tr hk6
    refine br_dec (fun h2 => ?_) (fun h2 => ?_)
    · have h2 : (rkeptM st).2.2 ≠ 0 := h2
      rw [if_pos h2] at hres
      rw [hres]
      exact ⟨none, 0, rfl, Sl.nil _ _ _, hR5.kp hk6, hkp6⟩
    have h2 : ¬ (rkeptM st).2.2 ≠ 0 := h2
    rw [if_neg h2] at hres

    refine fill [.slice ae (rkeptM st).1.length ce] rfl ?_
    refine new fun b7 w7 hb7 hB7 hs7 hk7 => ?_
    have hk57 : Kp [] w5 w7 := hk6.tr hk7
    refine (hO5.kp hk57).ap1 τok rfl rfl (by decide) (rkeptM st).1 [.slice ae (rkeptM st).1.length ce] (⟨ae, ce, rfl, hSe.mono (new_dn hO hk57)⟩) (fun j u hj => by rw [Nat.zero_add]; exact hB7.cl hj) (by rw [hal]; omega) (by rw [hal]; simp only [maxLen]; omega) fun v' w8 hO8 hk8 _ => ?_
    have hvb : ∀ x ∈ v.ownBlock.toList, b2 + 1 ≤ x := fun x hx => (hO.block x (by simpa using hx)).1
    refine int64 (by omega) (by omega) ?_
    refine ⟨(k + 1, v', acc ++ [(rkeptM st).1], (rkeptM st).2), by simp only; omega, rfl, ⟨rfl, rfl, rfl, rfl, rfl, trivial⟩, hlt, by simp [hal], hO8, ?_, ?_, ?_, by simp only; rw [hm']; exact hres⟩
    · have hR7 := hR5.kp hk57
      obtain ⟨q1, at', q2, q3⟩ := hR7
      have hp8 : p ∉ v.ownBlock.toList := fun hx => by have := hvb p hx; omega
      refine ⟨q1.kp hk8 fun b o u hu hx => ?_, at', q2.kp hk8 hp8, q3⟩
      have := hvb b hx
      have := hD.lt b o u hu
      omega
    · exact (hB5.kp hk57 (by simp)).kp hk8 fun hx => by have := hvb b2 hx; omega
    · exact (hkp6.tr hk7).trans hk8 fun x hx hl => by have := hvb x hx; omega
  · have hke : N - k = 0 := by omega
    rw [hke] at hres
    have hres : RES = (acc, st) := hres
    subst hres
    obtain ⟨a, cap, rfl, hSl⟩ := hO.den (by simp only at hRl; omega)
    exact ⟨a, cap, rfl, hSl.mono fun b o u hu => ⟨by have := hu.1; omega, hu.2⟩, hR4, hkp⟩

theorem shape_ct (hin : Rin D p ab cb bs) (h : Rdr D p ab cb bs s w) : CallOk Try.prog 37 ∧ Calls Try.prog 37 #[.agg #[.pointer (some ⟨p, 0, none⟩)]] w
    (fun e w' => ∃ a cap, e = .returned (.agg #[.int .i64 (rshpM s).1.params, .slice a (rshpM s).1.kept.length cap]) ∧ Sl (rSl rBool) (New w.heap.size w') a (rshpM s).1.kept ∧ Rdr D p ab cb bs (rshpM s).2 w' ∧ Kp [p] w w') := by
  have hpl := h.lt
  obtain ⟨q1, hq1⟩ : ∃ q, numM 1048576 s = q := ⟨_, rfl⟩
  obtain ⟨q2, hq2⟩ : ∃ q, manyM rkeptM q1.2 = q := ⟨_, rfl⟩
  have hM : rshpM s = (⟨(q1.1 : Int), q2.1⟩, q2.2) := by
    unfold rshpM
    simp only [hq1, hq2]
  rw [hM]
  refine ⟨⟨_, Try.func37, rfl, by decide⟩, ?_⟩
  refine calls_of (args := [_]) 11 [.cell 2 56] τok Try.func37 rfl rfl rfl (Nat.le_of_ble_eq_true rfl) ?_
  refine new fun b1 w1 hb1 hB1 hs1 hk1 => ?_
  have hB1 : Bk w1.heap b1 [.pointer (some ⟨p, 0, none⟩)] 83 := hB1
  refine new fun b2 w2 hb2 hB2 hs2 hk2 => ?_
  have hB2 : Bk w2.heap b2 [.int .i64 0, .slice none 0 0] 56 := hB2
  have hk02 := hk1.tr hk2
  have hB1 := hB1.kp hk2 (by simp)
  refine ldN [.pointer (some ⟨p, 0, none⟩)] rfl (fun j v hj => by rw [Nat.zero_add]; exact hB1.cl hj) ?_
  have c1 := rnum_ct hin (h.kp hk02)
  rw [hq1] at c1
  refine ev_call c1 ?_
  rintro e w3 ⟨rfl, hR3, hk3⟩
  have hB1 := hB1.kp hk3 (by simp; omega)
  have hB2 := hB2.kp hk3 (by simp; omega)
  have hz3 := hk3.size
  refine new fun b3 w4 hb3 hB3 hs4 hk4 => ?_
  refine stN (vs := [.int .i64 (q1.1 : Int), .slice none 0 0]) hB3 rfl (by simp [Value.oneCell']) fun w5 hB3 hs5 hk5 => ?_
  have hk35 : Kp [] w3 w5 := hk4.newSt hb3 hk5
  have hB1 := hB1.kp hk35 (by simp)
  have hB2 := hB2.kp hk35 (by simp)
  refine ldN [.pointer (some ⟨p, 0, none⟩)] rfl (fun j v hj => by rw [Nat.zero_add]; exact hB1.cl hj) ?_
  have c2 := manyKept_ct hin (hR3.kp hk35)
  rw [hq2] at c2
  refine ev_call c2 ?_
  rintro e w10 ⟨a, cap, rfl, hSl, hR10, hk10⟩
  have hz : w5.heap.size ≤ w10.heap.size := hk10.size
  have hB2 := hB2.kp hk10 (by simp; omega)
  have hB3 := hB3.kp hk10 (by simp; omega)
  refine st hB3 (by simp) rfl fun w11 hB3 hs11 hk11 => ?_
  have hB2 := hB2.kp hk11 (by simp; omega)
  have hB3 : Bk w11.heap b3 [.int .i64 (q1.1 : Int), .slice a q2.1.length cap] 56 := hB3
  refine ldN [.int .i64 (q1.1 : Int), .slice a q2.1.length cap] rfl (fun j v hj => by rw [Nat.zero_add]; exact hB3.cl hj) ?_
  refine stN hB2 rfl (by simp [Value.oneCell']) fun w12 hB2 hs12 hk12 => ?_
  have K : Kp [b3, b2] w10 w12 := (hk11.weak (by simp)).trans (hk12.weak (Y := [b3, b2]) (by simp)) (fun x hx _ => hx)
  have K0 : Kp [p] w w12 := by
    have k3 : Kp [p] w w3 := (hk02.weak (by simp)).trans hk3 (fun x hx _ => hx)
    have k10 : Kp [p] w w10 := (k3.tr hk35).trans hk10 (fun x hx _ => hx)
    exact k10.trans K (fun x hx hl => by simp at hx; omega)
  refine resN τok rfl [.int .i64 (q1.1 : Int), .slice a q2.1.length cap] rfl (fun j v hj => hB2.cl hj) ?_
  refine ⟨a, cap, rfl, hSl.mono fun b o u hu => ⟨by have := hu.1; omega, hu.2.kp K ?_⟩, ?_, K0⟩
  · have := hu.1
    simp
    omega
  · obtain ⟨r1, at', r2, r3⟩ := hR10
    refine ⟨r1.kp K fun b o u hu => ?_, at', r2.kp K (by simp; omega), r3⟩
    have := h.1.lt b o u hu
    simp; omega
theorem shape_i64 (s : RS) : I64 (rshpM s).1.params := by
  unfold rshpM I64
  have h1 := num_le 1048576 s
  simp only
  omega

theorem manyShp_ct (hin : Rin D p ab cb bs) (h : Rdr D p ab cb bs s w) : CallOk Try.prog 36 ∧ Calls Try.prog 36 #[.agg #[.pointer (some ⟨p, 0, none⟩)], .func (.func 37) #[] #[]] w
    (fun e w' => ∃ a cap, e = .returned (.slice a (manyM rshpM s).1.length cap) ∧ Sl rShp (New w.heap.size w') a (manyM rshpM s).1 ∧ Rdr D p ab cb bs (manyM rshpM s).2 w' ∧ Kp [p] w w') := by
  obtain ⟨RES, hRES⟩ : ∃ r, manyM rshpM s = r := ⟨_, rfl⟩
  have hRl := manyM_len rshpM s
  rw [hRES] at hRl ⊢
  have hpl := h.lt
  have hD := h.1
  have hNle := num_le 1048576 s
  unfold manyM at hRES
  refine ⟨⟨_, Try.func36, rfl, by decide⟩, ?_⟩
  refine calls_of (args := [_, _]) 24 [.tmp 4] τok Try.func36 rfl rfl rfl (Nat.le_of_ble_eq_true rfl) ?_
  refine new fun b2 w2 hb2 hB2 hs2 hk2 => ?_
  have hB2 : Bk w2.heap b2 [.pointer (some ⟨p, 0, none⟩)] 83 := hB2
  refine ldN [.pointer (some ⟨p, 0, none⟩)] rfl (fun j v hj => by rw [Nat.zero_add]; exact hB2.cl hj) ?_
  refine ev_call (rnum_ct hin (h.kp hk2)) ?_
  rintro e w3 ⟨rfl, hR3, hk3⟩
  obtain ⟨N, hN⟩ : ∃ N, (numM 1048576 s).1 = N := ⟨_, rfl⟩
  rw [hN] at hRES hNle
  rw [hN]
  have hB3 := hB2.kp hk3 (by simp; omega)
  have hk13 : Kp [p] w w3 := (hk2.weak (by simp)).trans hk3 (fun x hx _ => hx)
  have hsz3 := hk3.size
  refine lp τok (σ := Nat × Value × List Shp × RS) (fun q => [(1, .func (.func 37) #[] #[]), (2, .pointer (some ⟨b2, 0, none⟩)), (5, q.2.1), (8, .int .i64 (N : Int)), (9, .int .i64 (q.1 : Int))])
    (fun q w' => q.1 ≤ N ∧ q.2.2.1.length = q.1 ∧ Own rShp 56 (b2 + 1) w' q.2.1 q.2.2.1 ∧ Rdr D p ab cb bs q.2.2.2 w' ∧ Bk w'.heap b2 [.pointer (some ⟨p, 0, none⟩)] 83 ∧ Kp [p] w w' ∧ RES = manyL rshpM (N - q.1) q.2.2.1 q.2.2.2) (fun q => N - q.1)
    (0, .slice none 0 0, [], (numM 1048576 s).2) rfl ⟨rfl, rfl, rfl, rfl, rfl, trivial⟩ ⟨Nat.zero_le _, rfl, Own.nil _ _ (by omega), hR3, hB3, hk13, hRES.symm⟩ ?_
  rintro ⟨k, v, acc, st⟩ w4 ⟨hk, hal, hO, hR4, hB4, hkp, hres⟩
  simp only at hk hal hO hR4 hres
  refine br_dec (fun h1 => ?_) (fun h1 => ?_)
  · have hlt : k < N := by omega
    obtain ⟨m, hm⟩ : ∃ m, N - k = m + 1 := ⟨N - k - 1, by omega⟩
    have hm' : N - (k + 1) = m := by omega
    rw [hm] at hres
    simp only [manyL] at hres
    refine ldN [.pointer (some ⟨p, 0, none⟩)] rfl (fun j v hj => by rw [Nat.zero_add]; exact hB4.cl hj) ?_
    refine ev_call (shape_ct hin hR4) ?_
    rintro e w5 ⟨ae, ce, rfl, hSe, hR5, hk5⟩
    have hkp5 : Kp [p] w w5 := hkp.trans hk5 (fun x hx _ => hx)
    have hB5 := hB4.kp hk5 (by simp; omega)
    have hO5 := hO.kpl hk5 (by simp; omega)
    refine new fun bz wz hbz hBz hsz hkz => ?_
    refine stN hBz rfl (by simp [Value.oneCell']) fun wy hBy hsy hky => ?_
    have hk5y : Kp [] w5 wy := hkz.newSt hbz hky
    have hB5y := hB5.kp hk5y (by simp)
    refine ld (hB5y.cl rfl).cell ?_
    refine ev_call (err_ct (hR5.kp hk5y)) ?_
    rintro e w6 ⟨rfl, hk6⟩
    have hk6 : Kp [] w5 w6 := hk5y.tr hk6
    have hBy6 := hBy.kp ‹Kp [] wy w6› (by simp)
    have hkp6 := hkp5.tr hk6
    refine br_dec (fun h2 => ?_) (fun h2 => ?_)
    · have h2 : (rshpM st).2.2 ≠ 0 := h2
      rw [if_pos h2] at hres
      rw [hres]
      exact ⟨none, 0, rfl, Sl.nil _ _ _, hR5.kp hk6, hkp6⟩
    have h2 : ¬ (rshpM st).2.2 ≠ 0 := h2
    rw [if_neg h2] at hres
    refine ldN [.int .i64 (rshpM st).1.params, .slice ae (rshpM st).1.kept.length ce] rfl (fun j v hj => by rw [Nat.zero_add]; exact hBy6.cl hj) ?_
    refine fill [.int .i64 (rshpM st).1.params, .slice ae (rshpM st).1.kept.length ce] rfl ?_
    refine new fun b7 w7 hb7 hB7 hs7 hk7 => ?_
    have hk57 : Kp [] w5 w7 := hk6.tr hk7
    refine (hO5.kp hk57).ap1 τok rfl rfl (by decide) (rshpM st).1 [.int .i64 (rshpM st).1.params, .slice ae (rshpM st).1.kept.length ce] (⟨ae, ce, rfl, hSe.mono (new_dn hO hk57), shape_i64 st⟩) (fun j u hj => by rw [Nat.zero_add]; exact hB7.cl hj) (by rw [hal]; omega) (by rw [hal]; simp only [maxLen]; omega) fun v' w8 hO8 hk8 _ => ?_
    have hvb : ∀ x ∈ v.ownBlock.toList, b2 + 1 ≤ x := fun x hx => (hO.block x (by simpa using hx)).1
    refine int64 (by omega) (by omega) ?_
    refine ⟨(k + 1, v', acc ++ [(rshpM st).1], (rshpM st).2), by simp only; omega, rfl, ⟨rfl, rfl, rfl, rfl, rfl, trivial⟩, hlt, by simp [hal], hO8, ?_, ?_, ?_, by simp only; rw [hm']; exact hres⟩
    · have hR7 := hR5.kp hk57
      obtain ⟨q1, at', q2, q3⟩ := hR7
      have hp8 : p ∉ v.ownBlock.toList := fun hx => by have := hvb p hx; omega
      refine ⟨q1.kp hk8 fun b o u hu hx => ?_, at', q2.kp hk8 hp8, q3⟩
      have := hvb b hx
      have := hD.lt b o u hu
      omega
    · exact (hB5.kp hk57 (by simp)).kp hk8 fun hx => by have := hvb b2 hx; omega
    · exact (hkp6.tr hk7).trans hk8 fun x hx hl => by have := hvb x hx; omega
  · have hke : N - k = 0 := by omega
    rw [hke] at hres
    have hres : RES = (acc, st) := hres
    subst hres
    obtain ⟨a, cap, rfl, hSl⟩ := hO.den (by simp only at hRl; omega)
    exact ⟨a, cap, rfl, hSl.mono fun b o u hu => ⟨by have := hu.1; omega, hu.2⟩, hR4, hkp⟩

theorem fun_ct (hin : Rin D p ab cb bs) (h : Rdr D p ab cb bs s w) : CallOk Try.prog 39 ∧ Calls Try.prog 39 #[.agg #[.pointer (some ⟨p, 0, none⟩)]] w
    (fun e w' => ∃ a cap, e = .returned (.agg #[.int .i64 (rfnM s).1.caps, .slice a (rfnM s).1.code.length cap]) ∧ Sl rIns (New w.heap.size w') a (rfnM s).1.code ∧ Rdr D p ab cb bs (rfnM s).2 w' ∧ Kp [p] w w') := by
  have hpl := h.lt
  obtain ⟨q1, hq1⟩ : ∃ q, numM 1048576 s = q := ⟨_, rfl⟩
  obtain ⟨q2, hq2⟩ : ∃ q, rblockM q1.2 = q := ⟨_, rfl⟩
  have hM : rfnM s = (⟨(q1.1 : Int), q2.1⟩, q2.2) := by
    unfold rfnM
    simp only [hq1, hq2]
  rw [hM]
  refine ⟨⟨_, Try.func39, rfl, by decide⟩, ?_⟩
  refine calls_of (args := [_]) 11 [.cell 2 48] τok Try.func39 rfl rfl rfl (Nat.le_of_ble_eq_true rfl) ?_
  refine new fun b1 w1 hb1 hB1 hs1 hk1 => ?_
  have hB1 : Bk w1.heap b1 [.pointer (some ⟨p, 0, none⟩)] 83 := hB1
  refine new fun b2 w2 hb2 hB2 hs2 hk2 => ?_
  have hB2 : Bk w2.heap b2 [.int .i64 0, .slice none 0 0] 48 := hB2
  have hk02 := hk1.tr hk2
  have hB1 := hB1.kp hk2 (by simp)
  refine ldN [.pointer (some ⟨p, 0, none⟩)] rfl (fun j v hj => by rw [Nat.zero_add]; exact hB1.cl hj) ?_
  have c1 := rnum_ct hin (h.kp hk02)
  rw [hq1] at c1
  refine ev_call c1 ?_
  rintro e w3 ⟨rfl, hR3, hk3⟩
  have hB1 := hB1.kp hk3 (by simp; omega)
  have hB2 := hB2.kp hk3 (by simp; omega)
  have hz3 := hk3.size
  refine new fun b3 w4 hb3 hB3 hs4 hk4 => ?_
  refine stN (vs := [.int .i64 (q1.1 : Int), .slice none 0 0]) hB3 rfl (by simp [Value.oneCell']) fun w5 hB3 hs5 hk5 => ?_
  have hk35 : Kp [] w3 w5 := hk4.newSt hb3 hk5
  have hB1 := hB1.kp hk35 (by simp)
  have hB2 := hB2.kp hk35 (by simp)
  refine ldN [.pointer (some ⟨p, 0, none⟩)] rfl (fun j v hj => by rw [Nat.zero_add]; exact hB1.cl hj) ?_
  have c2 := rblock_ct hin (hR3.kp hk35)
  rw [hq2] at c2
  refine ev_call c2 ?_
  rintro e w10 ⟨a, cap, rfl, hSl, hR10, hk10⟩
  have hz : w5.heap.size ≤ w10.heap.size := hk10.size
  have hB2 := hB2.kp hk10 (by simp; omega)
  have hB3 := hB3.kp hk10 (by simp; omega)
  refine st hB3 (by simp) rfl fun w11 hB3 hs11 hk11 => ?_
  have hB2 := hB2.kp hk11 (by simp; omega)
  have hB3 : Bk w11.heap b3 [.int .i64 (q1.1 : Int), .slice a q2.1.length cap] 48 := hB3
  refine ldN [.int .i64 (q1.1 : Int), .slice a q2.1.length cap] rfl (fun j v hj => by rw [Nat.zero_add]; exact hB3.cl hj) ?_
  refine stN hB2 rfl (by simp [Value.oneCell']) fun w12 hB2 hs12 hk12 => ?_
  have K : Kp [b3, b2] w10 w12 := (hk11.weak (by simp)).trans (hk12.weak (Y := [b3, b2]) (by simp)) (fun x hx _ => hx)
  have K0 : Kp [p] w w12 := by
    have k3 : Kp [p] w w3 := (hk02.weak (by simp)).trans hk3 (fun x hx _ => hx)
    have k10 : Kp [p] w w10 := (k3.tr hk35).trans hk10 (fun x hx _ => hx)
    exact k10.trans K (fun x hx hl => by simp at hx; omega)
  refine resN τok rfl [.int .i64 (q1.1 : Int), .slice a q2.1.length cap] rfl (fun j v hj => hB2.cl hj) ?_
  refine ⟨a, cap, rfl, hSl.mono fun b o u hu => ⟨by have := hu.1; omega, hu.2.kp K ?_⟩, ?_, K0⟩
  · have := hu.1
    simp
    omega
  · obtain ⟨r1, at', r2, r3⟩ := hR10
    refine ⟨r1.kp K fun b o u hu => ?_, at', r2.kp K (by simp; omega), r3⟩
    have := h.1.lt b o u hu
    simp; omega
theorem fun_i64 (s : RS) : I64 (rfnM s).1.caps := by
  unfold rfnM I64
  have h1 := num_le 1048576 s
  simp only
  omega

theorem manyFn_ct (hin : Rin D p ab cb bs) (h : Rdr D p ab cb bs s w) : CallOk Try.prog 38 ∧ Calls Try.prog 38 #[.agg #[.pointer (some ⟨p, 0, none⟩)], .func (.func 39) #[] #[]] w
    (fun e w' => ∃ a cap, e = .returned (.slice a (manyM rfnM s).1.length cap) ∧ Sl rFn (New w.heap.size w') a (manyM rfnM s).1 ∧ Rdr D p ab cb bs (manyM rfnM s).2 w' ∧ Kp [p] w w') := by
  obtain ⟨RES, hRES⟩ : ∃ r, manyM rfnM s = r := ⟨_, rfl⟩
  have hRl := manyM_len rfnM s
  rw [hRES] at hRl ⊢
  have hpl := h.lt
  have hD := h.1
  have hNle := num_le 1048576 s
  unfold manyM at hRES
  refine ⟨⟨_, Try.func38, rfl, by decide⟩, ?_⟩
  refine calls_of (args := [_, _]) 24 [.tmp 4] τok Try.func38 rfl rfl rfl (Nat.le_of_ble_eq_true rfl) ?_
  refine new fun b2 w2 hb2 hB2 hs2 hk2 => ?_
  have hB2 : Bk w2.heap b2 [.pointer (some ⟨p, 0, none⟩)] 83 := hB2
  refine ldN [.pointer (some ⟨p, 0, none⟩)] rfl (fun j v hj => by rw [Nat.zero_add]; exact hB2.cl hj) ?_
  refine ev_call (rnum_ct hin (h.kp hk2)) ?_
  rintro e w3 ⟨rfl, hR3, hk3⟩
  obtain ⟨N, hN⟩ : ∃ N, (numM 1048576 s).1 = N := ⟨_, rfl⟩
  rw [hN] at hRES hNle
  rw [hN]
  have hB3 := hB2.kp hk3 (by simp; omega)
  have hk13 : Kp [p] w w3 := (hk2.weak (by simp)).trans hk3 (fun x hx _ => hx)
  have hsz3 := hk3.size
  refine lp τok (σ := Nat × Value × List Cd.Fn × RS) (fun q => [(1, .func (.func 39) #[] #[]), (2, .pointer (some ⟨b2, 0, none⟩)), (5, q.2.1), (8, .int .i64 (N : Int)), (9, .int .i64 (q.1 : Int))])
    (fun q w' => q.1 ≤ N ∧ q.2.2.1.length = q.1 ∧ Own rFn 48 (b2 + 1) w' q.2.1 q.2.2.1 ∧ Rdr D p ab cb bs q.2.2.2 w' ∧ Bk w'.heap b2 [.pointer (some ⟨p, 0, none⟩)] 83 ∧ Kp [p] w w' ∧ RES = manyL rfnM (N - q.1) q.2.2.1 q.2.2.2) (fun q => N - q.1)
    (0, .slice none 0 0, [], (numM 1048576 s).2) rfl ⟨rfl, rfl, rfl, rfl, rfl, trivial⟩ ⟨Nat.zero_le _, rfl, Own.nil _ _ (by omega), hR3, hB3, hk13, hRES.symm⟩ ?_
  rintro ⟨k, v, acc, st⟩ w4 ⟨hk, hal, hO, hR4, hB4, hkp, hres⟩
  simp only at hk hal hO hR4 hres
  refine br_dec (fun h1 => ?_) (fun h1 => ?_)
  · have hlt : k < N := by omega
    obtain ⟨m, hm⟩ : ∃ m, N - k = m + 1 := ⟨N - k - 1, by omega⟩
    have hm' : N - (k + 1) = m := by omega
    rw [hm] at hres
    simp only [manyL] at hres
    refine ldN [.pointer (some ⟨p, 0, none⟩)] rfl (fun j v hj => by rw [Nat.zero_add]; exact hB4.cl hj) ?_
    refine ev_call (fun_ct hin hR4) ?_
    rintro e w5 ⟨ae, ce, rfl, hSe, hR5, hk5⟩
    have hkp5 : Kp [p] w w5 := hkp.trans hk5 (fun x hx _ => hx)
    have hB5 := hB4.kp hk5 (by simp; omega)
    have hO5 := hO.kpl hk5 (by simp; omega)
    refine new fun bz wz hbz hBz hsz hkz => ?_
    refine stN hBz rfl (by simp [Value.oneCell']) fun wy hBy hsy hky => ?_
    have hk5y : Kp [] w5 wy := hkz.newSt hbz hky
    have hB5y := hB5.kp hk5y (by simp)
    refine ld (hB5y.cl rfl).cell ?_
    refine ev_call (err_ct (hR5.kp hk5y)) ?_
    rintro e w6 ⟨rfl, hk6⟩
    have hk6 : Kp [] w5 w6 := hk5y.tr hk6
    have hBy6 := hBy.kp ‹Kp [] wy w6› (by simp)
    have hkp6 := hkp5.tr hk6
    refine br_dec (fun h2 => ?_) (fun h2 => ?_)
    · have h2 : (rfnM st).2.2 ≠ 0 := h2
      rw [if_pos h2] at hres
      rw [hres]
      exact ⟨none, 0, rfl, Sl.nil _ _ _, hR5.kp hk6, hkp6⟩
    have h2 : ¬ (rfnM st).2.2 ≠ 0 := h2
    rw [if_neg h2] at hres
    refine ldN [.int .i64 (rfnM st).1.caps, .slice ae (rfnM st).1.code.length ce] rfl (fun j v hj => by rw [Nat.zero_add]; exact hBy6.cl hj) ?_
    refine fill [.int .i64 (rfnM st).1.caps, .slice ae (rfnM st).1.code.length ce] rfl ?_
    refine new fun b7 w7 hb7 hB7 hs7 hk7 => ?_
    have hk57 : Kp [] w5 w7 := hk6.tr hk7
    refine (hO5.kp hk57).ap1 τok rfl rfl (by decide) (rfnM st).1 [.int .i64 (rfnM st).1.caps, .slice ae (rfnM st).1.code.length ce] (⟨ae, ce, rfl, hSe.mono (new_dn hO hk57), fun_i64 st⟩) (fun j u hj => by rw [Nat.zero_add]; exact hB7.cl hj) (by rw [hal]; omega) (by rw [hal]; simp only [maxLen]; omega) fun v' w8 hO8 hk8 _ => ?_
    have hvb : ∀ x ∈ v.ownBlock.toList, b2 + 1 ≤ x := fun x hx => (hO.block x (by simpa using hx)).1
    refine int64 (by omega) (by omega) ?_
    refine ⟨(k + 1, v', acc ++ [(rfnM st).1], (rfnM st).2), by simp only; omega, rfl, ⟨rfl, rfl, rfl, rfl, rfl, trivial⟩, hlt, by simp [hal], hO8, ?_, ?_, ?_, by simp only; rw [hm']; exact hres⟩
    · have hR7 := hR5.kp hk57
      obtain ⟨q1, at', q2, q3⟩ := hR7
      have hp8 : p ∉ v.ownBlock.toList := fun hx => by have := hvb p hx; omega
      refine ⟨q1.kp hk8 fun b o u hu hx => ?_, at', q2.kp hk8 hp8, q3⟩
      have := hvb b hx
      have := hD.lt b o u hu
      omega
    · exact (hB5.kp hk57 (by simp)).kp hk8 fun hx => by have := hvb b2 hx; omega
    · exact (hkp6.tr hk7).trans hk8 fun x hx hl => by have := hvb x hx; omega
  · have hke : N - k = 0 := by omega
    rw [hke] at hres
    have hres : RES = (acc, st) := hres
    subst hres
    obtain ⟨a, cap, rfl, hSl⟩ := hO.den (by simp only at hRl; omega)
    exact ⟨a, cap, rfl, hSl.mono fun b o u hu => ⟨by have := hu.1; omega, hu.2⟩, hR4, hkp⟩

theorem manyBlock_ct (hin : Rin D p ab cb bs) (h : Rdr D p ab cb bs s w) : CallOk Try.prog 40 ∧ Calls Try.prog 40 #[.agg #[.pointer (some ⟨p, 0, none⟩)], .func (.func 41) #[] #[]] w
    (fun e w' => ∃ a cap, e = .returned (.slice a (manyM rblockM s).1.length cap) ∧ Sl (rSl rIns) (New w.heap.size w') a (manyM rblockM s).1 ∧ Rdr D p ab cb bs (manyM rblockM s).2 w' ∧ Kp [p] w w') := by
  obtain ⟨RES, hRES⟩ : ∃ r, manyM rblockM s = r := ⟨_, rfl⟩
  have hRl := manyM_len rblockM s
  rw [hRES] at hRl ⊢
  have hpl := h.lt
  have hD := h.1
  have hNle := num_le 1048576 s
  unfold manyM at hRES
  refine ⟨⟨_, Try.func40, rfl, by decide⟩, ?_⟩
  refine calls_of (args := [_, _]) 24 [.tmp 4] τok Try.func40 rfl rfl rfl (Nat.le_of_ble_eq_true rfl) ?_
  refine new fun b2 w2 hb2 hB2 hs2 hk2 => ?_
  have hB2 : Bk w2.heap b2 [.pointer (some ⟨p, 0, none⟩)] 83 := hB2
  refine ldN [.pointer (some ⟨p, 0, none⟩)] rfl (fun j v hj => by rw [Nat.zero_add]; exact hB2.cl hj) ?_
  refine ev_call (rnum_ct hin (h.kp hk2)) ?_
  rintro e w3 ⟨rfl, hR3, hk3⟩
  obtain ⟨N, hN⟩ : ∃ N, (numM 1048576 s).1 = N := ⟨_, rfl⟩
  rw [hN] at hRES hNle
  rw [hN]
  have hB3 := hB2.kp hk3 (by simp; omega)
  have hk13 : Kp [p] w w3 := (hk2.weak (by simp)).trans hk3 (fun x hx _ => hx)
  have hsz3 := hk3.size
  refine lp τok (σ := Nat × Value × List (List Ins) × RS) (fun q => [(1, .func (.func 41) #[] #[]), (2, .pointer (some ⟨b2, 0, none⟩)), (5, q.2.1), (8, .int .i64 (N : Int)), (9, .int .i64 (q.1 : Int))])
    (fun q w' => q.1 ≤ N ∧ q.2.2.1.length = q.1 ∧ Own (rSl rIns) 26 (b2 + 1) w' q.2.1 q.2.2.1 ∧ Rdr D p ab cb bs q.2.2.2 w' ∧ Bk w'.heap b2 [.pointer (some ⟨p, 0, none⟩)] 83 ∧ Kp [p] w w' ∧ RES = manyL rblockM (N - q.1) q.2.2.1 q.2.2.2) (fun q => N - q.1)
    (0, .slice none 0 0, [], (numM 1048576 s).2) rfl ⟨rfl, rfl, rfl, rfl, rfl, trivial⟩ ⟨Nat.zero_le _, rfl, Own.nil _ _ (by omega), hR3, hB3, hk13, hRES.symm⟩ ?_
  rintro ⟨k, v, acc, st⟩ w4 ⟨hk, hal, hO, hR4, hB4, hkp, hres⟩
  simp only at hk hal hO hR4 hres
  refine br_dec (fun h1 => ?_) (fun h1 => ?_)
  · have hlt : k < N := by omega
    obtain ⟨m, hm⟩ : ∃ m, N - k = m + 1 := ⟨N - k - 1, by omega⟩
    have hm' : N - (k + 1) = m := by omega
    rw [hm] at hres
    simp only [manyL] at hres
    refine ldN [.pointer (some ⟨p, 0, none⟩)] rfl (fun j v hj => by rw [Nat.zero_add]; exact hB4.cl hj) ?_
    refine ev_call (rblock_ct hin hR4) ?_
    rintro e w5 ⟨ae, ce, rfl, hSe, hR5, hk5⟩
    have hkp5 : Kp [p] w w5 := hkp.trans hk5 (fun x hx _ => hx)
    have hB5 := hB4.kp hk5 (by simp; omega)
    have hO5 := hO.kpl hk5 (by simp; omega)

    refine ld (hB5.cl rfl).cell ?_
    refine ev_call (err_ct hR5) ?_
    rintro e w6 ⟨rfl, hk6⟩
    have hkp6 := hkp5.tr hk6
    refine br_dec (fun h2 => ?_) (fun h2 => ?_)
    · have h2 : (rblockM st).2.2 ≠ 0 := h2
      rw [if_pos h2] at hres
      rw [hres]
      exact ⟨none, 0, rfl, Sl.nil _ _ _, hR5.kp hk6, hkp6⟩
    have h2 : ¬ (rblockM st).2.2 ≠ 0 := h2
    rw [if_neg h2] at hres

    refine fill [.slice ae (rblockM st).1.length ce] rfl ?_
    refine new fun b7 w7 hb7 hB7 hs7 hk7 => ?_
    have hk57 : Kp [] w5 w7 := hk6.tr hk7
    refine (hO5.kp hk57).ap1 τok rfl rfl (by decide) (rblockM st).1 [.slice ae (rblockM st).1.length ce] (⟨ae, ce, rfl, hSe.mono (new_dn hO hk57)⟩) (fun j u hj => by rw [Nat.zero_add]; exact hB7.cl hj) (by rw [hal]; omega) (by rw [hal]; simp only [maxLen]; omega) fun v' w8 hO8 hk8 _ => ?_
    have hvb : ∀ x ∈ v.ownBlock.toList, b2 + 1 ≤ x := fun x hx => (hO.block x (by simpa using hx)).1
    refine int64 (by omega) (by omega) ?_
    refine ⟨(k + 1, v', acc ++ [(rblockM st).1], (rblockM st).2), by simp only; omega, rfl, ⟨rfl, rfl, rfl, rfl, rfl, trivial⟩, hlt, by simp [hal], hO8, ?_, ?_, ?_, by simp only; rw [hm']; exact hres⟩
    · have hR7 := hR5.kp hk57
      obtain ⟨q1, at', q2, q3⟩ := hR7
      have hp8 : p ∉ v.ownBlock.toList := fun hx => by have := hvb p hx; omega
      refine ⟨q1.kp hk8 fun b o u hu hx => ?_, at', q2.kp hk8 hp8, q3⟩
      have := hvb b hx
      have := hD.lt b o u hu
      omega
    · exact (hB5.kp hk57 (by simp)).kp hk8 fun hx => by have := hvb b2 hx; omega
    · exact (hkp6.tr hk7).trans hk8 fun x hx hl => by have := hvb x hx; omega
  · have hke : N - k = 0 := by omega
    rw [hke] at hres
    have hres : RES = (acc, st) := hres
    subst hres
    obtain ⟨a, cap, rfl, hSl⟩ := hO.den (by simp only at hRl; omega)
    exact ⟨a, cap, rfl, hSl.mono fun b o u hu => ⟨by have := hu.1; omega, hu.2⟩, hR4, hkp⟩

end
end Go.Proofs.Ytjogpbiilokldaa
