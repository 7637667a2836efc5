/-
  Code: Decode.
-/
import Derived.Test.YtjogpbiilokldaaCdQ
set_option linter.unusedSimpArgs false
set_option linter.unusedVariables false
namespace Cd
open Go Go.Wx
def rcodM (s : RS) : Cod × RS :=
  let q1 := numM 1048576 s
  let q2 := manyM rshpM q1.2
  let q3 := manyM rfnM q2.2
  let q4 := manyM rblockM q3.2
  let q5 := rblockM q4.2
  (⟨(q1.1 : Int) - 1, q2.1, q3.1, q4.1, q5.1⟩, q5.2)
def Cod.none : Cod := ⟨0, [], [], [], []⟩
def decE (b : List Nat) : Int :=
  if 65536 < b.length then 6
  else if (rcodM (b, 0)).2.2 ≠ 0 then (rcodM (b, 0)).2.2
  else if 0 < (rcodM (b, 0)).2.1.length then 3
  else checkM (rcodM (b, 0)).1
def decC (b : List Nat) : Cod := if decE b = 0 then (rcodM (b, 0)).1 else Cod.none
theorem none_den (C : Mem) : rCod.den C [.int .i64 0, .slice .none 0 0, .slice .none 0 0, .slice .none 0 0, .slice .none 0 0] Cod.none :=
  ⟨.none, 0, .none, 0, .none, 0, .none, 0, rfl, Sl.nil _ _ _, Sl.nil _ _ _, Sl.nil _ _ _, Sl.nil _ _ _, by simp [I64, Cod.none]⟩
end Cd

namespace Go.Proofs.Ytjogpbiilokldaa
open Go.Wx Cd

theorem new_ct {C : Mem} {w : World} (hS : Sub C w) (l : List Nat) (a : Option Addr) (cap : Nat) (hl : Sl rU8 C a l) (hll : l.length ≤ 549755813888) :
    CallOk Try.prog 34 ∧ Calls Try.prog 34 #[.slice a l.length cap] w (fun e w' => ∃ D p ab cb, e = .returned (.pointer (some ⟨p, 0, none⟩)) ∧ Rin D p ab cb l ∧ Rdr D p ab cb l (l, 0) w' ∧ w.heap.size ≤ p ∧ Kp [] w w') := by
  refine ⟨⟨_, Try.func34, rfl, by decide⟩, ?_⟩
  refine calls_of (args := [_]) 8 [.tmp 2] τok Try.func34 rfl rfl rfl (Nat.le_of_ble_eq_true rfl) ?_
  refine ev_call (clone_ct hS l a cap hl hll) ?_
  rintro e w1 ⟨v, rfl, hO, hk1⟩
  obtain ⟨ab, cb, hv, hcap⟩ := hO.cap
  obtain ⟨ab', cb', hv', hSl⟩ := hO.den (by omega)
  rw [hv] at hv'
  injection hv' with e1 e2 e3
  subst e1 e3 hv
  refine new fun p w2 hp hP hs2 hk2 => ?_
  have hP : Bk w2.heap p [.slice ab l.length cb, .int .i64 ((0 : Nat) : Int), .int .i64 0] 125 := hP
  have hlt := (New.sub w.heap.size w1).lt
  have := hk1.size
  exact ⟨New w.heap.size w1, p, ab, cb, rfl, ⟨hSl, fun b o v hc => by have := hlt b o v hc; omega, hcap⟩, ⟨(New.sub _ w1).tr hk2, 0, hP, Nat.zero_le _, rfl⟩, by omega, hk1.tr hk2⟩

theorem Rdr.kpX {D : Mem} {p : Nat} {ab : Option Addr} {cb : Nat} {bs : List Nat} {s : RS} {w w' : World} {X : List Nat} (h : Rdr D p ab cb bs s w) (k : Kp X w w') (hp : p ∉ X) (hD : ∀ b o v, D b o v → b ∉ X) : Rdr D p ab cb bs s w' := by
  obtain ⟨r1, at', r2, r3⟩ := h
  exact ⟨r1.kp k hD, at', r2.kp k hp, r3⟩

theorem decode_ct {C : Mem} {w : World} (hS : Sub C w) (l : List Nat) (a : Option Addr) (cap : Nat) (hl : Sl rU8 C a l) :
    CallOk Try.prog 15 ∧ Calls Try.prog 15 #[.slice a l.length cap] w (fun e w' => ∃ cs, e = .returned (.tuple #[.agg cs.toArray, .int .i64 (decE l)]) ∧ rCod.den (New w.heap.size w') cs (decC l) ∧ Kp [] w w') := by
  refine ⟨⟨_, Try.func15, rfl, by decide⟩, ?_⟩
  obtain ⟨DE, hDE⟩ : ∃ n, decE l = n := ⟨_, rfl⟩
  obtain ⟨DC, hDC⟩ : ∃ n, decC l = n := ⟨_, rfl⟩
  rw [hDE, hDC]
  have hlen := hl.1
  refine calls_of (args := [_]) 50 [.cell 2 28, .tmp 3] τok Try.func15 rfl rfl rfl (Nat.le_of_ble_eq_true rfl) ?_
  refine new fun b2 w1 hb2 hB2 hs1 hk1 => ?_
  have hB2 : Bk w1.heap b2 [.int .i64 0, .slice none 0 0, .slice none 0 0, .slice none 0 0, .slice none 0 0] 28 := hB2
  -- an end without code
  have bad : ∀ w', Kp [] w w' → DE ≠ 0 → rCod.den (New w.heap.size w') [.int .i64 0, .slice none 0 0, .slice none 0 0, .slice none 0 0, .slice none 0 0] DC := fun w' _ hne => by
    have : DC = Cod.none := by rw [← hDC]; unfold decC; rw [hDE, if_neg hne]
    rw [this]
    exact none_den _
  refine br_dec (fun g1 => ?_) (fun g1 => ?_)
  · refine stN (vs := [.int .i64 0, .slice none 0 0, .slice none 0 0, .slice none 0 0, .slice none 0 0]) hB2 rfl (by simp [Value.oneCell']) fun w2 hB2 hs2 hk2 => ?_
    have hk : Kp [] w w2 := hk1.newSt hb2 hk2
    refine resN τok rfl [.int .i64 0, .slice none 0 0, .slice none 0 0, .slice none 0 0, .slice none 0 0] rfl (fun j v hj => hB2.cl hj) ?_
    have hE : DE = 6 := by rw [← hDE]; unfold decE; rw [if_pos (by omega)]
    exact ⟨_, by rw [hE]; rfl, bad w2 hk (by omega), hk⟩
  refine ev_call (new_ct (hS.tr hk1) l a cap hl (by omega)) ?_
  rintro e w2 ⟨D, p, ab, cb, rfl, hin, hR2, hpl, hk2⟩
  have hB2 := hB2.kp hk2 (by simp)
  have hDlt := hR2.1.lt
  have hz2 := hk2.size
  refine new fun b4 w3 hb4 hB4 hs3 hk3 => ?_
  refine stN (vs := [.pointer (some ⟨p, 0, none⟩)]) hB4 rfl (by simp [Value.oneCell']) fun w4 hB4 hs4 hk4 => ?_
  have hk24 : Kp [] w2 w4 := hk3.newSt hb4 hk4
  have hplt := hR2.lt
  have hB2 := hB2.kp hk24 (by simp)
  have hR4 := hR2.kp hk24
  refine ldN [.pointer (some ⟨p, 0, none⟩)] rfl (fun j v hj => by rw [Nat.zero_add]; exact hB4.cl hj) ?_
  obtain ⟨q1, hq1⟩ : ∃ q, numM 1048576 (l, 0) = q := ⟨_, rfl⟩
  obtain ⟨q2, hq2⟩ : ∃ q, manyM rshpM q1.2 = q := ⟨_, rfl⟩
  obtain ⟨q3, hq3⟩ : ∃ q, manyM rfnM q2.2 = q := ⟨_, rfl⟩
  obtain ⟨q4, hq4⟩ : ∃ q, manyM rblockM q3.2 = q := ⟨_, rfl⟩
  obtain ⟨q5, hq5⟩ : ∃ q, rblockM q4.2 = q := ⟨_, rfl⟩
  have hM : rcodM (l, 0) = (⟨(q1.1 : Int) - 1, q2.1, q3.1, q4.1, q5.1⟩, q5.2) := by
    unfold rcodM
    simp only [hq1, hq2, hq3, hq4, hq5]
  have hq1le : q1.1 ≤ 1048576 := by rw [← hq1]; exact num_le _ _
  have hDEe : DE = if q5.2.2 ≠ 0 then q5.2.2 else if 0 < q5.2.1.length then 3 else checkM ⟨(q1.1 : Int) - 1, q2.1, q3.1, q4.1, q5.1⟩ := by
    rw [← hDE]; unfold decE; rw [if_neg (by omega), hM]
  have c1 := rnum_ct hin hR4
  rw [hq1] at c1
  refine ev_call c1 ?_
  rintro e w5 ⟨rfl, hR5, hk5⟩
  have hz5 := hk5.size
  refine int64 (by omega) (by omega) ?_
  have hB2 := hB2.kp hk5 (by simp; omega)
  have hB4 := hB4.kp hk5 (by simp; omega)
  refine new fun b5 w6 hb5 hB5 hs6 hk6 => ?_
  refine stN (vs := [.int .i64 ((q1.1 : Int) - 1), .slice none 0 0, .slice none 0 0, .slice none 0 0, .slice none 0 0]) hB5 rfl (by simp [Value.oneCell']) fun w7 hB5 hs7 hk7 => ?_
  have hk57 : Kp [] w5 w7 := hk6.newSt hb5 hk7
  have hB2 := hB2.kp hk57 (by simp)
  have hB4 := hB4.kp hk57 (by simp)
  have hR7 := hR5.kp hk57
  have hDX : ∀ b o v, D b o v → b ∉ [b5] := fun b o v hc => by have := hDlt b o v hc; simp; omega
  refine ldN [.pointer (some ⟨p, 0, none⟩)] rfl (fun j v hj => by rw [Nat.zero_add]; exact hB4.cl hj) ?_
  have c2 := manyShp_ct hin hR7
  rw [hq2] at c2
  refine ev_call c2 ?_
  rintro e w8 ⟨a1, c1', rfl, hS8, hR8, hk8⟩
  have hz8 := hk8.size
  have hB2 := hB2.kp hk8 (by simp; omega)
  have hB4 := hB4.kp hk8 (by simp; omega)
  have hB5 := hB5.kp hk8 (by simp; omega)
  refine st hB5 (by simp) rfl fun w9 hB5 hs9 hk9 => ?_
  have hB2 := hB2.kp hk9 (by simp; omega)
  have hB4 := hB4.kp hk9 (by simp; omega)
  have hR9 := hR8.kpX hk9 (by simp; omega) hDX
  refine ldN [.pointer (some ⟨p, 0, none⟩)] rfl (fun j v hj => by rw [Nat.zero_add]; exact hB4.cl hj) ?_
  have c3 := manyFn_ct hin hR9
  rw [hq3] at c3
  refine ev_call c3 ?_
  rintro e w10 ⟨a2, c2', rfl, hS10, hR10, hk10⟩
  have hz10 := hk10.size
  have hB2 := hB2.kp hk10 (by simp; omega)
  have hB4 := hB4.kp hk10 (by simp; omega)
  have hB5 := hB5.kp hk10 (by simp; omega)
  refine st hB5 (by simp) rfl fun w11 hB5 hs11 hk11 => ?_
  have hB2 := hB2.kp hk11 (by simp; omega)
  have hB4 := hB4.kp hk11 (by simp; omega)
  have hR11 := hR10.kpX hk11 (by simp; omega) hDX
  refine ldN [.pointer (some ⟨p, 0, none⟩)] rfl (fun j v hj => by rw [Nat.zero_add]; exact hB4.cl hj) ?_
  have c4 := manyBlock_ct hin hR11
  rw [hq4] at c4
  refine ev_call c4 ?_
  rintro e w12 ⟨a3, c3', rfl, hS12, hR12, hk12⟩
  have hz12 := hk12.size
  have hB2 := hB2.kp hk12 (by simp; omega)
  have hB4 := hB4.kp hk12 (by simp; omega)
  have hB5 := hB5.kp hk12 (by simp; omega)
  refine st hB5 (by simp) rfl fun w13 hB5 hs13 hk13 => ?_
  have hB2 := hB2.kp hk13 (by simp; omega)
  have hB4 := hB4.kp hk13 (by simp; omega)
  have hR13 := hR12.kpX hk13 (by simp; omega) hDX
  refine ldN [.pointer (some ⟨p, 0, none⟩)] rfl (fun j v hj => by rw [Nat.zero_add]; exact hB4.cl hj) ?_
  have c5 := rblock_ct hin hR13
  rw [hq5] at c5
  refine ev_call c5 ?_
  rintro e w14 ⟨a4, c4', rfl, hS14, hR14, hk14⟩
  have hz14 := hk14.size
  have hB2 := hB2.kp hk14 (by simp; omega)
  have hB4 := hB4.kp hk14 (by simp; omega)
  have hB5 := hB5.kp hk14 (by simp; omega)
  refine st hB5 (by simp) rfl fun w15 hB5 hs15 hk15 => ?_
  have hB2 := hB2.kp hk15 (by simp; omega)
  have hB4 := hB4.kp hk15 (by simp; omega)
  have hR15 := hR14.kpX hk15 (by simp; omega) hDX
  have hB5 : Bk w15.heap b5 [.int .i64 ((q1.1 : Int) - 1), .slice a1 q2.1.length c1', .slice a2 q3.1.length c2', .slice a3 q4.1.length c3', .slice a4 q5.1.length c4'] 28 := hB5
  -- what was read stands in new memory
  have k1415 : Kp [p, b5] w14 w15 := hk15.weak (by simp)
  have k1215 : Kp [p, b5] w12 w15 := ((hk13.weak (Y := [p, b5]) (by simp)).trans (hk14.weak (Y := [p, b5]) (by simp)) (fun x hx _ => hx)).trans k1415 (fun x hx _ => hx)
  have k1015 : Kp [p, b5] w10 w15 := ((hk11.weak (Y := [p, b5]) (by simp)).trans (hk12.weak (Y := [p, b5]) (by simp)) (fun x hx _ => hx)).trans k1215 (fun x hx _ => hx)
  have k815 : Kp [p, b5] w8 w15 := ((hk9.weak (Y := [p, b5]) (by simp)).trans (hk10.weak (Y := [p, b5]) (by simp)) (fun x hx _ => hx)).trans k1015 (fun x hx _ => hx)
  have k015 : Kp [] w w15 := by
    have k7 : Kp [p] w w7 := ((((hk1.tr hk2).tr hk24).weak (by simp)).trans hk5 (fun x hx _ => hx)).tr hk57
    have k8 : Kp [p] w w8 := k7.trans hk8 (fun x hx _ => hx)
    have k15 : Kp [p] w w15 := k8.trans k815 (fun x hx hl => by simp at hx; omega)
    exact k15.weak (fun x hx hl => by simp at hx; have := hk1.size; omega)
  have hz1 := hk1.size
  have hden : rCod.den (New w.heap.size w15) [.int .i64 ((q1.1 : Int) - 1), .slice a1 q2.1.length c1', .slice a2 q3.1.length c2', .slice a3 q4.1.length c3', .slice a4 q5.1.length c4'] ⟨(q1.1 : Int) - 1, q2.1, q3.1, q4.1, q5.1⟩ := by
    refine ⟨a1, c1', a2, c2', a3, c3', a4, c4', rfl, hS8.mono fun b o u hu => ⟨?_, hu.2.kp k815 ?_⟩, hS10.mono fun b o u hu => ⟨?_, hu.2.kp k1015 ?_⟩, hS12.mono fun b o u hu => ⟨?_, hu.2.kp k1215 ?_⟩, hS14.mono fun b o u hu => ⟨?_, hu.2.kp k1415 ?_⟩, ?_⟩
    all_goals first | (have := hu.1; simp; omega) | (have := hu.1; omega) | (unfold I64; simp only; omega)
  refine ld (hB4.cl rfl).cell ?_
  refine ev_call (err_ct hR15) ?_
  rintro e w16 ⟨rfl, hk16⟩
  have hB2 := hB2.kp hk16 (by simp)
  have hB4 := hB4.kp hk16 (by simp)
  have hB5 := hB5.kp hk16 (by simp)
  have k016 := k015.tr hk16
  have hb2w : ∀ {u u' : World}, Kp [] w u → Kp [b2] u u' → Kp [] w u' := fun k k' => k.trans k' (fun x hx hl => by simp at hx; omega)
  refine br_dec (fun g2 => ?_) (fun g2 => ?_)
  · refine stN (vs := [.int .i64 0, .slice none 0 0, .slice none 0 0, .slice none 0 0, .slice none 0 0]) hB2 rfl (by simp [Value.oneCell']) fun w17 hB2 hs17 hk17 => ?_
    have hk := hb2w k016 hk17
    refine resN τok rfl [.int .i64 0, .slice none 0 0, .slice none 0 0, .slice none 0 0, .slice none 0 0] rfl (fun j v hj => hB2.cl hj) ?_
    have hE : DE = q5.2.2 := by rw [hDEe, if_pos g2]
    exact ⟨_, by rw [hE]; rfl, bad w17 hk (by rw [hE]; exact g2), hk⟩
  rw [if_neg g2] at hDEe
  refine ld (hB4.cl rfl).cell ?_
  refine ev_call (Left_ct hin (hR15.kp hk16)) ?_
  rintro e w17 ⟨rfl, hk17⟩
  have hB2 := hB2.kp hk17 (by simp)
  have hB5 := hB5.kp hk17 (by simp)
  have k017 := k016.tr hk17
  refine br_dec (fun g3 => ?_) (fun g3 => ?_)
  · refine stN (vs := [.int .i64 0, .slice none 0 0, .slice none 0 0, .slice none 0 0, .slice none 0 0]) hB2 rfl (by simp [Value.oneCell']) fun w18 hB2 hs18 hk18 => ?_
    have hk := hb2w k017 hk18
    refine resN τok rfl [.int .i64 0, .slice none 0 0, .slice none 0 0, .slice none 0 0, .slice none 0 0] rfl (fun j v hj => hB2.cl hj) ?_
    have hE : DE = 3 := by rw [hDEe, if_pos (by omega)]
    exact ⟨_, by rw [hE]; rfl, bad w18 hk (by omega), hk⟩
  rw [if_neg (by omega)] at hDEe
  refine ldN [.int .i64 ((q1.1 : Int) - 1), .slice a1 q2.1.length c1', .slice a2 q3.1.length c2', .slice a3 q4.1.length c3', .slice a4 q5.1.length c4'] rfl (fun j v hj => by rw [Nat.zero_add]; exact hB5.cl hj) ?_
  have hden17 := rCod.mono (New.up (Nat.le_refl _) (hk16.tr hk17)) hden
  have c6 := check_ct (New.sub w.heap.size w17) hden17
  rw [← hDEe] at c6
  refine ev_call c6 ?_
  rintro e w18 ⟨rfl, hk18⟩
  have hB2 := hB2.kp hk18 (by simp)
  have hB5 := hB5.kp hk18 (by simp)
  have k018 := k017.tr hk18
  refine br_dec (fun g4 => ?_) (fun g4 => ?_)
  · refine stN (vs := [.int .i64 0, .slice none 0 0, .slice none 0 0, .slice none 0 0, .slice none 0 0]) hB2 rfl (by simp [Value.oneCell']) fun w19 hB2 hs19 hk19 => ?_
    have hk := hb2w k018 hk19
    refine resN τok rfl [.int .i64 0, .slice none 0 0, .slice none 0 0, .slice none 0 0, .slice none 0 0] rfl (fun j v hj => hB2.cl hj) ?_
    exact ⟨_, rfl, bad w19 hk g4, hk⟩
  · have g4 : DE = 0 := by simpa using g4
    have hC : DC = ⟨(q1.1 : Int) - 1, q2.1, q3.1, q4.1, q5.1⟩ := by rw [← hDC]; unfold decC; rw [hDE, if_pos g4, hM]
    refine ldN [.int .i64 ((q1.1 : Int) - 1), .slice a1 q2.1.length c1', .slice a2 q3.1.length c2', .slice a3 q4.1.length c3', .slice a4 q5.1.length c4'] rfl (fun j v hj => by rw [Nat.zero_add]; exact hB5.cl hj) ?_
    refine stN hB2 rfl (by simp [Value.oneCell']) fun w19 hB2 hs19 hk19 => ?_
    have hk := hb2w k018 hk19
    refine resN τok rfl [.int .i64 ((q1.1 : Int) - 1), .slice a1 q2.1.length c1', .slice a2 q3.1.length c2', .slice a3 q4.1.length c3', .slice a4 q5.1.length c4'] rfl (fun j v hj => hB2.cl hj) ?_
    refine ⟨_, by rw [g4]; rfl, ?_, hk⟩
    rw [hC]
    have k719 : Kp [p, b5, b2] w15 w19 := (((hk16.tr hk17).tr hk18).weak (by simp)).trans hk19 (by simp)
    refine ⟨a1, c1', a2, c2', a3, c3', a4, c4', rfl, hS8.mono fun b o u hu => ⟨?_, (hu.2.kp k815 ?_).kp k719 ?_⟩, hS10.mono fun b o u hu => ⟨?_, (hu.2.kp k1015 ?_).kp k719 ?_⟩, hS12.mono fun b o u hu => ⟨?_, (hu.2.kp k1215 ?_).kp k719 ?_⟩, hS14.mono fun b o u hu => ⟨?_, (hu.2.kp k1415 ?_).kp k719 ?_⟩, ?_⟩
    all_goals first | (have := hu.1; simp; omega) | (have := hu.1; omega) | (unfold I64; simp only; omega)
end Go.Proofs.Ytjogpbiilokldaa
