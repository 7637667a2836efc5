/-
  Own texts put together: R18A, R18B, RcL.
-/
import Derived.Test.YtjpdkcejkogciaaDoorMg18
/-
  Reference of layer 18: Flat, whole, Right.
-/
set_option linter.unusedSimpArgs false
set_option linter.unusedVariables false
namespace Cd
theorem arm_step (p : Flt) (f : Nat) (tk : Int) (m : Nd) (r : List Nd) : (parse (cntF p) nxF (f + 1) (tk, true) (m :: r)).map Prod.snd =
    if m.op = 70 ∧ inM m.a 0 16 = true ∧ m.b = 0 then (parse (cntF p) nxF f (tk + m.a, false) r).map Prod.snd else none := by
  rw [parse_step]
  by_cases h70 : m.op = 70
  · have e : cntF p (tk, true) m = if inM m.a 0 16 = true ∧ m.b = 0 then some 1 else none := by
      unfold cntF ndF
      simp [h70]
    rw [e]
    by_cases hb : inM m.a 0 16 = true ∧ m.b = 0
    · rw [if_pos hb, if_pos ⟨h70, hb⟩]
      have e2 : nxF (tk, true) m 0 = (tk + m.a, false) := by simp [nxF, moreF, h70]
      simp only [kidsL, e2]
      cases parse (cntF p) nxF f (tk + m.a, false) r with
      | none => rfl
      | some q => rfl
    · rw [if_neg hb, if_neg (fun h => hb h.2)]
  · have e : cntF p (tk, true) m = none := by
      unfold cntF
      simp [h70]
    rw [e, if_neg (fun h => h70 h.1)]

def Nd18 (p : Flt) (tk : Int) (n : Nd) (ok : Bool) (kids : Int) : Prop := match (if n.op = 70 then none else ndF p tk n) with
  | some c => ok = true ∧ kids = if n.op = 69 then 1 else c
  | none => ok = false
theorem nd18_of {p : Flt} {tk : Int} {n : Nd} {ok : Bool} {kids c : Int} (h70 : n.op ≠ 70) (e : ndF p tk n = if ok then some c else none) (hk : kids = if n.op = 69 then 1 else c) : Nd18 p tk n ok kids := by
  unfold Nd18
  rw [if_neg h70, e]
  cases ok
  · rfl
  · exact ⟨rfl, hk⟩
end Cd
namespace Go.Proofs.YtjpdkcejkogciaaDoor
open Go.Wx Cd

theorem within18_ct (n lo hi : Int) (w : World) : CallOk Tryd.prog 47 ∧ Calls Tryd.prog 47 #[.int .i64 n, .int .i64 lo, .int .i64 hi] w (fun e w' => e = .returned (.bool (inM n lo hi)) ∧ Kp [] w w') := by
  refine ⟨⟨_, Tryd.func47, rfl, by decide⟩, ?_⟩
  refine calls_of (args := [_, _, _]) 15 [.tmp 6] τok Tryd.func47 rfl rfl rfl (Nat.le_of_ble_eq_true rfl) ?_
  refine br_dec (fun h => ?_) (fun h => ?_)
  · exact ⟨by simp [one, inM, h], Kp.refl _ _⟩
  · exact ⟨by simp [one, inM, h], Kp.refl _ _⟩

def F18Post (o : Option (Tr × List Nd)) (w : World) (e : Ending) (w' : World) : Prop :=
  Kp [] w w' ∧ match o with
    | some (x, _) => e = .returned (.tuple #[.int .i64 (row x).length, .bool true])
    | none => e = .returned (.tuple #[.int .i64 0, .bool false])

/-- the part of Flat that looks at the node -/
def I18 (b3 bn : Nat) (ta : Option Addr) (len tc : Nat) (tk : Int) (q : Bool × Int) : List (Nat × Value) :=
  [(1, .slice ta len tc), (2, .int .i64 tk), (3, .pointer (some ⟨b3, 0, none⟩)), (8, .pointer (some ⟨bn, 0, none⟩)), (9, .bool q.1), (10, .int .i64 q.2)]

theorem flat18_ct {C : Mem} {cs : List Value} {p : Flt} (hp : rFlt.den C cs p) (hcaps : CapsOk p) : ∀ (f : Nat) (ta : Option Addr) (t : List Nd) (tc : Nat) (tk : Int) (w : World), Sub C w → Sl rNd C ta t → t.length ≤ tc → t.length ≤ f → 0 ≤ tk → tk + 16 * t.length ≤ 1099511627776 →
    CallOk Tryd.prog 71 ∧ Calls Tryd.prog 71 #[.agg cs.toArray, .slice ta t.length tc, .int .i64 tk] w (F18Post (parse (cntF p) nxF f (tk, false) t) w) := by
  intro f
  induction f using Nat.strongRecOn with
  | _ f ih =>
  intro ta t tc tk w hS ht htc hf h0 hbd
  have hp0 := hp
  obtain ⟨a1, c1, a2, c2, a3, c3, hcs, h1, h2, h3, h4⟩ := hp
  have hl1 := h1.1
  have hl2 := h2.1
  obtain ⟨PR, hPR⟩ : ∃ r, parse (cntF p) nxF f (tk, false) t = r := ⟨_, rfl⟩
  rw [hPR]
  refine ⟨⟨_, Tryd.func71, rfl, by decide⟩, ?_⟩
  refine calls_ev (args := [_, _, _]) 249 [.tmp 6, .tmp 7] Tryd.func71 rfl rfl rfl (Nat.le_of_ble_eq_true rfl) ?_
  refine ev_seq τok ?_
  refine new fun b3 w1 hb3 hB3 hs1 hk1 => ?_
  have hB3 : Bk w1.heap b3 cs 27 := by
    have : (Value.agg cs.toArray).cells.toList = cs := by simp [Value.cells]
    rw [← this]; exact hB3
  rw [hcs] at hB3
  have hl := ht.1
  have hS1 := hS.tr hk1
  refine ev_seq τok ?_
  refine br_dec (fun g0 => ?_) (fun g0 => ?_)
  · have : t = [] := List.length_eq_zero_iff.1 (by omega)
    subst this
    have : PR = none := by rw [← hPR]; cases f <;> rfl
    subst this
    exact ⟨hk1, rfl⟩
  have hlt : 0 < t.length := by omega
  obtain ⟨n, hn, hd⟩ := drop_get hlt
  rw [List.drop_zero] at hd
  obtain ⟨f', rfl⟩ : ∃ f', f = f' + 1 := ⟨f - 1, by omega⟩
  obtain ⟨b, o, hta, i1, i2, i3, hcells⟩ := sl_nd ht hn
  refine ev_seq τok ?_
  subst hta
  refine ix 0 rfl hlt ?_
  refine ldN [.int .i64 n.op, .int .i64 n.a, .int .i64 n.b] rfl (fun j v hj => hS1 _ _ _ (hcells j v hj)) ?_
  refine new fun bn w2 hbn hN hsn hk2 => ?_
  refine stN hN rfl (by simp [Value.oneCell']) fun w3 hN hs3 hk3 => ?_
  have hN : Bk w3.heap bn [.int .i64 n.op, .int .i64 n.a, .int .i64 n.b] 47 := hN
  have hk13 : Kp [] w1 w3 := hk2.newSt hbn hk3
  have hk03 := hk1.tr hk13
  have hS3 := hS1.tr hk13
  have hB3 := hB3.kp hk13 (by simp)
  refine ev_mid τok (fun z : Bool => [(1, .slice (some ⟨b, o, none⟩) t.length tc), (2, .int .i64 tk), (3, .pointer (some ⟨b3, 0, none⟩)), (8, .pointer (some ⟨bn, 0, none⟩)), (9, .bool z)]) (fun z w' => z = n.zero ∧ w3 = w') ?_ ?_
  · refine ld (hN.cl rfl).cell ?_
    refine br_dec (fun ha => ?_) (fun ha => ?_)
    · refine ld (hN.cl rfl).cell ?_
      exact ⟨_, rfl, ⟨rfl, rfl, rfl, rfl, rfl, trivial⟩, by simp [Nd.zero, ha], rfl⟩
    · exact ⟨_, rfl, ⟨rfl, rfl, rfl, rfl, rfl, trivial⟩, by simp [Nd.zero, ha], rfl⟩
  rintro _ _ ⟨rfl, rfl⟩
  refine ev_seq τok ?_
  refine ev_mid τok (I18 b3 bn (some ⟨b, o, none⟩) t.length tc tk) (fun q w' => Kp [] w3 w' ∧ Nd18 p tk n q.1 q.2) ?_ ?_
  · have hk33 := Kp.refl [] w3
    refine ld (hN.cl rfl).cell ?_
    refine br_dec (fun o1 => ?_) (fun o1 => ?_)
    · refine ld (hN.cl rfl).cell ?_
      refine int64 (by omega) (by omega) ?_
      refine ev_call (within18_ct _ _ _ w3) ?_
      rintro e w4 ⟨rfl, hk4⟩
      have hN4 := hN.kp hk4 (by simp)
      refine br (fun hb => ?_) (fun hb => ?_)
      · refine ld (hN4.cl rfl).cell ?_
        exact ⟨(_, _), rfl, ⟨rfl, rfl, rfl, rfl, rfl, rfl, trivial⟩, hk4, nd18_of (c := 0) (by omega) (by unfold ndF; (rw [if_pos o1, hb, Bool.true_and]) <;> rfl) (by first | (rw [if_neg (by omega)]; done) | (rw [if_pos (by omega)]; done) | rfl)⟩
      · skip
        exact ⟨(_, _), rfl, ⟨rfl, rfl, rfl, rfl, rfl, rfl, trivial⟩, hk4, nd18_of (c := 0) (by omega) (by unfold ndF; (rw [if_pos o1, hb, Bool.false_and]) <;> rfl) (by first | (rw [if_neg (by omega)]; done) | (rw [if_pos (by omega)]; done) | rfl)⟩
    refine br_dec (fun o2 => ?_) (fun o2 => ?_)
    · skip
      exact ⟨(_, _), rfl, ⟨rfl, rfl, rfl, rfl, rfl, rfl, trivial⟩, hk33, nd18_of (c := 0) (by omega) (by unfold ndF; (rw [if_neg o1, if_pos o2]) <;> rfl) (by first | (rw [if_neg (by omega)]; done) | (rw [if_pos (by omega)]; done) | rfl)⟩
    refine br_dec (fun o3 => ?_) (fun o3 => ?_)
    · skip
      refine ld (hN.cl rfl).cell ?_
      refine ev_call (within18_ct _ _ _ w3) ?_
      rintro e w4 ⟨rfl, hk4⟩
      have hN4 := hN.kp hk4 (by simp)
      refine br (fun hb => ?_) (fun hb => ?_)
      · refine ld (hN4.cl rfl).cell ?_
        exact ⟨(_, _), rfl, ⟨rfl, rfl, rfl, rfl, rfl, rfl, trivial⟩, hk4, nd18_of (c := 0) (by omega) (by unfold ndF; (rw [if_neg o1, if_neg o2, if_pos o3, hb, Bool.true_and]) <;> rfl) (by first | (rw [if_neg (by omega)]; done) | (rw [if_pos (by omega)]; done) | rfl)⟩
      · skip
        exact ⟨(_, _), rfl, ⟨rfl, rfl, rfl, rfl, rfl, rfl, trivial⟩, hk4, nd18_of (c := 0) (by omega) (by unfold ndF; (rw [if_neg o1, if_neg o2, if_pos o3, hb, Bool.false_and]) <;> rfl) (by first | (rw [if_neg (by omega)]; done) | (rw [if_pos (by omega)]; done) | rfl)⟩
    refine br_dec (fun o4 => ?_) (fun o4 => ?_)
    · refine ld (hN.cl rfl).cell ?_
      refine ld (hB3.cl rfl).cell ?_
      refine int64 (by omega) (by omega) ?_
      refine ev_call (within18_ct _ _ _ w3) ?_
      rintro e w4 ⟨rfl, hk4⟩
      have hN4 := hN.kp hk4 (by simp)
      have hB4 := hB3.kp hk4 (by simp)
      refine br (fun hb => ?_) (fun hb => ?_)
      · have hin : 0 ≤ n.a ∧ n.a ≤ p.bodies.length - 1 := by simpa [inM] using hb
        obtain ⟨x, hx⟩ : ∃ x, p.bodies[n.a.toNat]? = some x := ⟨p.bodies[n.a.toNat]'(by omega), by simp⟩
        obtain ⟨b', o', rfl, a', cap, hcell, _, hsl'⟩ := h2.sk hx
        refine ld (hN4.cl rfl).cell ?_
        refine br_dec (fun hb2 => ?_) (fun hb2 => ?_)
        · refine ld (hB4.cl rfl).cell ?_
          refine ld (hN4.cl rfl).cell ?_
          refine ix n.a.toNat (by omega) (by omega) ?_
          refine ldC (hS3.tr hk4) hcell ?_
          exact ⟨(_, _), rfl, ⟨rfl, rfl, rfl, rfl, rfl, rfl, trivial⟩, hk4, nd18_of (c := 0) (by omega) (by unfold ndF; rw [if_neg o1, if_neg o2, if_neg o3, if_pos o4, hb, hx, Option.getD_some, decide_eq_true hb2, Bool.true_and, Bool.and_true]; show _ = if decide ((0 : Int) < (x.length : Int)) = true then some 0 else none; by_cases hq : 0 < x.length <;> simp [hq]) (by rw [if_neg (by omega)])⟩
        · exact ⟨(_, _), rfl, ⟨rfl, rfl, rfl, rfl, rfl, rfl, trivial⟩, hk4, nd18_of (c := 0) (by omega) (by unfold ndF; rw [if_neg o1, if_neg o2, if_neg o3, if_pos o4, decide_eq_false hb2, Bool.and_false] <;> rfl) (by rw [if_neg (by omega)])⟩
      · exact ⟨(_, _), rfl, ⟨rfl, rfl, rfl, rfl, rfl, rfl, trivial⟩, hk4, nd18_of (c := 0) (by omega) (by unfold ndF; rw [if_neg o1, if_neg o2, if_neg o3, if_pos o4, hb, Bool.false_and, Bool.false_and] <;> rfl) (by rw [if_neg (by omega)])⟩
    refine br_dec (fun o5 => ?_) (fun o5 => ?_)
    · refine ld (hN.cl rfl).cell ?_
      refine ld (hB3.cl rfl).cell ?_
      refine int64 (by omega) (by omega) ?_
      refine ev_call (within18_ct _ _ _ w3) ?_
      rintro e w4 ⟨rfl, hk4⟩
      have hN4 := hN.kp hk4 (by simp)
      have hB4 := hB3.kp hk4 (by simp)
      refine drawR τok (by kernel_rfl) ?_
      refine br (fun hb => ?_) (fun hb => ?_)
      · have hin : 0 ≤ n.a ∧ n.a ≤ p.funs.length - 1 := by simpa [inM] using hb
        obtain ⟨x, hx⟩ : ∃ x, p.funs[n.a.toNat]? = some x := ⟨p.funs[n.a.toNat]'(by omega), by simp⟩
        obtain ⟨b', o', rfl, a', cap, _, _, hcell, _⟩ := sl_ffn h1 hx
        refine ldR (hN4.cl rfl) ?_
        refine ldR (hB4.cl rfl) ?_
        refine ldR (hN4.cl rfl) ?_
        refine ix n.a.toNat (by omega) (by omega) ?_
        refine ldR (hS3.tr hk4 _ _ _ hcell) ?_
        intro m'
        refine ld (hN4.cl rfl).cell ?_
        exact ⟨(_, _), rfl, ⟨rfl, rfl, rfl, rfl, rfl, rfl, trivial⟩, hk4.dr _, nd18_of (c := n.b) (by omega) (by unfold ndF; rw [if_neg o1, if_neg o2, if_neg o3, if_neg o4, if_pos o5, hb, hx, Bool.true_and]; show _ = if decide (n.b = x.caps) = true then some n.b else none; simp) (by rw [if_neg (by omega)])⟩
      · intro m'
        refine ld (hN4.cl rfl).cell ?_
        exact ⟨(_, _), rfl, ⟨rfl, rfl, rfl, rfl, rfl, rfl, trivial⟩, hk4.dr _, nd18_of (c := n.b) (by omega) (by unfold ndF; rw [if_neg o1, if_neg o2, if_neg o3, if_neg o4, if_pos o5, hb, Bool.false_and] <;> rfl) (by rw [if_neg (by omega)])⟩
    refine br_dec (fun o6 => ?_) (fun o6 => ?_)
    · refine br_yes o6 ?_
      exact ⟨(_, _), rfl, ⟨rfl, rfl, rfl, rfl, rfl, rfl, trivial⟩, hk33, nd18_of (c := 2) (by omega) (by unfold ndF; (rw [if_neg o1, if_neg o2, if_neg o3, if_neg o4, if_neg o5, if_pos o6]) <;> rfl) (by first | (rw [if_neg (by omega)]; done) | (rw [if_pos (by omega)]; done) | rfl)⟩
    refine br_dec (fun o7 => ?_) (fun o7 => ?_)
    · skip
      exact ⟨(_, _), rfl, ⟨rfl, rfl, rfl, rfl, rfl, rfl, trivial⟩, hk33, nd18_of (c := 2) (by omega) (by unfold ndF; (rw [if_neg o1, if_neg o2, if_neg o3, if_neg o4, if_neg o5, if_neg o6, if_pos o7]) <;> rfl) (by first | (rw [if_neg (by omega)]; done) | (rw [if_pos (by omega)]; done) | rfl)⟩
    refine br_dec (fun o8 => ?_) (fun o8 => ?_)
    · refine ld (hN.cl rfl).cell ?_
      refine ev_call (within18_ct _ _ _ w3) ?_
      rintro e w4 ⟨rfl, hk4⟩
      have hN4 := hN.kp hk4 (by simp)
      refine br (fun hb => ?_) (fun hb => ?_)
      · refine ld (hN4.cl rfl).cell ?_
        refine ev_call (within18_ct _ _ _ w4) ?_
        rintro e w5 ⟨rfl, hk5⟩
        refine ld ((hN4.kp hk5 (by simp)).cl rfl).cell ?_
        exact ⟨(_, _), rfl, ⟨rfl, rfl, rfl, rfl, rfl, rfl, trivial⟩, (hk4.tr hk5), nd18_of (c := n.b) (by omega) (by unfold ndF; (rw [if_neg o1, if_neg o2, if_neg o3, if_neg o4, if_neg o5, if_neg o6, if_neg o7, if_pos o8, hb, Bool.true_and]) <;> rfl) (by first | (rw [if_neg (by omega)]; done) | (rw [if_pos (by omega)]; done) | rfl)⟩
      · refine ld (hN4.cl rfl).cell ?_
        exact ⟨(_, _), rfl, ⟨rfl, rfl, rfl, rfl, rfl, rfl, trivial⟩, hk4, nd18_of (c := n.b) (by omega) (by unfold ndF; (rw [if_neg o1, if_neg o2, if_neg o3, if_neg o4, if_neg o5, if_neg o6, if_neg o7, if_pos o8, hb, Bool.false_and]) <;> rfl) (by first | (rw [if_neg (by omega)]; done) | (rw [if_pos (by omega)]; done) | rfl)⟩
    refine br_dec (fun o9 => ?_) (fun o9 => ?_)
    · refine ld (hN.cl rfl).cell ?_
      refine ev_call (within18_ct _ _ _ w3) ?_
      rintro e w4 ⟨rfl, hk4⟩
      have hN4 := hN.kp hk4 (by simp)
      refine br (fun hb => ?_) (fun hb => ?_)
      · refine ld (hN4.cl rfl).cell ?_
        refine ev_call (within18_ct _ _ _ w4) ?_
        rintro e w5 ⟨rfl, hk5⟩
        exact ⟨(_, _), rfl, ⟨rfl, rfl, rfl, rfl, rfl, rfl, trivial⟩, (hk4.tr hk5), nd18_of (c := 1 + n.b) (by omega) (by unfold ndF; (rw [if_neg o1, if_neg o2, if_neg o3, if_neg o4, if_neg o5, if_neg o6, if_neg o7, if_neg o8, if_pos o9, hb, Bool.true_and]) <;> rfl) (by first | (rw [if_neg (by omega)]; done) | (rw [if_pos (by omega)]; done) | rfl)⟩
      · skip
        exact ⟨(_, _), rfl, ⟨rfl, rfl, rfl, rfl, rfl, rfl, trivial⟩, hk4, nd18_of (c := 1 + n.b) (by omega) (by unfold ndF; (rw [if_neg o1, if_neg o2, if_neg o3, if_neg o4, if_neg o5, if_neg o6, if_neg o7, if_neg o8, if_pos o9, hb, Bool.false_and]) <;> rfl) (by first | (rw [if_neg (by omega)]; done) | (rw [if_pos (by omega)]; done) | rfl)⟩
    refine br_dec (fun o11 => ?_) (fun o11 => ?_)
    · skip
      exact ⟨(_, _), rfl, ⟨rfl, rfl, rfl, rfl, rfl, rfl, trivial⟩, hk33, nd18_of (c := 1) (by omega) (by unfold ndF; (rw [if_neg o1, if_neg o2, if_neg o3, if_neg o4, if_neg o5, if_neg o6, if_neg o7, if_neg o8, if_neg o9, if_neg (by omega), if_pos o11]) <;> rfl) (by first | (rw [if_neg (by omega)]; done) | (rw [if_pos (by omega)]; done) | rfl)⟩
    refine br_dec (fun o12 => ?_) (fun o12 => ?_)
    · skip
      exact ⟨(_, _), rfl, ⟨rfl, rfl, rfl, rfl, rfl, rfl, trivial⟩, hk33, nd18_of (c := 3) (by omega) (by unfold ndF; (rw [if_neg o1, if_neg o2, if_neg o3, if_neg o4, if_neg o5, if_neg o6, if_neg o7, if_neg o8, if_neg o9, if_neg (by omega), if_neg o11, if_pos o12]) <;> rfl) (by first | (rw [if_neg (by omega)]; done) | (rw [if_pos (by omega)]; done) | rfl)⟩
    refine br_dec (fun o13 => ?_) (fun o13 => ?_)
    · skip
      refine ld (hN.cl rfl).cell ?_
      refine ev_call (within18_ct _ _ _ w3) ?_
      rintro e w4 ⟨rfl, hk4⟩
      have hN4 := hN.kp hk4 (by simp)
      refine br (fun hb => ?_) (fun hb => ?_)
      · refine ld (hN4.cl rfl).cell ?_
        exact ⟨(_, _), rfl, ⟨rfl, rfl, rfl, rfl, rfl, rfl, trivial⟩, hk4, nd18_of (c := 2) (by omega) (by unfold ndF; (rw [if_neg o1, if_neg o2, if_neg o3, if_neg o4, if_neg o5, if_neg o6, if_neg o7, if_neg o8, if_neg o9, if_neg (by omega), if_neg o11, if_neg o12, if_pos o13, hb, Bool.true_and]) <;> rfl) (by first | (rw [if_neg (by omega)]; done) | (rw [if_pos (by omega)]; done) | rfl)⟩
      · skip
        exact ⟨(_, _), rfl, ⟨rfl, rfl, rfl, rfl, rfl, rfl, trivial⟩, hk4, nd18_of (c := 2) (by omega) (by unfold ndF; (rw [if_neg o1, if_neg o2, if_neg o3, if_neg o4, if_neg o5, if_neg o6, if_neg o7, if_neg o8, if_neg o9, if_neg (by omega), if_neg o11, if_neg o12, if_pos o13, hb, Bool.false_and]) <;> rfl) (by first | (rw [if_neg (by omega)]; done) | (rw [if_pos (by omega)]; done) | rfl)⟩
    refine ⟨(_, _), rfl, ⟨rfl, rfl, rfl, rfl, rfl, rfl, trivial⟩, hk33, ?_⟩
    unfold Nd18
    by_cases o10 : n.op = 70
    · rw [if_pos o10]
    · rw [if_neg o10]
      unfold ndF
      rw [if_neg o1, if_neg o2, if_neg o3, if_neg o4, if_neg o5, if_neg o6, if_neg o7, if_neg o8, if_neg o9, if_neg o10, if_neg o11, if_neg o12, if_neg o13]
  rintro ⟨ok, kids⟩ w4 ⟨hk4, hnd⟩
  simp only at hnd
  refine ev_of τok ?_
  have hk04 := hk03.tr hk4
  have hN4 := hN.kp hk4 (by simp)
  have hB4 := hB3.kp hk4 (by simp)
  have hS4 := hS3.tr hk4
  have no : ∀ w', Kp [] w w' → PR.map Prod.snd = none → F18Post PR w (.returned (one [.int .i64 0, .bool false])) w' := fun w' h e => by
    refine ⟨h, ?_⟩
    rw [Option.map_eq_none_iff.1 e]
    rfl
  rw [hd] at hPR
  cases hq : (if n.op = 70 then none else ndF p tk n) with
  | none =>
    unfold Nd18 at hnd
    rw [hq] at hnd
    have hnd : ok = false := hnd
    subst hnd
    refine no _ hk04 ?_
    rw [← hPR, parse_step]
    have : cntF p (tk, false) n = none := by
      unfold cntF
      by_cases o : n.op = 70
      · simp [o]
      · rw [if_neg o] at hq; simp [o, hq]
    rw [this]
  | some c =>
    unfold Nd18 at hnd
    rw [hq] at hnd
    obtain ⟨rfl, hkids⟩ : ok = true ∧ kids = _ := hnd
    have o70 : n.op ≠ 70 := fun o => by rw [if_pos o] at hq; cases hq
    rw [if_neg o70] at hq
    have hc := ndF_bd hcaps hq
    have hmore := moreF_bd hq
    obtain ⟨cn, hcn⟩ : ∃ cn : Nat, c = cn := ⟨c.toNat, by omega⟩
    subst hcn
    have hcnt : cntF p (tk, false) n = some cn := by
      unfold cntF
      simp [o70, hq]
    have h69 : n.op = 69 → (cn : Int) = 1 + n.b := fun o => by
      unfold ndF at hq
      simp [o] at hq
      exact hq.2.symm
    obtain ⟨kn, hkn⟩ : ∃ kn : Nat, kids = kn := ⟨kids.toNat, by rw [hkids]; split <;> omega⟩
    subst hkn
    have hkc : kn ≤ cn := by
      by_cases o : n.op = 69
      · have := h69 o
        rw [if_pos o] at hkids
        have hb : 0 ≤ n.b := by
          unfold ndF at hq
          simp [o, inM] at hq
          omega
        omega
      · rw [if_neg o] at hkids; omega
    have hRES : PR.map Prod.snd = (kidsL (parse (cntF p) nxF f') (nxF (tk, false) n) 0 cn (t.drop 1)).map Prod.snd := by rw [← hPR, parse_step, hcnt]
    have hlen : ∀ x r, PR = some (x, r) → (row x).length = t.length - r.length := fun x r e => by
      rw [e] at hPR
      have := parse_len hPR
      rw [← hd] at this
      omega
    have call : ∀ (g : Nat) (a : Nat) (tk' : Int) (w' : World) (a' : Option Addr), g < f' + 1 → Kp [] w4 w' → a ≤ t.length → t.length - a ≤ g → 0 ≤ tk' → tk' + 16 * (t.length - a) ≤ 1099511627776 → Sl rNd C a' (t.drop a) → CallOk Tryd.prog 71 ∧ Calls Tryd.prog 71 #[.agg cs.toArray, .slice a' (t.drop a).length (tc - a), .int .i64 tk'] w' (F18Post (parse (cntF p) nxF g (tk', false) (t.drop a)) w') := fun g a tk' w' a' hg hkw ha hga h0' hb' hsl =>
      ih g hg a' (t.drop a) (tc - a) tk' w' (hS4.tr hkw) hsl (by rw [List.length_drop]; omega) (by rw [List.length_drop]; omega) h0' (by rw [List.length_drop]; omega)
    refine lp τok (σ := Nat × Nat) (fun q => [(1, .slice (some ⟨b, o, none⟩) t.length tc), (2, .int .i64 tk), (3, .pointer (some ⟨b3, 0, none⟩)), (8, .pointer (some ⟨bn, 0, none⟩)), (10, .int .i64 kn), (11, .int .i64 q.2), (12, .int .i64 q.1)])
      (fun q w' => q.1 ≤ kn ∧ 1 ≤ q.2 ∧ q.2 ≤ t.length ∧ Kp [] w4 w' ∧ PR.map Prod.snd = (kidsL (parse (cntF p) nxF f') (nxF (tk, false) n) q.1 (cn - q.1) (t.drop q.2)).map Prod.snd) (fun q => kn - q.1) (0, 1) rfl
      ⟨rfl, rfl, rfl, rfl, rfl, rfl, rfl, trivial⟩ ⟨Nat.zero_le _, Nat.le_refl _, hlt, Kp.refl _ _, hRES⟩ ?_
    clear hRES
    rintro ⟨j, a⟩ w5 ⟨hj, ha1, ha2, hk5, hR⟩
    simp only at hj ha1 ha2 hR
    have hN5 := hN4.kp hk5 (by simp)
    have hB5 := hB4.kp hk5 (by simp)
    have hS5 := hS4.tr hk5
    have hm1 : ∀ m, moreF n j = m → ∀ arm', (decide (n.op = 69) && decide (0 < j)) = arm' → nxF (tk, false) n j = (tk + m, arm') := fun m h arm' h' => by simp only [nxF, h, h']
    refine br_dec (fun g1 => ?_) (fun g1 => ?_)
    · have hjl : j < kn := by omega
      rw [show cn - j = (cn - (j + 1)) + 1 by omega, kidsL_step] at hR
      have hb1 := hmore j
      have hl69 : n.op = 69 → j = 0 := fun o => by rw [if_pos o] at hkids; omega
      have harm : (decide (n.op = 69) && decide (0 < j)) = false := by
        by_cases o : n.op = 69
        · have := hl69 o
          simp [this]
        · simp [o]
      have m67 : n.op = 67 → moreF n j = if j = 1 then 1 else 0 := fun o => by
        unfold moreF
        by_cases h : j = 1 <;> simp [o, h]
      have m72 : n.op = 72 → moreF n j = if j = 2 then 1 else 0 := fun o => by
        unfold moreF
        by_cases h : j = 2 <;> simp [o, h]
      have m0 : n.op ≠ 67 → n.op ≠ 72 → moreF n j = 0 := fun o o' => by simp [moreF, o, o', o70]
      obtain ⟨a', hsl, hSl⟩ := ht.from htc a ha2
      refine ld (hN5.cl rfl).cell ?_
      refine br_dec (fun o67 => ?_) (fun o67 => ?_)
      · refine br_dec (fun j1 => ?_) (fun j1 => ?_)
        · have hm : moreF n j = 1 := by rw [m67 o67, if_pos (by omega)]
          refine drawQ τok (fun w' => Kp [] w5 w') (by kernel_rfl) ((Kp.refl [] w5).dr _) ?_
          refine ldNK [.slice a1 p.funs.length c1, .slice a2 p.bodies.length c2, .slice a3 p.main.length c3] rfl (fun j v hj => by rw [Nat.zero_add]; exact hB5.cl hj) ?_
          refine slcLQ τok rfl a _ rfl ha2 hsl ?_
          refine int64 (by omega) (by omega) ?_
          obtain ⟨q, hq'⟩ : ∃ q, parse (cntF p) nxF f' (tk + 1, false) (t.drop a) = q := ⟨_, rfl⟩
          rw [hm1 1 hm false harm, hq'] at hR
          cases q with
          | none =>
            refine callK (v := .tuple #[.int .i64 0, .bool false]) (fun w' hk' => by
              have := call f' a (tk + 1) w' a' (by omega) (hk5.tr hk') ha2 (by omega) (by omega) (by omega) hSl
              rw [hq', hcs] at this
              exact ⟨this.1, this.2.mono fun e w'' h => ⟨h.2, h.1⟩⟩) ?_
            intro w6 hk6
            exact no _ (hk04.tr (hk5.tr hk6)) hR
          | some q =>
            obtain ⟨x, r⟩ := q
            obtain ⟨r1, r2, r3, r4⟩ := parse_at ha2 hq'
            refine callK (v := .tuple #[.int .i64 (row x).length, .bool true]) (fun w' hk' => by
              have := call f' a (tk + 1) w' a' (by omega) (hk5.tr hk') ha2 (by omega) (by omega) (by omega) hSl
              rw [hq', hcs] at this
              exact ⟨this.1, this.2.mono fun e w'' h => ⟨h.2, h.1⟩⟩) ?_
            intro w6 hk6
            refine int64 (by (try simp only); omega) (by (try simp only); omega) ?_
            refine int64 (by (try simp only); omega) (by (try simp only); omega) ?_
            refine ⟨(j + 1, t.length - r.length), by simp only; omega, rfl, ⟨rfl, rfl, rfl, rfl, rfl, ?_, rfl, trivial⟩, hjl, by simp only; omega, by simp only; omega, hk5.tr hk6, ?_⟩
            · show some (Value.int .i64 _) = some (.int .i64 _)
              simp only
              congr 2
              omega
            · rw [hR]
              simp only
              rw [← r1]
        · have hm : moreF n j = 0 := by rw [m67 o67, if_neg (by omega)]
          refine ld (hN5.cl rfl).cell ?_
          refine br_no (show ¬ n.op = 72 by omega) ?_
          refine drawQ τok (fun w' => Kp [] w5 w') (by kernel_rfl) ((Kp.refl [] w5).dr _) ?_
          refine ldNK [.slice a1 p.funs.length c1, .slice a2 p.bodies.length c2, .slice a3 p.main.length c3] rfl (fun j v hj => by rw [Nat.zero_add]; exact hB5.cl hj) ?_
          refine slcLQ τok rfl a _ rfl ha2 hsl ?_
          refine int64 (by omega) (by omega) ?_
          obtain ⟨q, hq'⟩ : ∃ q, parse (cntF p) nxF f' (tk + 0, false) (t.drop a) = q := ⟨_, rfl⟩
          rw [hm1 0 hm false harm, hq'] at hR
          cases q with
          | none =>
            refine callK (v := .tuple #[.int .i64 0, .bool false]) (fun w' hk' => by
              have := call f' a (tk + 0) w' a' (by omega) (hk5.tr hk') ha2 (by omega) (by omega) (by omega) hSl
              rw [hq', hcs] at this
              exact ⟨this.1, this.2.mono fun e w'' h => ⟨h.2, h.1⟩⟩) ?_
            intro w6 hk6
            exact no _ (hk04.tr (hk5.tr hk6)) hR
          | some q =>
            obtain ⟨x, r⟩ := q
            obtain ⟨r1, r2, r3, r4⟩ := parse_at ha2 hq'
            refine callK (v := .tuple #[.int .i64 (row x).length, .bool true]) (fun w' hk' => by
              have := call f' a (tk + 0) w' a' (by omega) (hk5.tr hk') ha2 (by omega) (by omega) (by omega) hSl
              rw [hq', hcs] at this
              exact ⟨this.1, this.2.mono fun e w'' h => ⟨h.2, h.1⟩⟩) ?_
            intro w6 hk6
            refine int64 (by (try simp only); omega) (by (try simp only); omega) ?_
            refine int64 (by (try simp only); omega) (by (try simp only); omega) ?_
            refine ⟨(j + 1, t.length - r.length), by simp only; omega, rfl, ⟨rfl, rfl, rfl, rfl, rfl, ?_, rfl, trivial⟩, hjl, by simp only; omega, by simp only; omega, hk5.tr hk6, ?_⟩
            · show some (Value.int .i64 _) = some (.int .i64 _)
              simp only
              congr 2
              omega
            · rw [hR]
              simp only
              rw [← r1]
      · refine ld (hN5.cl rfl).cell ?_
        refine br_dec (fun o72 => ?_) (fun o72 => ?_)
        · refine br_dec (fun j2 => ?_) (fun j2 => ?_)
          · have hm : moreF n j = 1 := by rw [m72 o72, if_pos (by omega)]
            refine drawQ τok (fun w' => Kp [] w5 w') (by kernel_rfl) ((Kp.refl [] w5).dr _) ?_
            refine ldNK [.slice a1 p.funs.length c1, .slice a2 p.bodies.length c2, .slice a3 p.main.length c3] rfl (fun j v hj => by rw [Nat.zero_add]; exact hB5.cl hj) ?_
            refine slcLQ τok rfl a _ rfl ha2 hsl ?_
            refine int64 (by omega) (by omega) ?_
            obtain ⟨q, hq'⟩ : ∃ q, parse (cntF p) nxF f' (tk + 1, false) (t.drop a) = q := ⟨_, rfl⟩
            rw [hm1 1 hm false harm, hq'] at hR
            cases q with
            | none =>
              refine callK (v := .tuple #[.int .i64 0, .bool false]) (fun w' hk' => by
                have := call f' a (tk + 1) w' a' (by omega) (hk5.tr hk') ha2 (by omega) (by omega) (by omega) hSl
                rw [hq', hcs] at this
                exact ⟨this.1, this.2.mono fun e w'' h => ⟨h.2, h.1⟩⟩) ?_
              intro w6 hk6
              exact no _ (hk04.tr (hk5.tr hk6)) hR
            | some q =>
              obtain ⟨x, r⟩ := q
              obtain ⟨r1, r2, r3, r4⟩ := parse_at ha2 hq'
              refine callK (v := .tuple #[.int .i64 (row x).length, .bool true]) (fun w' hk' => by
                have := call f' a (tk + 1) w' a' (by omega) (hk5.tr hk') ha2 (by omega) (by omega) (by omega) hSl
                rw [hq', hcs] at this
                exact ⟨this.1, this.2.mono fun e w'' h => ⟨h.2, h.1⟩⟩) ?_
              intro w6 hk6
              refine int64 (by (try simp only); omega) (by (try simp only); omega) ?_
              refine int64 (by (try simp only); omega) (by (try simp only); omega) ?_
              refine ⟨(j + 1, t.length - r.length), by simp only; omega, rfl, ⟨rfl, rfl, rfl, rfl, rfl, ?_, rfl, trivial⟩, hjl, by simp only; omega, by simp only; omega, hk5.tr hk6, ?_⟩
              · show some (Value.int .i64 _) = some (.int .i64 _)
                simp only
                congr 2
                omega
              · rw [hR]
                simp only
                rw [← r1]
          · have hm : moreF n j = 0 := by rw [m72 o72, if_neg (by omega)]
            refine drawQ τok (fun w' => Kp [] w5 w') (by kernel_rfl) ((Kp.refl [] w5).dr _) ?_
            refine ldNK [.slice a1 p.funs.length c1, .slice a2 p.bodies.length c2, .slice a3 p.main.length c3] rfl (fun j v hj => by rw [Nat.zero_add]; exact hB5.cl hj) ?_
            refine slcLQ τok rfl a _ rfl ha2 hsl ?_
            refine int64 (by omega) (by omega) ?_
            obtain ⟨q, hq'⟩ : ∃ q, parse (cntF p) nxF f' (tk + 0, false) (t.drop a) = q := ⟨_, rfl⟩
            rw [hm1 0 hm false harm, hq'] at hR
            cases q with
            | none =>
              refine callK (v := .tuple #[.int .i64 0, .bool false]) (fun w' hk' => by
                have := call f' a (tk + 0) w' a' (by omega) (hk5.tr hk') ha2 (by omega) (by omega) (by omega) hSl
                rw [hq', hcs] at this
                exact ⟨this.1, this.2.mono fun e w'' h => ⟨h.2, h.1⟩⟩) ?_
              intro w6 hk6
              exact no _ (hk04.tr (hk5.tr hk6)) hR
            | some q =>
              obtain ⟨x, r⟩ := q
              obtain ⟨r1, r2, r3, r4⟩ := parse_at ha2 hq'
              refine callK (v := .tuple #[.int .i64 (row x).length, .bool true]) (fun w' hk' => by
                have := call f' a (tk + 0) w' a' (by omega) (hk5.tr hk') ha2 (by omega) (by omega) (by omega) hSl
                rw [hq', hcs] at this
                exact ⟨this.1, this.2.mono fun e w'' h => ⟨h.2, h.1⟩⟩) ?_
              intro w6 hk6
              refine int64 (by (try simp only); omega) (by (try simp only); omega) ?_
              refine int64 (by (try simp only); omega) (by (try simp only); omega) ?_
              refine ⟨(j + 1, t.length - r.length), by simp only; omega, rfl, ⟨rfl, rfl, rfl, rfl, rfl, ?_, rfl, trivial⟩, hjl, by simp only; omega, by simp only; omega, hk5.tr hk6, ?_⟩
              · show some (Value.int .i64 _) = some (.int .i64 _)
                simp only
                congr 2
                omega
              · rw [hR]
                simp only
                rw [← r1]
        · have hm : moreF n j = 0 := m0 o67 o72
          refine drawQ τok (fun w' => Kp [] w5 w') (by kernel_rfl) ((Kp.refl [] w5).dr _) ?_
          refine ldNK [.slice a1 p.funs.length c1, .slice a2 p.bodies.length c2, .slice a3 p.main.length c3] rfl (fun j v hj => by rw [Nat.zero_add]; exact hB5.cl hj) ?_
          refine slcLQ τok rfl a _ rfl ha2 hsl ?_
          refine int64 (by omega) (by omega) ?_
          obtain ⟨q, hq'⟩ : ∃ q, parse (cntF p) nxF f' (tk + 0, false) (t.drop a) = q := ⟨_, rfl⟩
          rw [hm1 0 hm false harm, hq'] at hR
          cases q with
          | none =>
            refine callK (v := .tuple #[.int .i64 0, .bool false]) (fun w' hk' => by
              have := call f' a (tk + 0) w' a' (by omega) (hk5.tr hk') ha2 (by omega) (by omega) (by omega) hSl
              rw [hq', hcs] at this
              exact ⟨this.1, this.2.mono fun e w'' h => ⟨h.2, h.1⟩⟩) ?_
            intro w6 hk6
            exact no _ (hk04.tr (hk5.tr hk6)) hR
          | some q =>
            obtain ⟨x, r⟩ := q
            obtain ⟨r1, r2, r3, r4⟩ := parse_at ha2 hq'
            refine callK (v := .tuple #[.int .i64 (row x).length, .bool true]) (fun w' hk' => by
              have := call f' a (tk + 0) w' a' (by omega) (hk5.tr hk') ha2 (by omega) (by omega) (by omega) hSl
              rw [hq', hcs] at this
              exact ⟨this.1, this.2.mono fun e w'' h => ⟨h.2, h.1⟩⟩) ?_
            intro w6 hk6
            refine int64 (by (try simp only); omega) (by (try simp only); omega) ?_
            refine int64 (by (try simp only); omega) (by (try simp only); omega) ?_
            refine ⟨(j + 1, t.length - r.length), by simp only; omega, rfl, ⟨rfl, rfl, rfl, rfl, rfl, ?_, rfl, trivial⟩, hjl, by simp only; omega, by simp only; omega, hk5.tr hk6, ?_⟩
            · show some (Value.int .i64 _) = some (.int .i64 _)
              simp only
              congr 2
              omega
            · rw [hR]
              simp only
              rw [← r1]
    · have hjn : j = kn := by omega
      subst hjn
      have hk05 := hk04.tr hk5
      refine lp τok (σ := Nat × Nat) (fun q => [(1, .slice (some ⟨b, o, none⟩) t.length tc), (2, .int .i64 tk), (3, .pointer (some ⟨b3, 0, none⟩)), (8, .pointer (some ⟨bn, 0, none⟩)), (11, .int .i64 q.2), (16, .int .i64 q.1)])
        (fun q w' => q.1 ≤ cn - j ∧ 1 ≤ q.2 ∧ q.2 ≤ t.length ∧ Kp [] w5 w' ∧ PR.map Prod.snd = (kidsL (parse (cntF p) nxF f') (nxF (tk, false) n) (j + q.1) (cn - j - q.1) (t.drop q.2)).map Prod.snd) (fun q => cn - q.1) (0, a) rfl
        ⟨rfl, rfl, rfl, rfl, rfl, rfl, trivial⟩ ⟨Nat.zero_le _, ha1, ha2, Kp.refl _ _, hR⟩ ?_
      clear hR hN5 hB5 hm1 ha1 ha2 g1
      rintro ⟨i, a⟩ w6 ⟨hi, ha1, ha2, hk6, hR⟩
      simp only at hi ha1 ha2 hR
      have hN6 := (hN4.kp hk5 (by simp)).kp hk6 (by simp)
      have hB6 := (hB4.kp hk5 (by simp)).kp hk6 (by simp)
      have hS6 := hS5.tr hk6
      have hk06 := hk05.tr hk6
      have done : cn - j - i = 0 → F18Post PR w (.returned (one [.int .i64 a, .bool true])) w6 := fun h => by
        rw [h] at hR
        simp only [kidsL, Option.map_some] at hR
        cases hp : PR with
        | none => rw [hp] at hR; cases hR
        | some q =>
          obtain ⟨x, r⟩ := q
          rw [hp] at hR
          have hR := Option.some.inj hR
          simp only at hR
          refine ⟨hk06, ?_⟩
          have := hlen x r hp
          rw [hR, List.length_drop] at this
          show Ending.returned (.tuple #[.int .i64 (a : Int), .bool true]) = .returned (.tuple #[.int .i64 ((row x).length : Int), .bool true])
          rw [this, show t.length - (t.length - a) = a by omega]
      refine ld (hN6.cl rfl).cell ?_
      refine br_dec (fun o69 => ?_) (fun o69 => ?_)
      · have hj1 : j = 1 := by rw [if_pos o69] at hkids; omega
        have hcb := h69 o69
        refine ld (hN6.cl rfl).cell ?_
        refine br_dec (fun g1 => ?_) (fun g1 => ?_)
        · have hil : i < cn - j := by simp only at g1; omega
          rw [show cn - j - i = (cn - j - (i + 1)) + 1 by omega, kidsL_step] at hR
          have hm1 : nxF (tk, false) n (j + i) = (tk, true) := by
            have : moreF n (j + i) = 0 := by simp [moreF, o69]
            simp only [nxF, this, o69]
            simp
            omega
          rw [hm1] at hR
          refine br_dec (fun g2 => ?_) (fun g2 => ?_)
          · refine no _ hk06 ?_
            rw [List.drop_eq_nil_of_le (by simp only at g2; omega)] at hR
            rw [hR]
            cases f' <;> rfl
          have hal : a < t.length := by simp only at g2; omega
          obtain ⟨m, hm, hdm⟩ := drop_get hal
          obtain ⟨g, rfl⟩ : ∃ g, f' = g + 1 := ⟨f' - 1, by omega⟩
          have harm := arm_step p g tk m (t.drop (a + 1))
          rw [← hdm] at harm
          obtain ⟨b', o', hbo, j1, j2, j3, hcm⟩ := sl_nd ht hm
          have hbo := Option.some.inj hbo
          injection hbo with e1 e2
          subst e1 e2
          have none_of : ¬ (m.op = 70 ∧ inM m.a 0 16 = true ∧ m.b = 0) → PR.map Prod.snd = none := fun h => by
            rw [if_neg h] at harm
            rw [hR, Option.map_eq_none_iff.1 harm]
          refine ix a rfl hal ?_
          refine ldC hS6 (hcm 0 _ rfl) ?_
          refine br_dec (fun g3 => ?_) (fun g3 => ?_)
          · exact no _ hk06 (none_of fun h => g3 h.1)
          have g3 : m.op = 70 := by simpa using g3
          refine ix a rfl hal ?_
          refine ldC hS6 (hcm 1 _ rfl) ?_
          refine ev_call (within18_ct _ _ _ w6) ?_
          rintro e w7 ⟨rfl, hk7⟩
          have hk07 := hk06.tr hk7
          refine br (fun g4 => ?_) (fun g4 => ?_)
          · exact no _ hk07 (none_of fun h => by rw [h.2.1] at g4; cases g4)
          have g4 : inM m.a 0 16 = true := by simpa using g4
          refine ix a rfl hal ?_
          refine ldC (hS6.tr hk7) (hcm 2 _ rfl) ?_
          refine br_dec (fun g5 => ?_) (fun g5 => ?_)
          · exact no _ hk07 (none_of fun h => g5 h.2.2)
          have g5 : m.b = 0 := by simpa using g5
          rw [if_pos ⟨g3, g4, g5⟩] at harm
          have hma : 0 ≤ m.a ∧ m.a ≤ 16 := by simpa [inM] using g4
          have hB7 := hB6.kp hk7 (by simp)
          have hS7 := hS6.tr hk7
          obtain ⟨a', hsl, hSl⟩ := ht.from htc (a + 1) (by omega)
          refine drawQ τok (fun w' => Kp [] w7 w') (by kernel_rfl) ((Kp.refl [] w7).dr _) ?_
          refine ldNK [.slice a1 p.funs.length c1, .slice a2 p.bodies.length c2, .slice a3 p.main.length c3] rfl (fun j v hj => by rw [Nat.zero_add]; exact hB7.cl hj) ?_
          refine int64 (by (try simp only); omega) (by (try simp only); omega) ?_
          refine slcLQ τok rfl (a + 1) _ rfl (by omega) hsl ?_
          refine ix a rfl hal ?_
          refine ldK (hS7 _ _ _ (hcm 1 _ rfl)) ?_
          refine int64 (by (try simp only); omega) (by (try simp only); omega) ?_
          obtain ⟨q, hq'⟩ : ∃ q, parse (cntF p) nxF g (tk + m.a, false) (t.drop (a + 1)) = q := ⟨_, rfl⟩
          rw [hq'] at harm
          have hk47 : Kp [] w4 w7 := (hk5.tr hk6).tr hk7
          cases q with
          | none =>
            refine callK (v := .tuple #[.int .i64 0, .bool false]) (fun w' hk' => by
              have := call g (a + 1) (tk + m.a) w' a' (by omega) (hk47.tr hk') (by omega) (by omega) (by omega) (by omega) hSl
              rw [hq', hcs] at this
              exact ⟨this.1, this.2.mono fun e w'' h => ⟨h.2, h.1⟩⟩) ?_
            intro w8 hk8
            refine no _ (hk07.tr hk8) ?_
            rw [hR, Option.map_eq_none_iff.1 harm]
          | some q =>
            obtain ⟨x, r⟩ := q
            obtain ⟨r1, r2, r3, r4⟩ := parse_at (show a + 1 ≤ t.length by omega) hq'
            refine callK (v := .tuple #[.int .i64 (row x).length, .bool true]) (fun w' hk' => by
              have := call g (a + 1) (tk + m.a) w' a' (by omega) (hk47.tr hk') (by omega) (by omega) (by omega) (by omega) hSl
              rw [hq', hcs] at this
              exact ⟨this.1, this.2.mono fun e w'' h => ⟨h.2, h.1⟩⟩) ?_
            intro w8 hk8
            refine int64 (by (try simp only); omega) (by (try simp only); omega) ?_
            refine int64 (by (try simp only); omega) (by (try simp only); omega) ?_
            refine int64 (by (try simp only); omega) (by (try simp only); omega) ?_
            refine ⟨(i + 1, t.length - r.length), by simp only; omega, rfl, ⟨rfl, rfl, rfl, rfl, ?_, rfl, trivial⟩, hil, by simp only; omega, by simp only; omega, (hk6.tr hk7).tr hk8, ?_⟩
            · show some (Value.int .i64 _) = some (.int .i64 _)
              simp only
              congr 2
              omega
            · rw [hR]
              simp only
              cases hpp : parse (cntF p) nxF (g + 1) (tk, true) (t.drop a) with
              | none => rw [hpp] at harm; cases harm
              | some z =>
                obtain ⟨z1, z2⟩ := z
                rw [hpp] at harm
                have harm := Option.some.inj harm
                simp only at harm
                simp only [harm]
                rw [← r1]
                rfl
        · exact done (by simp only at g1; omega)
      · rw [if_neg o69] at hkids
        exact done (by omega)
end Go.Proofs.YtjpdkcejkogciaaDoor

/-
  Reference of layer 18: whole, Right.
-/
set_option linter.unusedSimpArgs false
set_option linter.unusedVariables false
namespace Go.Proofs.YtjpdkcejkogciaaDoor
open Go.Wx Cd

theorem whole18_ct {C : Mem} {cs : List Value} {p : Flt} (hp : rFlt.den C cs p) (hcaps : CapsOk p) {ta : Option Addr} {t : List Nd} {tc : Nat} {w : World} (hS : Sub C w) (ht : Sl rNd C ta t) (htc : t.length ≤ tc) (tk : Int) (h0 : 0 ≤ tk) (h1 : tk ≤ 1048576) :
    CallOk Tryd.prog 48 ∧ Calls Tryd.prog 48 #[.agg cs.toArray, .slice ta t.length tc, .int .i64 tk] w (fun e w' => e = .returned (.bool (wholeF p t tk)) ∧ Kp [] w w') := by
  obtain ⟨RES, hRES⟩ : ∃ r, wholeF p t tk = r := ⟨_, rfl⟩
  rw [hRES]
  have hp0 := hp
  obtain ⟨a1, c1, a2, c2, a3, c3, rfl, h1, h2, h3, h4⟩ := hp
  refine ⟨⟨_, Tryd.func48, rfl, by decide⟩, ?_⟩
  refine calls_of (args := [_, _, _]) 26 [.tmp 6] τok Tryd.func48 rfl rfl rfl (Nat.le_of_ble_eq_true rfl) ?_
  refine new fun b1 w1 hb1 hB1 hs1 hk1 => ?_
  have hB1 : Bk w1.heap b1 [.slice a1 p.funs.length c1, .slice a2 p.bodies.length c2, .slice a3 p.main.length c3] 27 := hB1
  have hS1 := hS.tr hk1
  unfold wholeF treeOf at hRES
  refine br_dec (fun g1 => ?_) (fun g1 => ?_)
  · rw [decide_eq_false (show ¬ t.length ≤ 16384 by omega), Bool.false_and] at hRES
    exact ⟨by rw [← hRES]; rfl, hk1⟩
  rw [decide_eq_true (show t.length ≤ 16384 by omega), Bool.true_and] at hRES
  refine ldN [.slice a1 p.funs.length c1, .slice a2 p.bodies.length c2, .slice a3 p.main.length c3] rfl (fun j v hj => by rw [Nat.zero_add]; exact hB1.cl hj) ?_
  refine ev_call (flat18_ct hp0 hcaps t.length ta t tc tk w1 hS1 ht htc (Nat.le_refl _) h0 (by omega)) ?_
  rintro e w2 ⟨hk2, hpost⟩
  have hk12 := hk1.tr hk2
  cases hq : parse (cntF p) nxF t.length (tk, false) t with
  | none =>
    rw [hq] at hpost hRES
    have hpost : e = .returned (.tuple #[.int .i64 0, .bool false]) := hpost
    subst hpost
    exact ⟨by rw [← hRES]; rfl, hk12⟩
  | some q =>
    obtain ⟨x, r⟩ := q
    rw [hq] at hpost hRES
    have hpost : e = .returned (.tuple #[.int .i64 (row x).length, .bool true]) := hpost
    subst hpost
    have hl := parse_len hq
    refine ⟨?_, hk12⟩
    rw [← hRES]
    cases r with
    | nil => simp at hl; simp [one, hl]
    | cons y r =>
      simp only [one]
      rw [decide_eq_false (by simp only [List.length_cons] at hl ⊢; omega)]
      rfl

theorem right18_ct {C : Mem} {w : World} (hS : Sub C w) {cs : List Value} {p : Flt} (hp : rFlt.den C cs p) :
    CallOk Tryd.prog 25 ∧ Calls Tryd.prog 25 #[.agg cs.toArray] w (fun e w' => e = .returned (.int .i64 (rightF p)) ∧ Kp [] w w') := by
  have hp0 := hp
  obtain ⟨a1, c1, a2, c2, a3, c3, rfl, h1, h2, h3, h4⟩ := hp
  obtain ⟨RES, hRES⟩ : ∃ r, rightF p = r := ⟨_, rfl⟩
  rw [hRES]
  have hl1 := h1.1
  have hl2 := h2.1
  refine ⟨⟨_, Tryd.func25, rfl, by decide⟩, ?_⟩
  refine calls_of (args := [_]) 83 [.tmp 2] τok Tryd.func25 rfl rfl rfl (Nat.le_of_ble_eq_true rfl) ?_
  refine new fun b1 w1 hb1 hB1 hs1 hk1 => ?_
  have hB1 : Bk w1.heap b1 [.slice a1 p.funs.length c1, .slice a2 p.bodies.length c2, .slice a3 p.main.length c3] 27 := hB1
  have hS1 := hS.tr hk1
  have ret : ∀ n w', Kp [] w w' → RES = n → Ending.returned (one [.int .i64 n]) = .returned (.int .i64 RES) ∧ Kp [] w w' := fun n w' h e => ⟨by rw [e]; rfl, h⟩
  (repeat first | refine ldC ‹Sub _ _› (by assumption) ?_ | refine ld (Cl.cell (by first | assumption | exact Bk.cl (by assumption) rfl)) ?_ | refine ldK (by first | assumption | exact Bk.cl (by assumption) rfl | exact ‹Sub _ _› _ _ _ (by assumption)) ?_)
  refine br_dec (fun g1 => ?_) (fun g1 => ?_)
  · exact ret _ _ hk1 (by rw [← hRES]; unfold rightF; rw [if_pos (.inl (by omega))])
  (repeat first | refine ldC ‹Sub _ _› (by assumption) ?_ | refine ld (Cl.cell (by first | assumption | exact Bk.cl (by assumption) rfl)) ?_ | refine ldK (by first | assumption | exact Bk.cl (by assumption) rfl | exact ‹Sub _ _› _ _ _ (by assumption)) ?_)
  refine br_dec (fun g2 => ?_) (fun g2 => ?_)
  · exact ret _ _ hk1 (by rw [← hRES]; unfold rightF; rw [if_pos (.inr (by omega))])
  unfold rightF at hRES
  rw [if_neg (by omega)] at hRES
  refine lp τok (σ := Nat) (fun k => [(1, .pointer (some ⟨b1, 0, none⟩)), (3, .int .i64 k)])
    (fun k w' => k ≤ p.funs.length ∧ Kp [] w1 w' ∧ p.funs.any (fun f => !inM f.caps 0 255) = (p.funs.drop k).any (fun f => !inM f.caps 0 255)) (fun k => p.funs.length - k) 0 rfl
    ⟨rfl, rfl, trivial⟩ ⟨Nat.zero_le _, Kp.refl _ _, rfl⟩ ?_
  rintro k w2 ⟨hk, hkp, hr⟩
  have hB2 := hB1.kp hkp (by simp)
  have hS2 := hS1.tr hkp
  have hk12 := hk1.tr hkp
  refine ld (hB2.cl rfl).cell ?_
  refine br_dec (fun g3 => ?_) (fun g3 => ?_)
  · have hlt : k < p.funs.length := by omega
    obtain ⟨f, hf, hd⟩ := drop_get hlt
    rw [hd, List.any_cons] at hr
    obtain ⟨b, o, rfl, a', cap, hbody, _, hcp, hcc, _⟩ := sl_ffn h1 hf
    refine ld (hB2.cl rfl).cell ?_
    refine ix k rfl hlt ?_
    refine ldC hS2 hcp ?_
    refine ev_call (within18_ct _ _ _ w2) ?_
    rintro e w3 ⟨rfl, hk3⟩
    refine br (fun g4 => ?_) (fun g4 => ?_)
    · rw [g4, Bool.true_or] at hr
      exact ret _ _ (hk12.tr hk3) (by rw [← hRES, if_pos hr])
    · rw [g4, Bool.false_or] at hr
      refine int64 (by omega) (by omega) ?_
      exact ⟨k + 1, by omega, rfl, ⟨rfl, rfl, trivial⟩, hlt, hkp.tr hk3, hr⟩
  rw [List.drop_eq_nil_of_le (by omega)] at hr
  have hr : p.funs.any (fun f => !inM f.caps 0 255) = false := hr
  rw [if_neg (by rw [hr]; simp)] at hRES
  have hco := caps_of hr
  clear hr
  refine lp τok (σ := Nat) (fun k => [(1, .pointer (some ⟨b1, 0, none⟩)), (4, .int .i64 k)])
    (fun k w' => k ≤ p.funs.length ∧ Kp [] w2 w' ∧ p.funs.all (fun f => wholeF p f.body (f.caps + 1)) = (p.funs.drop k).all (fun f => wholeF p f.body (f.caps + 1))) (fun k => p.funs.length - k) 0 rfl
    ⟨rfl, rfl, trivial⟩ ⟨Nat.zero_le _, Kp.refl _ _, rfl⟩ ?_
  clear hk g3
  rintro k w3 ⟨hk, hkp3, hr⟩
  have hB3 := hB2.kp hkp3 (by simp)
  have hS3 := hS2.tr hkp3
  have hk13 := hk12.tr hkp3
  refine ld (hB3.cl rfl).cell ?_
  refine br_dec (fun g3 => ?_) (fun g3 => ?_)
  · have hlt : k < p.funs.length := by omega
    obtain ⟨f, hf, hd⟩ := drop_get hlt
    rw [hd, List.all_cons] at hr
    have hcap := hco f (List.mem_of_getElem? hf)
    obtain ⟨b, o, rfl, a', cap, hbody, _, hcp, hcc, hbl⟩ := sl_ffn h1 hf
    refine drawQ τok (fun w' => Kp [] w3 w') (by kernel_rfl) ((Kp.refl [] w3).dr _) ?_
    refine ldNK [.slice (some ⟨b, o, none⟩) p.funs.length c1, .slice a2 p.bodies.length c2, .slice a3 p.main.length c3] rfl (fun j v hj => by rw [Nat.zero_add]; exact hB3.cl hj) ?_
    refine ldK (hB3.cl rfl) ?_
    refine ix k rfl hlt ?_
    refine ldK (hS3 _ _ _ hcc) ?_
    refine ldK (hB3.cl rfl) ?_
    refine ix k rfl hlt ?_
    refine ldK (hS3 _ _ _ hcp) ?_
    refine int64 (by omega) (by omega) ?_
    refine callK (fun w' hk' => whole18_ct hp0 hco (hS3.tr hk') hbody hbl (f.caps + 1) (by omega) (by omega)) ?_
    intro w4 hk4
    have hkp4 := hkp3.tr hk4
    refine br (fun g4 => ?_) (fun g4 => ?_)
    · have g4 : wholeF p f.body (f.caps + 1) = false := by simpa using g4
      rw [g4, Bool.false_and] at hr
      exact ret _ _ (hk12.tr hkp4) (by rw [← hRES, if_pos hr])
    · have g4 : wholeF p f.body (f.caps + 1) = true := by simpa using g4
      rw [g4, Bool.true_and] at hr
      refine int64 (by omega) (by omega) ?_
      exact ⟨k + 1, by omega, rfl, ⟨rfl, rfl, trivial⟩, hlt, hkp4, hr⟩
  rw [List.drop_eq_nil_of_le (by omega)] at hr
  rw [if_neg (by rw [hr]; simp)] at hRES
  clear hr
  refine lp τok (σ := Nat) (fun k => [(1, .pointer (some ⟨b1, 0, none⟩)), (5, .int .i64 k)])
    (fun k w' => k ≤ p.bodies.length ∧ Kp [] w3 w' ∧ p.bodies.all (fun b => decide (b.length = 0) || wholeF p b 0) = (p.bodies.drop k).all (fun b => decide (b.length = 0) || wholeF p b 0)) (fun k => p.bodies.length - k) 0 rfl
    ⟨rfl, rfl, trivial⟩ ⟨Nat.zero_le _, Kp.refl _ _, rfl⟩ ?_
  clear hk g3
  rintro k w4 ⟨hk, hkp4, hr⟩
  have hB4 := hB3.kp hkp4 (by simp)
  have hS4 := hS3.tr hkp4
  have hk14 := hk13.tr hkp4
  refine ld (hB4.cl rfl).cell ?_
  refine br_dec (fun g3 => ?_) (fun g3 => ?_)
  · have hlt : k < p.bodies.length := by omega
    obtain ⟨x, hx, hd⟩ := drop_get hlt
    rw [hd, List.all_cons] at hr
    obtain ⟨b, o, rfl, a', cap, hcell, hxl, hbody⟩ := h2.sk hx
    refine drawQ τok (fun w' => Kp [] w4 w') (by kernel_rfl) ((Kp.refl [] w4).dr _) ?_
    refine ldK (hB4.cl rfl) ?_
    refine ix k rfl hlt ?_
    refine ldK (hS4 _ _ _ hcell) ?_
    refine br_dec (fun g4 => ?_) (fun g4 => ?_)
    · rw [decide_eq_false (show ¬ x.length = 0 by omega), Bool.false_or] at hr
      refine ldNK [.slice a1 p.funs.length c1, .slice (some ⟨b, o, none⟩) p.bodies.length c2, .slice a3 p.main.length c3] rfl (fun j v hj => by rw [Nat.zero_add]; exact hB4.cl hj) ?_
      refine ldK (hB4.cl rfl) ?_
      refine ix k rfl hlt ?_
      refine ldK (hS4 _ _ _ hcell) ?_
      refine callK (fun w' hk' => whole18_ct hp0 hco (hS4.tr hk') hbody hxl 0 (by omega) (by omega)) ?_
      intro w5 hk5
      have hkp5 := hkp4.tr hk5
      refine br (fun g4 => ?_) (fun g4 => ?_)
      · have g4 : wholeF p x 0 = false := by simpa using g4
        rw [g4, Bool.false_and] at hr
        exact ret _ _ (hk13.tr hkp5) (by rw [← hRES, if_pos hr])
      · have g4 : wholeF p x 0 = true := by simpa using g4
        rw [g4, Bool.true_and] at hr
        refine int64 (by omega) (by omega) ?_
        exact ⟨k + 1, by omega, rfl, ⟨rfl, rfl, trivial⟩, hlt, hkp5, hr⟩
    · rw [decide_eq_true (show x.length = 0 by omega), Bool.true_or, Bool.true_and] at hr
      intro w5 hk5
      refine int64 (by omega) (by omega) ?_
      exact ⟨k + 1, by omega, rfl, ⟨rfl, rfl, trivial⟩, hlt, hkp4.tr hk5, hr⟩
  rw [List.drop_eq_nil_of_le (by omega)] at hr
  rw [if_neg (by rw [hr]; simp)] at hRES
  refine ldN [.slice a1 p.funs.length c1, .slice a2 p.bodies.length c2, .slice a3 p.main.length c3] rfl (fun j v hj => by rw [Nat.zero_add]; exact hB4.cl hj) ?_
  refine ld (hB4.cl rfl).cell ?_
  refine ev_call (whole18_ct hp0 hco hS4 h3 h4 0 (by omega) (by omega)) ?_
  rintro e w6 ⟨rfl, hk6⟩
  refine br (fun g4 => ?_) (fun g4 => ?_)
  · exact ret _ _ (hk14.tr hk6) (by rw [← hRES, if_pos (by simpa using g4)])
  · exact ret _ _ (hk14.tr hk6) (by rw [← hRES, if_neg (by simpa using g4)])
end Go.Proofs.YtjpdkcejkogciaaDoor

/-
  Code: the reference's Right, where all rows are boxes or none.
-/
set_option linter.unusedSimpArgs false
set_option linter.unusedVariables false
namespace Go.Proofs.YtjpdkcejkogciaaDoor
open Go.Wx Cd

theorem right15_ct {C : Mem} {w : World} (hS : Sub C w) (bodies : List (List Nd)) (shapes : List Shp) (nat : Int) (ab ash am ap : Option Addr) (cb cs cm cp : Nat) (hb : Sl (rSl rNd) C ab bodies) (hs : Sl rShp C ash shapes) (hm : Sl rNd C am [Nd.box])
    (hbox : ∀ b ∈ bodies, b = [] ∨ b = [Nd.box]) (hb64 : bodies.length ≤ 64) (hs64 : shapes.length ≤ 64) :
    CallOk Tryd.prog 26 ∧ Calls Tryd.prog 26 #[.agg #[.slice ab bodies.length cb, .slice ash shapes.length cs, .slice am 1 cm, .int .i64 nat, .slice ap 0 cp]] w (fun e w' => ∃ n : Int, e = .returned (.int .i64 n) ∧ decide (n = 0) = rightM bodies shapes nat ∧ Kp [] w w') := by
  obtain ⟨RES, hRES⟩ : ∃ r, rightM bodies shapes nat = r := ⟨_, rfl⟩
  rw [hRES]
  refine ⟨⟨_, Tryd.func26, rfl, by decide⟩, ?_⟩
  refine calls_of (args := [_]) 233 [.tmp 2] τok Tryd.func26 rfl rfl rfl (Nat.le_of_ble_eq_true rfl) ?_
  refine new fun b1 w1 hb1 hB1 hs1 hk1 => ?_
  have hB1 : Bk w1.heap b1 [.slice ab bodies.length cb, .slice ash shapes.length cs, .slice am 1 cm, .int .i64 nat, .slice ap 0 cp] 33 := hB1
  have hS1 := hS.tr hk1
  (repeat first | refine ldC ‹Sub _ _› (by assumption) ?_ | refine ld (Cl.cell (by first | assumption | exact Bk.cl (by assumption) rfl)) ?_ | refine ldK (by first | assumption | exact Bk.cl (by assumption) rfl | exact ‹Sub _ _› _ _ _ (by assumption)) ?_)
  refine br_dec (fun h1 => ?_) (fun h1 => ?_)
  · exact absurd h1 (by omega)
  (repeat first | refine ldC ‹Sub _ _› (by assumption) ?_ | refine ld (Cl.cell (by first | assumption | exact Bk.cl (by assumption) rfl)) ?_ | refine ldK (by first | assumption | exact Bk.cl (by assumption) rfl | exact ‹Sub _ _› _ _ _ (by assumption)) ?_)
  refine br_dec (fun h2 => ?_) (fun h2 => ?_)
  · exact absurd h2 (by omega)
  (repeat first | refine ldC ‹Sub _ _› (by assumption) ?_ | refine ld (Cl.cell (by first | assumption | exact Bk.cl (by assumption) rfl)) ?_ | refine ldK (by first | assumption | exact Bk.cl (by assumption) rfl | exact ‹Sub _ _› _ _ _ (by assumption)) ?_)
  refine br_dec (fun h3 => ?_) (fun h3 => ?_)
  · exact ⟨8, rfl, by rw [← hRES]; unfold rightM; rw [decide_eq_false (p := bodies.length = shapes.length) (fun e => h3 (by rw [e]))]; rfl, hk1⟩
  have hl : bodies.length = shapes.length := by
    have : (bodies.length : Int) = shapes.length := by simpa using h3
    omega
  unfold rightM at hRES
  rw [decide_eq_true hl, Bool.true_and] at hRES
  refine lp τok (σ := Nat) (fun k => [(1, .pointer (some ⟨b1, 0, none⟩)), (3, .int .i64 k)])
    (fun k w' => k ≤ bodies.length ∧ Kp [] w1 w' ∧ RES = (entsOk (bodies.drop k) (shapes.drop k) && natOk bodies shapes nat)) (fun k => bodies.length - k) 0 rfl ⟨rfl, rfl, trivial⟩ ⟨Nat.zero_le _, Kp.refl _ _, hRES.symm⟩ ?_
  rintro k w2 ⟨hk, hkp, hr⟩
  have hB2 := hB1.kp hkp (by simp)
  have hS2 := hS1.tr hkp
  refine ld (hB2.cl rfl).cell ?_
  refine br_dec (fun h4 => ?_) (fun h4 => ?_)
  · have hlt : k < bodies.length := by omega
    obtain ⟨x, hx, hdx⟩ := drop_get hlt
    obtain ⟨s, hsx, hds⟩ := drop_get (l := shapes) (k := k) (by omega)
    rw [entsOk_drop hdx hds, Bool.and_assoc] at hr
    have hxb := hbox x (List.mem_of_getElem? hx)
    obtain ⟨b, o, rfl, ax, cx, hcx, hslx⟩ := hb.sl hx
    obtain ⟨b', o', rfl, ak, ck, hkept, _, hcp, hck⟩ := sl_shp hs hsx
    have hkl := hkept.1
    refine ld (hB2.cl rfl).cell ?_
    refine ix k rfl (by omega) ?_
    refine ldN [.int .i64 s.params, .slice ak s.kept.length ck] rfl (fun j v hj => ?_) ?_
    · match j with
      | 0 => simp at hj; subst hj; exact hS2 _ _ _ hcp
      | 1 => simp at hj; subst hj; exact hS2 _ _ _ hck
      | j + 2 => simp at hj
    refine new fun b3 w3 hb3 hB3 hs3 hk3 => ?_
    refine stN hB3 rfl (by simp [Value.oneCell']) fun w4 hB4 hs4 hk4 => ?_
    have hk24 : Kp [] w2 w4 := hk3.newSt hb3 hk4
    have hkp4 := hkp.tr hk24
    refine ld (hB4.cl rfl).cell ?_
    refine ev_call (within15_ct _ _ _ w4) ?_
    rintro e w5 ⟨rfl, hk5⟩
    have hkp5 := hkp4.tr hk5
    have hB5 := hB4.kp hk5 (by simp)
    have no : ∀ w', Kp [] w1 w' → entOk x s = false → ∃ n : Int, Ending.returned (one [.int .i64 8]) = .returned (.int .i64 n) ∧ decide (n = 0) = RES ∧ Kp [] w w' := fun w' h e => ⟨8, rfl, by rw [hr, e]; rfl, hk1.tr h⟩
    refine br (fun h5 => ?_) (fun h5 => ?_)
    · refine no _ hkp5 ?_
      have h5 : inM s.params 0 16 = false := by simpa using h5
      unfold inM at h5
      unfold entOk shpOk
      rw [h5]
      simp
    have h5 : inM s.params 0 16 = true := by simpa using h5
    refine ld (hB5.cl rfl).cell ?_
    refine br_dec (fun h6 => ?_) (fun h6 => ?_)
    · refine no _ hkp5 ?_
      unfold entOk shpOk
      rw [decide_eq_false (show ¬ s.kept.length ≤ 16 by omega)]
      simp
    have h6 : s.kept.length ≤ 16 := by omega
    have hsh : shpOk s = !s.kept.any fun k => decide (16 < k.length) := by
      unfold inM at h5
      unfold shpOk
      rw [h5, decide_eq_true h6]
      simp
    refine lp τok (σ := Nat) (fun q => [(1, .pointer (some ⟨b1, 0, none⟩)), (3, .int .i64 k), (4, .pointer (some ⟨b3, 0, none⟩)), (5, .int .i64 q)])
      (fun q w' => q ≤ s.kept.length ∧ w' = w5 ∧ (s.kept.any fun k => decide (16 < k.length)) = (s.kept.drop q).any fun k => decide (16 < k.length)) (fun q => s.kept.length - q) 0 rfl ⟨rfl, rfl, rfl, rfl, trivial⟩ ⟨Nat.zero_le _, rfl, rfl⟩ ?_
    rintro q w6 ⟨hq, rfl, hany⟩
    refine ld (hB5.cl rfl).cell ?_
    refine br_dec (fun h7 => ?_) (fun h7 => ?_)
    · have hlq : q < s.kept.length := by omega
      obtain ⟨y, hy, hdy⟩ := drop_get hlq
      rw [hdy, List.any_cons] at hany
      obtain ⟨b4, o4, rfl, ay, cy, hcy, _⟩ := hkept.sl hy
      refine ld (hB5.cl rfl).cell ?_
      refine ix q rfl hlq ?_
      refine ldC (hS1.tr hkp5) hcy ?_
      refine br_dec (fun h8 => ?_) (fun h8 => ?_)
      · refine no _ hkp5 ?_
        unfold entOk
        rw [hsh, hany, decide_eq_true (show 16 < y.length by omega)]
        rfl
      rw [decide_eq_false (show ¬ 16 < y.length by omega), Bool.false_or] at hany
      refine int64 (by omega) (by omega) ?_
      exact ⟨q + 1, by omega, rfl, ⟨rfl, rfl, rfl, rfl, trivial⟩, hlq, rfl, hany⟩
    rw [List.drop_eq_nil_of_le (by omega)] at hany
    have h5 : shpOk s = true := by rw [hsh, hany]; rfl
    have hB15 := hB1.kp hkp5 (by simp)
    have hS5 := hS1.tr hkp5
    have go : entOk x s = true → RES = (entsOk (bodies.drop (k + 1)) (shapes.drop (k + 1)) && natOk bodies shapes nat) := fun e => by rw [hr, e, Bool.true_and]
    refine drawQ τok (fun w' => Kp [] w6 w') (by kernel_rfl) ((Kp.refl [] w6).dr _) ?_
    refine ldK (hB15.cl rfl) ?_
    refine ix k rfl hlt ?_
    refine ldK (hS5 _ _ _ hcx) ?_
    refine br_dec (fun h8 => ?_) (fun h8 => ?_)
    · have hx1 : x = [Nd.box] := by
        rcases hxb with e | e
        · rw [e] at h8; simp at h8
        · exact e
      refine ldK (hB5.cl rfl) ?_
      refine br_dec (fun h9 => ?_) (fun h9 => ?_)
      · intro w7 hk7
        exact no _ (hkp5.tr hk7) (by unfold entOk; rw [h5, hx1, decide_eq_false h9]; rfl)
      refine ldK (hB5.cl rfl) ?_
      refine br_dec (fun h10 => ?_) (fun h10 => ?_)
      · intro w7 hk7
        exact no _ (hkp5.tr hk7) (by unfold entOk; rw [h5, hx1, decide_eq_false (show ¬ s.kept.length = 0 by intro e; exact h10 (by rw [e]; rfl))]; simp)
      refine ldNK [.slice (some ⟨b, o, none⟩) bodies.length cb, .slice (some ⟨b', o', none⟩) shapes.length cs, .slice am 1 cm, .int .i64 nat, .slice ap 0 cp] rfl (fun j v hj => by rw [Nat.zero_add]; exact hB15.cl hj) ?_
      refine ldK (hB15.cl rfl) ?_
      refine ix k rfl hlt ?_
      refine ldK (hS5 _ _ _ hcx) ?_
      subst hx1
      obtain ⟨bb, oo, rfl, hbx⟩ := bx_of hslx
      refine callK (fun w' hk' => there15_box cx _ rfl k (hbx w' (hS5.tr hk'))) ?_
      have h10' : s.kept.length = 0 := by
        have h10 : (s.kept.length : Int) = 0 := by simpa using h10
        omega
      intro w7 hk7
      refine int64 (by omega) (by omega) ?_
      exact ⟨k + 1, by omega, rfl, ⟨rfl, rfl, trivial⟩, hlt, hkp5.tr hk7, go (by unfold entOk; rw [h5, decide_eq_true (show s.params = 0 by simpa using h9), decide_eq_true h10']; simp)⟩
    · intro w7 hk7
      refine int64 (by omega) (by omega) ?_
      exact ⟨k + 1, by omega, rfl, ⟨rfl, rfl, trivial⟩, hlt, hkp5.tr hk7, go (by unfold entOk; rw [h5, decide_eq_true (show x.length = 0 by omega)]; rfl)⟩
  · rw [List.drop_eq_nil_of_le (by omega)] at hr
    have hr : RES = natOk bodies shapes nat := hr
    refine ldN [.slice ab bodies.length cb, .slice ash shapes.length cs, .slice am 1 cm, .int .i64 nat, .slice ap 0 cp] rfl (fun j v hj => by rw [Nat.zero_add]; exact hB2.cl hj) ?_
    (repeat first | refine ldC ‹Sub _ _› (by assumption) ?_ | refine ld (Cl.cell (by first | assumption | exact Bk.cl (by assumption) rfl)) ?_ | refine ldK (by first | assumption | exact Bk.cl (by assumption) rfl | exact ‹Sub _ _› _ _ _ (by assumption)) ?_)
    obtain ⟨bb, oo, rfl, hbx⟩ := bx_of hm
    refine ev_call (there15_box cm _ rfl _ (hbx w2 hS2)) ?_
    rintro e w3 ⟨rfl, hk3⟩
    have hB3 := hB2.kp hk3 (by simp)
    have hS3 := hS2.tr hk3
    have hk13 := (hk1.tr hkp).tr hk3
    refine ld (hB3.cl rfl).cell ?_
    have no : ∀ w', Kp [] w w' → RES = false → ∃ n : Int, Ending.returned (one [.int .i64 22]) = .returned (.int .i64 n) ∧ decide (n = 0) = RES ∧ Kp [] w w' := fun w' h e => ⟨22, rfl, by rw [e]; rfl, h⟩
    refine br_dec (fun g1 => ?_) (fun g1 => ?_)
    · refine ld (hB3.cl rfl).cell ?_
      refine br_dec (fun g2 => ?_) (fun g2 => ?_)
      · exact no _ hk13 (by rw [hr]; simp [natOk, g1, show ¬ 0 ≤ nat by omega])
      refine ld (hB3.cl rfl).cell ?_
      refine ld (hB3.cl rfl).cell ?_
      refine br_dec (fun g3 => ?_) (fun g3 => ?_)
      · exact no _ hk13 (by rw [hr]; simp [natOk, g1, show ¬ nat < bodies.length by omega])
      obtain ⟨x, hx⟩ : ∃ x, bodies[nat.toNat]? = some x := ⟨bodies[nat.toNat]'(by omega), by simp⟩
      obtain ⟨s, hsx⟩ : ∃ x, shapes[nat.toNat]? = some x := ⟨shapes[nat.toNat]'(by omega), by simp⟩
      have hr : RES = (decide (x.length = 0) && (decide (s.params = 0) && decide (s.kept = [[], [true]]))) := by
        rw [hr]
        unfold natOk
        rw [hx, hsx, decide_eq_false g1, decide_eq_true (show 0 ≤ nat by omega), decide_eq_true (show nat < bodies.length by omega)]
        simp
      obtain ⟨b, o, rfl, a', cap, hcx, _⟩ := hb.sl hx
      obtain ⟨b', o', rfl, ak, ck, hkept, _, hcp, hck⟩ := sl_shp hs hsx
      refine ld (hB3.cl rfl).cell ?_
      refine ld (hB3.cl rfl).cell ?_
      refine ix nat.toNat (by omega) (by omega) ?_
      refine ldC hS3 hcx ?_
      refine br_dec (fun g4 => ?_) (fun g4 => ?_)
      · exact no _ hk13 (by rw [hr, decide_eq_false (fun e => g4 (by rw [e]; rfl))]; rfl)
      have g4 : x.length = 0 := by
        have : (x.length : Int) = 0 := by simpa using g4
        omega
      rw [decide_eq_true g4, Bool.true_and] at hr
      refine ld (hB3.cl rfl).cell ?_
      refine ld (hB3.cl rfl).cell ?_
      refine ix nat.toNat (by omega) (by omega) ?_
      refine ldN [.int .i64 s.params, .slice ak s.kept.length ck] rfl (fun j v hj => ?_) ?_
      · match j with
        | 0 => simp at hj; subst hj; exact hS3 _ _ _ hcp
        | 1 => simp at hj; subst hj; exact hS3 _ _ _ hck
        | j + 2 => simp at hj
      refine new fun b4 w4 hb4 hB4 hs4 hk4 => ?_
      refine stN hB4 rfl (by simp [Value.oneCell']) fun w5 hB5 hs5 hk5 => ?_
      have hk35 : Kp [] w3 w5 := hk4.newSt hb4 hk5
      have hk15 := hk13.tr hk35
      have hS5 := hS3.tr hk35
      have hB3 := hB3.kp hk35 (by simp)
      refine ld (hB5.cl rfl).cell ?_
      refine br_dec (fun g5 => ?_) (fun g5 => ?_)
      · exact no _ hk15 (by rw [hr, decide_eq_false g5]; rfl)
      rw [decide_eq_true (show s.params = 0 by simpa using g5), Bool.true_and] at hr
      refine ld (hB5.cl rfl).cell ?_
      refine br_dec (fun g6 => ?_) (fun g6 => ?_)
      · exact no _ hk15 (by rw [hr, decide_eq_false (fun e => g6 (by rw [e]; rfl))])
      have g6 : s.kept.length = 2 := by
        have : (s.kept.length : Int) = 2 := by simpa using g6
        omega
      obtain ⟨y0, y1, hy⟩ : ∃ y0 y1, s.kept = [y0, y1] := by
        match h : s.kept, g6 with
        | [y0, y1], _ => exact ⟨y0, y1, rfl⟩
      obtain ⟨b5, o5, rfl, a0, c0, hc0, hsl0⟩ := hkept.sl (i := 0) (x := y0) (by rw [hy]; rfl)
      obtain ⟨b6, o6, e6, a1, c1, hc1, hsl1⟩ := hkept.sl (i := 1) (x := y1) (by rw [hy]; rfl)
      have e6 := Option.some.inj e6
      injection e6 with e7 e8
      subst e7 e8
      have hr : RES = decide (y0 = [] ∧ y1 = [true]) := by rw [hr, hy]; simp
      refine ld (hB5.cl rfl).cell ?_
      refine ix 0 rfl (by omega) ?_
      refine ldC hS5 hc0 ?_
      refine br_dec (fun g7 => ?_) (fun g7 => ?_)
      · exact no _ hk15 (by rw [hr, decide_eq_false (fun e => g7 (by rw [e.1]; rfl))])
      have g7 : y0 = [] := List.length_eq_zero_iff.1 (by
        have : (y0.length : Int) = 0 := by simpa using g7
        omega)
      refine ld (hB5.cl rfl).cell ?_
      refine ix 1 rfl (by omega) ?_
      refine ldC hS5 hc1 ?_
      refine br_dec (fun g8 => ?_) (fun g8 => ?_)
      · exact no _ hk15 (by rw [hr, decide_eq_false (fun e => g8 (by rw [e.2]; rfl))])
      obtain ⟨z, hz⟩ : ∃ z, y1 = [z] := by
        have : y1.length = 1 := by
          have : (y1.length : Int) = 1 := by simpa using g8
          omega
        match h : y1, this with
        | [z], _ => exact ⟨z, rfl⟩
      subst hz
      obtain ⟨b7, o7, rfl, hcz⟩ := hsl1.bool (i := 0) (x := z) rfl
      refine ld (hB5.cl rfl).cell ?_
      refine ix 1 rfl (by omega) ?_
      refine ldC hS5 hc1 ?_
      refine ix 0 rfl (by simp) ?_
      refine ldC hS5 hcz ?_
      refine br (fun g9 => ?_) (fun g9 => ?_)
      · exact no _ hk15 (by rw [hr, show z = false by simpa using g9]; simp)
      have hr : RES = true := by rw [hr, g7, show z = true by simpa using g9]; simp
      refine lp τok (fun _ : Unit => [(1, .pointer (some ⟨b1, 0, none⟩)), (7, .int .i64 0)]) (fun _ w' => w' = w5) (fun _ => 0) () rfl ⟨rfl, rfl, trivial⟩ rfl ?_
      rintro _ w6 rfl
      refine ld (hB3.cl rfl).cell ?_
      exact ⟨0, rfl, by rw [hr]; rfl, hk15⟩
    · have g1 : nat = -1 := by simpa using g1
      have hr : RES = true := by rw [hr]; simp [natOk, g1]
      refine lp τok (fun _ : Unit => [(1, .pointer (some ⟨b1, 0, none⟩)), (7, .int .i64 0)]) (fun _ w' => w' = w3) (fun _ => 0) () rfl ⟨rfl, rfl, trivial⟩ rfl ?_
      rintro _ w6 rfl
      refine ld (hB3.cl rfl).cell ?_
      exact ⟨0, rfl, by rw [hr]; rfl, hk13⟩
end Go.Proofs.YtjpdkcejkogciaaDoor

