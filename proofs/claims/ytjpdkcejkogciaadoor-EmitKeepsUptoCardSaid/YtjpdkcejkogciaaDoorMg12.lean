/-
  Own texts put together: R15A, R15B, R15C, R15D.
-/
import Derived.Test.YtjpdkcejkogciaaDoorMg11
/-
  Reference of layer 15: Count, Around; trees in memory; Read, Shape, Of.
-/
set_option linter.unusedSimpArgs false
set_option linter.unusedVariables false
namespace Cd
open Go Go.Wx

/-! ### trees in memory -/
mutual
def denT (C : Mem) : Tr → List Value → Prop
  | .mk n ks, cs => ∃ a cap, cs = [.int .i64 n.op, .int .i64 n.a, .int .i64 n.b, .slice a ks.length cap] ∧ (I64 n.op ∧ I64 n.a ∧ I64 n.b) ∧ ks.length ≤ 1099511627776 ∧ (ks.length = 0 ∨ ∃ b o, a = some ⟨b, o, none⟩ ∧ denL C b o ks)
def denL (C : Mem) (b : Nat) : Nat → List Tr → Prop
  | _, [] => True
  | o, x :: r => (∃ cs, denT C x cs ∧ ∀ j v, cs[j]? = some v → C b (o + j) v) ∧ denL C b (o + 4) r
end
mutual
theorem denT_mono {C C' : Mem} (h : ∀ b o v, C b o v → C' b o v) : ∀ (x : Tr) (cs : List Value), denT C x cs → denT C' x cs
  | .mk n ks, cs, ⟨a, cap, h1, h2, h3, h4⟩ => by
    refine ⟨a, cap, h1, h2, h3, ?_⟩
    rcases h4 with h4 | ⟨b, o, h4, h5⟩
    · exact .inl h4
    · exact .inr ⟨b, o, h4, denL_mono h b o ks h5⟩
theorem denL_mono {C C' : Mem} (h : ∀ b o v, C b o v → C' b o v) (b : Nat) : ∀ (o : Nat) (l : List Tr), denL C b o l → denL C' b o l
  | _, [], _ => trivial
  | o, x :: r, ⟨⟨cs, h1, h2⟩, h3⟩ => ⟨⟨cs, denT_mono h x cs h1, fun j v hj => h _ _ _ (h2 j v hj)⟩, denL_mono h b (o + 4) r h3⟩
end
theorem denL_get {C : Mem} {b : Nat} : ∀ {l : List Tr} {o i : Nat} {x : Tr}, denL C b o l → l[i]? = some x → ∃ cs, denT C x cs ∧ ∀ j v, cs[j]? = some v → C b (o + i * 4 + j) v
  | [], o, i, x, _, h => by simp at h
  | y :: r, o, 0, x, ⟨h1, _⟩, h => by
    simp at h
    subst h
    simpa using h1
  | y :: r, o, i + 1, x, ⟨_, h2⟩, h => by
    obtain ⟨cs, h3, h4⟩ := denL_get h2 (i := i) (by simpa using h)
    exact ⟨cs, h3, fun j v hj => by have := h4 j v hj; rwa [show o + 4 + i * 4 + j = o + (i + 1) * 4 + j by omega] at this⟩
theorem denL_of {C : Mem} {b : Nat} : ∀ {l : List Tr} {o : Nat}, (∀ i x, l[i]? = some x → ∃ cs, denT C x cs ∧ ∀ j v, cs[j]? = some v → C b (o + i * 4 + j) v) → denL C b o l
  | [], _, _ => trivial
  | x :: r, o, h => by
    refine ⟨by simpa using h 0 x rfl, denL_of fun i y hy => ?_⟩
    obtain ⟨cs, h3, h4⟩ := h (i + 1) y (by simpa using hy)
    exact ⟨cs, h3, fun j v hj => by have := h4 j v hj; rwa [show o + (i + 1) * 4 + j = o + 4 + i * 4 + j by omega] at this⟩
def rTr : Rd Tr where
  sz := 4
  den C cs x := denT C x cs
  len := by
    rintro C cs ⟨n, ks⟩ ⟨a, cap, rfl, _⟩
    rfl
  mono := by
    rintro C C' cs x hc h
    exact denT_mono hc x cs h
  one := by
    rintro C cs ⟨n, ks⟩ ⟨a, cap, rfl, _⟩ u hu
    simp at hu
    rcases hu with rfl | rfl | rfl | rfl <;> rfl
theorem rTr_den {C : Mem} {n : Nd} {ks : List Tr} {cs : List Value} : rTr.den C cs (.mk n ks) ↔ ∃ a cap, cs = [.int .i64 n.op, .int .i64 n.a, .int .i64 n.b, .slice a ks.length cap] ∧ (I64 n.op ∧ I64 n.a ∧ I64 n.b) ∧ Sl rTr C a ks := by
  constructor
  · rintro ⟨a, cap, h1, h2, h3, h4⟩
    refine ⟨a, cap, h1, h2, h3, ?_⟩
    rcases h4 with h4 | ⟨b, o, h4, h5⟩
    · exact .inl h4
    · exact .inr ⟨b, o, h4, fun i x hx => denL_get h5 hx⟩
  · rintro ⟨a, cap, h1, h2, h3, h4⟩
    refine ⟨a, cap, h1, h2, h3, ?_⟩
    rcases h4 with h4 | ⟨b, o, h4, h5⟩
    · exact .inl h4
    · exact .inr ⟨b, o, h4, denL_of fun i x hx => h5 i x hx⟩
end Cd
namespace Go.Proofs.YtjpdkcejkogciaaDoor
open Go.Wx Cd

theorem around15_ct (n : Nd) (k : Nat) (w : World) : CallOk Tryd.prog 94 ∧ Calls Tryd.prog 94 #[.agg #[.int .i64 n.op, .int .i64 n.a, .int .i64 n.b], .int .i64 k] w (fun e w' => e = .returned (.int .i64 (bndB n k)) ∧ Kp [] w w') := by
  obtain ⟨RES, hRES⟩ : ∃ r, bndB n k = r := ⟨_, rfl⟩
  rw [hRES]
  refine ⟨⟨_, Tryd.func94, rfl, by decide⟩, ?_⟩
  refine calls_of (args := [_, _]) 22 [.tmp 4] τok Tryd.func94 rfl rfl rfl (Nat.le_of_ble_eq_true rfl) ?_
  refine new fun bn w1 hbn hN hsn hk1 => ?_
  have hN : Bk w1.heap bn [.int .i64 n.op, .int .i64 n.a, .int .i64 n.b] 47 := hN
  have ret : ∀ x w', Kp [] w w' → RES = x → Ending.returned (one [.int .i64 x]) = .returned (.int .i64 RES) ∧ Kp [] w w' := fun n w' h e => ⟨by rw [e]; rfl, h⟩
  unfold bndB at hRES
  refine ld (hN.cl rfl).cell ?_
  refine br_dec (fun o1 => ?_) (fun o1 => ?_)
  · exact ret _ _ hk1 (by rw [← hRES, if_pos (.inl o1)])
  refine ld (hN.cl rfl).cell ?_
  refine br_dec (fun o2 => ?_) (fun o2 => ?_)
  · refine br_dec (fun h1 => ?_) (fun h1 => ?_)
    · exact ret _ _ hk1 (by rw [← hRES, if_pos (.inr ⟨o2, by omega⟩)])
    · refine ld (hN.cl rfl).cell ?_
      refine br_no (show ¬ n.op = 29 by omega) ?_
      exact ret _ _ hk1 (by rw [← hRES, if_neg (by omega), if_neg (by omega)])
  · refine ld (hN.cl rfl).cell ?_
    refine br_dec (fun o3 => ?_) (fun o3 => ?_)
    · refine ld (hN.cl rfl).cell ?_
      exact ret _ _ hk1 (by rw [← hRES, if_neg (by omega), if_pos o3])
    · exact ret _ _ hk1 (by rw [← hRES, if_neg (by omega), if_neg o3])

def CntPost (n : Nd) (w : World) (r : Ending) (w' : World) : Prop := ∃ c ok, r = .returned (.tuple #[.int .i64 c, .bool ok]) ∧ Kp [] w w' ∧ NdB n c ok
theorem cnt_post {n : Nd} {w w' : World} {c : Int} {ok : Bool} (hk : Kp [] w w') (e : ndB n = if ok then some c else none) : CntPost n w (.returned (one [.int .i64 c, .bool ok])) w' := ⟨c, ok, rfl, hk, ndB_of e rfl⟩
theorem cnt_no {n : Nd} {w w' : World} {c : Int} (hk : Kp [] w w') (e : ndB n = none) : CntPost n w (.returned (one [.int .i64 c, .bool false])) w' := cnt_post hk (by rw [e]; rfl)

theorem count15_ct (n : Nd) (nb : I64 n.b) (w : World) : CallOk Tryd.prog 104 ∧ Calls Tryd.prog 104 #[.agg #[.int .i64 n.op, .int .i64 n.a, .int .i64 n.b]] w (CntPost n w) := by
  refine ⟨⟨_, Tryd.func104, rfl, by decide⟩, ?_⟩
  refine calls_ev (args := [_]) 83 [.tmp 2, .tmp 3] Tryd.func104 rfl rfl rfl (Nat.le_of_ble_eq_true rfl) ?_
  refine ev_seq τok ?_
  refine new fun bn w1 hbn hN hsn hk1 => ?_
  have hN : Bk w1.heap bn [.int .i64 n.op, .int .i64 n.a, .int .i64 n.b] 47 := hN
  refine ev_mid τok (fun z : Bool => [(1, .pointer (some ⟨bn, 0, none⟩)), (4, .bool z)]) (fun z w' => z = n.zero ∧ w1 = w') ?_ ?_
  · refine ld (hN.cl rfl).cell ?_
    refine br_dec (fun ha => ?_) (fun ha => ?_)
    · refine ld (hN.cl rfl).cell ?_
      exact ⟨_, rfl, ⟨rfl, rfl, trivial⟩, by simp [Nd.zero, ha], rfl⟩
    · exact ⟨_, rfl, ⟨rfl, rfl, trivial⟩, by simp [Nd.zero, ha], rfl⟩
  rintro _ _ ⟨rfl, rfl⟩
  refine ev_of τok ?_
  refine ld (hN.cl rfl).cell ?_
  refine br_dec (fun o1 => ?_) (fun o1 => ?_)
  · refine drawQ τok (fun w' => Kp [] w1 w') (by kernel_rfl) ((Kp.refl [] w1).dr _) ?_
    refine ldK (hN.cl rfl) ?_
    refine callK (fun w' hk' => within15_ct _ _ _ w') ?_
    refine br (fun ht => ?_) (fun ht => ?_)
    · refine ldK (hN.cl rfl) ?_
      intro w2 hk2
      exact cnt_post (hk1.tr hk2) (by unfold ndB; rw [if_pos o1, ht, Bool.true_and])
    · intro w2 hk2
      exact cnt_no (hk1.tr hk2) (by unfold ndB; rw [if_pos o1, ht, Bool.false_and]; rfl)
  refine br_dec (fun o2 => ?_) (fun o2 => ?_)
  · exact cnt_post hk1 (by unfold ndB; rw [if_neg o1, if_pos o2])
  refine br_dec (fun o3 => ?_) (fun o3 => ?_)
  · exact cnt_post hk1 (by unfold ndB; rw [if_neg o1, if_neg o2, if_pos o3])
  refine br_dec (fun o4 => ?_) (fun o4 => ?_)
  · refine br_yes o4 ?_
    exact cnt_post hk1 (by unfold ndB; rw [if_neg o1, if_neg o2, if_neg o3, if_pos o4])
  refine br_dec (fun o5 => ?_) (fun o5 => ?_)
  · exact cnt_post hk1 (by unfold ndB; rw [if_neg o1, if_neg o2, if_neg o3, if_neg o4, if_pos o5])
  refine br_dec (fun o6 => ?_) (fun o6 => ?_)
  · refine drawQ τok (fun w' => Kp [] w1 w') (by kernel_rfl) ((Kp.refl [] w1).dr _) ?_
    refine ldK (hN.cl rfl) ?_
    refine callK (fun w' hk' => within15_ct _ _ _ w') ?_
    refine br (fun ht => ?_) (fun ht => ?_)
    · refine ldK (hN.cl rfl) ?_
      intro w2 hk2
      exact cnt_post (hk1.tr hk2) (by unfold ndB; rw [if_neg o1, if_neg o2, if_neg o3, if_neg o4, if_neg o5, if_pos o6, ht, Bool.true_and])
    · intro w2 hk2
      exact cnt_no (hk1.tr hk2) (by unfold ndB; rw [if_neg o1, if_neg o2, if_neg o3, if_neg o4, if_neg o5, if_pos o6, ht, Bool.false_and]; rfl)
  refine br_dec (fun o7 => ?_) (fun o7 => ?_)
  · refine ld (hN.cl rfl).cell ?_
    refine ev_call (within15_ct _ _ _ w1) ?_
    rintro e w2 ⟨rfl, hk2⟩
    refine br (fun ht => ?_) (fun ht => ?_)
    · refine ld ((hN.kp hk2 (by simp)).cl rfl).cell ?_
      refine ev_call (within15_ct _ _ _ w2) ?_
      rintro e w3 ⟨rfl, hk3⟩
      exact cnt_post ((hk1.tr hk2).tr hk3) (by unfold ndB; rw [if_neg o1, if_neg o2, if_neg o3, if_neg o4, if_neg o5, if_neg o6, if_pos o7, ht, Bool.true_and])
    · exact cnt_no (hk1.tr hk2) (by unfold ndB; rw [if_neg o1, if_neg o2, if_neg o3, if_neg o4, if_neg o5, if_neg o6, if_pos o7, ht, Bool.false_and]; rfl)
  refine br_dec (fun o8 => ?_) (fun o8 => ?_)
  · refine drawQ τok (fun w' => Kp [] w1 w') (by kernel_rfl) ((Kp.refl [] w1).dr _) ?_
    refine ldK (hN.cl rfl) ?_
    obtain ⟨z, hz⟩ : ∃ z, IntKind.wrap .i64 (1 + n.b) = z := ⟨_, rfl⟩
    refine intv z hz ?_
    refine ldK (hN.cl rfl) ?_
    refine callK (fun w' hk' => within15_ct _ _ _ w') ?_
    refine br (fun ht => ?_) (fun ht => ?_)
    · refine ldK (hN.cl rfl) ?_
      refine callK (fun w' hk' => within15_ct _ _ _ w') ?_
      intro w2 hk2
      by_cases hb : inM n.b 0 16 = true
      · have hb' : 0 ≤ n.b ∧ n.b ≤ 16 := by simpa [inM] using hb
        have hz' : z = 1 + n.b := by rw [← hz]; exact IntWalk.i64_in _ (by omega)
        subst hz'
        exact cnt_post (hk1.tr hk2) (by unfold ndB; rw [if_neg o1, if_neg o2, if_neg o3, if_neg o4, if_neg o5, if_neg o6, if_neg o7, if_pos o8, ht, Bool.true_and])
      · have hb : inM n.b 0 16 = false := by simpa using hb
        rw [hb]
        exact cnt_no (hk1.tr hk2) (by unfold ndB; rw [if_neg o1, if_neg o2, if_neg o3, if_neg o4, if_neg o5, if_neg o6, if_neg o7, if_pos o8, hb, Bool.and_false]; rfl)
    · intro w2 hk2
      exact cnt_no (hk1.tr hk2) (by unfold ndB; rw [if_neg o1, if_neg o2, if_neg o3, if_neg o4, if_neg o5, if_neg o6, if_neg o7, if_pos o8, ht, Bool.false_and]; rfl)
  refine br_dec (fun o9 => ?_) (fun o9 => ?_)
  · refine drawQ τok (fun w' => Kp [] w1 w') (by kernel_rfl) ((Kp.refl [] w1).dr _) ?_
    refine ldK (hN.cl rfl) ?_
    refine ldK (hN.cl rfl) ?_
    refine callK (fun w' hk' => within15_ct _ _ _ w') ?_
    refine br (fun ht => ?_) (fun ht => ?_)
    · have hin : 1 ≤ n.b ∧ n.b ≤ 4 := by simpa [inM] using ht
      refine ldK (hN.cl rfl) ?_
      refine ldK (hN.cl rfl) ?_
      refine int64 (by omega) (by omega) ?_
      refine callK (fun w' hk' => within15_ct _ _ _ w') ?_
      intro w2 hk2
      exact cnt_post (hk1.tr hk2) (by unfold ndB; rw [if_neg o1, if_neg o2, if_neg o3, if_neg o4, if_neg o5, if_neg o6, if_neg o7, if_neg o8, if_pos o9, ht, Bool.true_and])
    · intro w2 hk2
      exact cnt_no (hk1.tr hk2) (by unfold ndB; rw [if_neg o1, if_neg o2, if_neg o3, if_neg o4, if_neg o5, if_neg o6, if_neg o7, if_neg o8, if_pos o9, ht, Bool.false_and]; rfl)
  exact cnt_no hk1 (by unfold ndB; rw [if_neg o1, if_neg o2, if_neg o3, if_neg o4, if_neg o5, if_neg o6, if_neg o7, if_neg o8, if_neg o9])

def treeZ : List Value := [.int .i64 0, .int .i64 0, .int .i64 0, .slice none 0 0]
def ReadPost (o : Option (Tr × List Nd)) (w : World) (e : Ending) (w' : World) : Prop :=
  Kp [] w w' ∧ match o with
    | some (x, _) => ∃ cs, e = .returned (.tuple #[.agg cs.toArray, .int .i64 (row x).length, .bool true]) ∧ rTr.den (New w.heap.size w') cs x
    | none => e = .returned (.tuple #[.agg treeZ.toArray, .int .i64 0, .bool false])
end Go.Proofs.YtjpdkcejkogciaaDoor

/-
  Reference of layer 15: Read, Shape, Of.
-/
set_option linter.unusedSimpArgs false
set_option linter.unusedVariables false
namespace Cd
theorem kidsL_cons {σ : Type} (p : σ → List Nd → Option (Tr × List Nd)) (g : Nat → σ) (k c : Nat) (r : List Nd) : kidsL p g k (c + 1) r = match p (g k) r with
    | none => none
    | some (x, r') => (kidsL p g (k + 1) c r').map fun q => (x :: q.1, q.2) := by
  simp only [kidsL]
  cases h : p (g k) r with
  | none => rfl
  | some q =>
    obtain ⟨x, r'⟩ := q
    simp only
    cases h' : kidsL p g (k + 1) c r' with
    | none => rfl
    | some q' => rfl
end Cd
namespace Go.Proofs.YtjpdkcejkogciaaDoor
open Go.Wx Cd

theorem read15_ct {C : Mem} : ∀ (f : Nat) (ta : Option Addr) (t : List Nd) (tc : Nat) (w : World), Sub C w → Sl rNd C ta t → t.length ≤ tc → t.length ≤ f →
    CallOk Tryd.prog 93 ∧ Calls Tryd.prog 93 #[.slice ta t.length tc] w (ReadPost (parse cntB nxB f () t) w) := by
  intro f
  induction f with
  | zero =>
    intro ta t tc w hS ht htc hf
    have h0 : t = [] := List.length_eq_zero_iff.1 (by omega)
    subst h0
    refine ⟨⟨_, Tryd.func93, rfl, by decide⟩, ?_⟩
    refine calls_of (args := [_]) 58 [.cell 2 127, .tmp 3, .tmp 4] τok Tryd.func93 rfl rfl rfl (Nat.le_of_ble_eq_true rfl) ?_
    refine new fun b2 w1 hb2 hB2 hs1 hk1 => ?_
    refine stN hB2 rfl (by simp [Value.oneCell', zc]) fun w2 hB2' hs2 hk2 => ?_
    have hk02 : Kp [] w w2 := hk1.newSt hb2 hk2
    refine resN τok rfl treeZ rfl (fun j v hj => hB2'.cl hj) ?_
    exact ⟨hk02, rfl⟩
  | succ f ih =>
    intro ta t tc w hS ht htc hf
    have hl := ht.1
    obtain ⟨PR, hPR⟩ : ∃ r, parse cntB nxB (f + 1) () t = r := ⟨_, rfl⟩
    rw [hPR]
    refine ⟨⟨_, Tryd.func93, rfl, by decide⟩, ?_⟩
    refine calls_of (args := [_]) 58 [.cell 2 127, .tmp 3, .tmp 4] τok Tryd.func93 rfl rfl rfl (Nat.le_of_ble_eq_true rfl) ?_
    refine new fun b2 w1 hb2 hB2 hs1 hk1 => ?_
    have hB2 : Bk w1.heap b2 treeZ 127 := hB2
    refine br_dec (fun g0 => ?_) (fun g0 => ?_)
    · have h0 : t = [] := List.length_eq_zero_iff.1 (by omega)
      subst h0
      have : PR = none := by rw [← hPR]; rfl
      subst this
      refine stN hB2 rfl (by simp [Value.oneCell', zc]) fun w2 hB2' hs2 hk2 => ?_
      have hk02 : Kp [] w w2 := hk1.newSt hb2 hk2
      refine resN τok rfl treeZ rfl (fun j v hj => hB2'.cl hj) ?_
      exact ⟨hk02, rfl⟩
    have hlt : 0 < t.length := by omega
    obtain ⟨n, hn, hd⟩ := drop_get hlt
    rw [List.drop_zero] at hd
    obtain ⟨b, o, rfl, i1, i2, i3, hcells⟩ := sl_nd ht hn
    rw [hd] at hPR
    simp only [parse] at hPR
    have hS1 := hS.tr hk1
    refine ix 0 rfl hlt ?_
    refine ldN [.int .i64 n.op, .int .i64 n.a, .int .i64 n.b] rfl (fun j v hj => hS1 _ _ _ (hcells j v hj)) ?_
    refine ev_call (count15_ct n i3 w1) ?_
    rintro e w2 ⟨c, ok, rfl, hk2, hnd⟩
    have hk02 := hk1.tr hk2
    have hB2 := hB2.kp hk2 (by simp)
    unfold NdB at hnd
    cases hq : ndB n with
    | none =>
      rw [hq] at hnd
      subst hnd
      have : PR = none := by rw [← hPR]; simp only [cntB, hq, Option.map_none]
      subst this
      refine stN hB2 rfl (by simp [Value.oneCell', zc]) fun w3 hB3 hs3 hk3 => ?_
      have hk03 : Kp [] w w3 := hk02.trans hk3 (fun x hx hl => by simp at hx; omega)
      refine resN τok rfl treeZ rfl (fun j v hj => hB3.cl hj) ?_
      exact ⟨hk03, rfl⟩
    | some c' =>
      rw [hq] at hnd
      obtain ⟨rfl, rfl⟩ := hnd
      have hcb := ndB_bd hq
      obtain ⟨cn, hcn⟩ : ∃ cn : Nat, c = cn := ⟨c.toNat, by omega⟩
      subst hcn
      simp only [cntB, hq, Option.map_some, Int.toNat_natCast] at hPR
      have hS2 := hS1.tr hk2
      refine ix 0 rfl hlt ?_
      refine ldN [.int .i64 n.op, .int .i64 n.a, .int .i64 n.b] rfl (fun j v hj => hS2 _ _ _ (hcells j v hj)) ?_
      refine new fun b7 w3 hb7 hB7 hs3 hk3 => ?_
      refine stN hB7 rfl (by
        intro u hu
        change u ∈ [Value.int .i64 n.op, .int .i64 n.a, .int .i64 n.b, .slice none 0 0] at hu
        simp at hu
        rcases hu with rfl | rfl | rfl | rfl <;> rfl) fun w4 hB7 hs4 hk4 => ?_
      have hB7 : Bk w4.heap b7 [.int .i64 n.op, .int .i64 n.a, .int .i64 n.b, .slice none 0 0] 127 := hB7
      have hk24 : Kp [] w2 w4 := hk3.newSt hb7 hk4
      have hk04 := hk02.tr hk24
      have hB2 := hB2.kp hk24 (by simp)
      have hsz2 := hk2.size
      have hO : Own rTr 127 w4.heap.size w4 (.slice none 0 0) [] := Own.nil _ _ (Nat.le_refl _)
      obtain ⟨lo, hlo⟩ : ∃ lo, lo = w4.heap.size := ⟨_, rfl⟩
      rw [← hlo] at hO
      obtain ⟨K0, hK0⟩ : ∃ r, kidsL (parse cntB nxB f) (nxB () n) 0 cn (t.drop (0 + 1)) = r := ⟨_, rfl⟩
      rw [hK0] at hPR
      refine lp τok (σ := Nat × Nat × Value × List Tr) (fun q => [(0, .slice (some ⟨b, o, none⟩) t.length tc), (2, .pointer (some ⟨b2, 0, none⟩)), (5, .int .i64 cn), (7, .pointer (some ⟨b7, 0, none⟩)), (8, .int .i64 q.2.1), (9, .int .i64 q.1)])
        (fun q w' => q.1 ≤ cn ∧ q.2.1 ≤ t.length ∧ Kp [] w w' ∧ Bk w'.heap b2 treeZ 127 ∧ Bk w'.heap b7 [.int .i64 n.op, .int .i64 n.a, .int .i64 n.b, q.2.2.1] 127 ∧ Own rTr 127 lo w' q.2.2.1 q.2.2.2 ∧ q.2.2.2.length = q.1 ∧ 1 + (rows q.2.2.2).length = q.2.1 ∧
          K0 = (kidsL (parse cntB nxB f) (nxB () n) q.1 (cn - q.1) (t.drop q.2.1)).map fun z => (q.2.2.2 ++ z.1, z.2)) (fun q => cn - q.1) (0, 1, .slice none 0 0, []) rfl
        ⟨rfl, rfl, rfl, rfl, rfl, rfl, trivial⟩ ⟨Nat.zero_le _, hlt, hk04, hB2, hB7, hO, rfl, rfl, by rw [← hK0]; simp⟩ ?_
      clear hO hB7 hB2
      rintro ⟨j, a, v, dn⟩ w5 ⟨hj, ha, hk5, hB2, hB7, hO, hdl, hrl, hR⟩
      simp only at hj ha hB7 hO hdl hrl hR
      have hS5 := hS.tr hk5
      refine br_dec (fun g1 => ?_) (fun g1 => ?_)
      · have hjl : j < cn := by omega
        rw [show cn - j = (cn - (j + 1)) + 1 by omega, kidsL_cons] at hR
        obtain ⟨a', hsl, hSl⟩ := ht.from htc a ha
        refine slcL' τok rfl a _ rfl ha hsl ?_
        refine ev_call (ih a' (t.drop a) (tc - a) w5 hS5 hSl (by rw [List.length_drop]; omega) (by rw [List.length_drop]; omega)) ?_
        rintro e w6 ⟨hk6, hpost⟩
        have hk06 := hk5.tr hk6
        have e0 : nxB () n j = () := rfl
        rw [e0] at hR
        have hB26 := hB2.kp hk6 (by simp)
        cases hq' : parse cntB nxB f () (t.drop a) with
        | none =>
          rw [hq'] at hpost hR
          subst hpost
          have hK : K0 = none := hR
          have : PR = none := by rw [← hPR, hK]
          subst this
          refine new fun b10 w7 hb10 hB10 hs7 hk7 => ?_
          refine stN hB10 rfl (by simp [Value.oneCell', treeZ]) fun w8 hB10 hs8 hk8 => ?_
          have hk68 : Kp [] w6 w8 := hk7.newSt hb10 hk8
          have hB28 := hB26.kp hk68 (by simp)
          refine stN hB28 rfl (by simp [Value.oneCell', zc]) fun w9 hB9 hs9 hk9 => ?_
          have hk09 : Kp [] w w9 := (hk06.tr hk68).trans hk9 (fun x hx hl => by simp at hx; omega)
          refine resN τok rfl treeZ rfl (fun j v hj => hB9.cl hj) ?_
          exact ⟨hk09, rfl⟩
        | some q =>
          obtain ⟨y, r⟩ := q
          rw [hq'] at hpost hR
          obtain ⟨cs, rfl, hden⟩ := hpost
          obtain ⟨r1, r2, r3, r4⟩ := parse_at ha hq'
          obtain ⟨yn, yk⟩ := y
          obtain ⟨ya, yc, rfl, hyi, hys⟩ := rTr_den.1 hden
          refine new fun b10 w7 hb10 hB10 hs7 hk7 => ?_
          refine stN hB10 rfl (by simp [Value.oneCell']) fun w8 hB10 hs8 hk8 => ?_
          have hB10 : Bk w8.heap b10 [.int .i64 yn.op, .int .i64 yn.a, .int .i64 yn.b, .slice ya yk.length yc] 127 := hB10
          have hk68 : Kp [] w6 w8 := hk7.newSt hb10 hk8
          have hB78 := (hB7.kp hk6 (by simp)).kp hk68 (by simp)
          refine ld (hB78.cl rfl).cell ?_
          refine ldN [.int .i64 yn.op, .int .i64 yn.a, .int .i64 yn.b, .slice ya yk.length yc] rfl (fun j v hj => by rw [Nat.zero_add]; exact hB10.cl hj) ?_
          refine fill [.int .i64 yn.op, .int .i64 yn.a, .int .i64 yn.b, .slice ya yk.length yc] rfl ?_
          refine new fun b11 w9 hb11 hB11 hs9 hk9 => ?_
          have hk59 : Kp [] w5 w9 := (hk6.tr hk68).tr hk9
          have hO9 := hO.kp hk59
          have hden9 : rTr.den (Dn lo v w9) [.int .i64 yn.op, .int .i64 yn.a, .int .i64 yn.b, .slice ya yk.length yc] (.mk yn yk) := rTr.mono (new_dn hO (hk68.tr hk9)) hden
          refine hO9.ap1 τok rfl rfl (by decide) _ _ hden9 (fun j u hj => by rw [Nat.zero_add]; exact hB11.cl hj) (by rw [hdl]; omega) (by rw [hdl]; simp only [maxLen]; omega) fun v' w10 hO10 hk10 hown => ?_
          have hlow := hO.low
          have hb7lo : b7 < lo := by have := hB7.lt; have := hs4; have := hk3.size; omega
          have hb2lo : b2 < lo := by omega
          have hblk9 := hO9.block
          have hB710 : Bk w10.heap b7 [.int .i64 n.op, .int .i64 n.a, .int .i64 n.b, v] 127 := (hB78.kp hk9 (by simp)).kp hk10 (fun h => by have := hblk9 b7 (by simpa using h); omega)
          have hB210 := (hB26.kp (hk68.tr hk9) (by simp)).kp hk10 (fun h => by have := hblk9 b2 (by simpa using h); omega)
          refine st hB710 (by simp) (by
            obtain ⟨a0, c0, e0⟩ := hO10.len
            rw [e0]
            rfl) fun w11 hB711 hs11 hk11 => ?_
          have hB711 : Bk w11.heap b7 [.int .i64 n.op, .int .i64 n.a, .int .i64 n.b, v'] 127 := hB711
          have hwl : w.heap.size ≤ lo := by have := hk04.size; omega
          have hwb : w.heap.size ≤ b7 := by have := hk02.size; omega
          have hk010 : Kp [] w w10 := (hk5.tr hk59).trans hk10 (fun x hx hl => by have := hblk9 x (by simpa using hx); omega)
          have hk011 : Kp [] w w11 := hk010.trans hk11 (fun x hx hl => by simp at hx; omega)
          refine int64 (by (try simp only); omega) (by (try simp only); omega) ?_
          refine int64 (by (try simp only); omega) (by (try simp only); omega) ?_
          refine ⟨(j + 1, t.length - r.length, v', dn ++ [.mk yn yk]), by simp only; omega, rfl, ⟨rfl, rfl, rfl, rfl, ?_, rfl, trivial⟩, hjl, by simp only; omega, hk011, hB210.kp hk11 (by simp; omega), hB711, hO10.kpl hk11 (by simpa using hb7lo), by simp [hdl], ?_, ?_⟩
          · show some (Value.int .i64 _) = some (.int .i64 _)
            simp only
            congr 2
            omega
          · simp only [rows_app, List.length_append, rows, List.append_nil]
            omega
          · rw [hR]
            simp only
            rw [← r1]
            cases kidsL (parse cntB nxB f) (nxB () n) (j + 1) (cn - (j + 1)) r with
            | none => rfl
            | some z => simp
      · have hjn : j = cn := by omega
        subst hjn
        rw [Nat.sub_self] at hR
        simp only [kidsL, Option.map_some, List.append_nil] at hR
        have hP : PR = some (.mk n dn, t.drop a) := by rw [← hPR, hR]
        subst hP
        obtain ⟨va, vc, rfl, hden⟩ := hO.den (by omega)
        refine ldN [.int .i64 n.op, .int .i64 n.a, .int .i64 n.b, .slice va dn.length vc] rfl (fun j v hj => by rw [Nat.zero_add]; exact hB7.cl hj) ?_
        refine stN hB2 rfl (by simp [Value.oneCell']) fun w6 hB6 hs6 hk6 => ?_
        have hk06 : Kp [] w w6 := hk5.trans hk6 (fun x hx hl => by simp at hx; omega)
        refine resN τok rfl [.int .i64 n.op, .int .i64 n.a, .int .i64 n.b, .slice va dn.length vc] rfl (fun j v hj => hB6.cl hj) ?_
        refine ⟨hk06, _, ?_, rTr_den.2 ⟨va, vc, rfl, ⟨i1, i2, i3⟩, hden.mono fun b o u hu => ⟨by have := hu.1; omega, hu.2.kp hk6 (by have := hu.1; simp; omega)⟩⟩⟩
        rw [show (row (Tr.mk n dn)).length = a by simp only [row, List.length_cons]; omega]
        rfl
end Go.Proofs.YtjpdkcejkogciaaDoor

/-
  Reference of layer 15: Shape, Of, Greatest.
-/
set_option linter.unusedSimpArgs false
set_option linter.unusedVariables false
namespace Cd
open Go.Wx
mutual
def greatT : Tr → Int → Int
  | .mk n ks, u => if n.op = 21 then max (n.a - u) (-1) else greatL ks n u 0 (-1)
def greatL : List Tr → Nd → Int → Nat → Int → Int
  | [], _, _, _, m => m
  | x :: r, n, u, k, m => greatL r n u (k + 1) (max m (greatT x (u + bndB n k)))
end
mutual
theorem greatT_iff : ∀ (x : Tr) (u : Int), okT cntB nxB x () → (greatT x u < 0 ↔ allT (freeB 0) x u = true)
  | .mk n ks, u, ⟨h1, h2⟩ => by
    simp only [greatT, allT]
    by_cases o : n.op = 21
    · rw [if_pos o]
      have hnd := ndB_of_ok h1
      have : ks = [] := by
        unfold ndB at hnd
        simp [o] at hnd
        exact List.length_eq_zero_iff.1 (by omega)
      subst this
      simp only [allL, Bool.and_true, freeB, o, ne_eq, not_true_eq_false, decide_false, Bool.false_or, decide_eq_true_eq]
      omega
    · rw [if_neg o, greatL_iff ks n u 0 (-1) h2]
      simp [freeB, o]
theorem greatL_iff : ∀ (l : List Tr) (n : Nd) (u : Int) (k : Nat) (m : Int), okL cntB nxB l n () k → (greatL l n u k m < 0 ↔ m < 0 ∧ allL (freeB 0) l n u k = true)
  | [], n, u, k, m, _ => by simp [greatL, allL]
  | x :: r, n, u, k, m, ⟨h1, h2⟩ => by
    simp only [greatL, allL, Bool.and_eq_true]
    rw [greatL_iff r n u (k + 1) _ h2, ← greatT_iff x (u + bndB n k) h1]
    constructor
    · rintro ⟨h3, h4⟩
      exact ⟨by omega, by omega, h4⟩
    · rintro ⟨h3, h4, h5⟩
      exact ⟨by omega, h5⟩
end
/-! where the greatest may lie -/
mutual
theorem greatT_bd : ∀ (x : Tr) (u : Int), okT cntB nxB x () → 0 ≤ u → -1 ≤ greatT x u ∧ greatT x u ≤ 1048576
  | .mk n ks, u, ⟨h1, h2⟩, hu => by
    simp only [greatT]
    have hnd := ndB_of_ok h1
    by_cases o : n.op = 21
    · rw [if_pos o]
      have : n.a ≤ 1048576 := by
        unfold ndB at hnd
        simp [o, inM] at hnd
        omega
      omega
    · rw [if_neg o]
      exact greatL_bd ks n u 0 (-1) h2 hu (fun k => (bndB_bd hnd k).1) (by omega) (by omega)
theorem greatL_bd : ∀ (l : List Tr) (n : Nd) (u : Int) (k : Nat) (m : Int), okL cntB nxB l n () k → 0 ≤ u → (∀ k, 0 ≤ bndB n k) → -1 ≤ m → m ≤ 1048576 → -1 ≤ greatL l n u k m ∧ greatL l n u k m ≤ 1048576
  | [], n, u, k, m, _, _, _, h3, h4 => ⟨h3, h4⟩
  | x :: r, n, u, k, m, ⟨h1, h2⟩, hu, hb, h3, h4 => by
    simp only [greatL]
    have := greatT_bd x (u + bndB n k) h1 (by have := hb k; omega)
    exact greatL_bd r n u (k + 1) _ h2 hu hb (by omega) (by omega)
end
end Cd
namespace Go.Proofs.YtjpdkcejkogciaaDoor
open Go.Wx Cd

theorem shape15_ct {C : Mem} {w : World} (hS : Sub C w) {ta : Option Addr} {t : List Nd} {tc : Nat} (ht : Sl rNd C ta t) (htc : t.length ≤ tc) : CallOk Tryd.prog 92 ∧ Calls Tryd.prog 92 #[.slice ta t.length tc] w (fun e w' => e = .returned (.int .i64 (shapeB t)) ∧ Kp [] w w') := by
  obtain ⟨RES, hRES⟩ : ∃ r, shapeB t = r := ⟨_, rfl⟩
  rw [hRES]
  refine ⟨⟨_, Tryd.func92, rfl, by decide⟩, ?_⟩
  refine calls_of (args := [_]) 23 [.tmp 2] τok Tryd.func92 rfl rfl rfl (Nat.le_of_ble_eq_true rfl) ?_
  have ret : ∀ x w', Kp [] w w' → RES = x → Ending.returned (one [.int .i64 x]) = .returned (.int .i64 RES) ∧ Kp [] w w' := fun n w' h e => ⟨by rw [e]; rfl, h⟩
  unfold shapeB treeB treeOf at hRES
  refine br_dec (fun g1 => ?_) (fun g1 => ?_)
  · exact ret _ _ (Kp.refl _ _) (by rw [← hRES, if_pos (by omega)])
  rw [if_neg (by omega)] at hRES
  refine ev_call (read15_ct t.length ta t tc w hS ht htc (Nat.le_refl _)) ?_
  rintro e w1 ⟨hk1, hpost⟩
  cases hq : parse cntB nxB t.length () t with
  | none =>
    rw [hq] at hpost hRES
    subst hpost
    refine new fun b3 w2 hb3 hB3 hs2 hk2 => ?_
    refine stN hB3 rfl (by simp [Value.oneCell', treeZ]) fun w3 hB3 hs3 hk3 => ?_
    exact ret _ _ (hk1.tr (hk2.newSt hb3 hk3)) hRES.symm
  | some q =>
    obtain ⟨⟨yn, yk⟩, r⟩ := q
    rw [hq] at hpost hRES
    obtain ⟨cs, rfl, hden⟩ := hpost
    obtain ⟨ya, yc, rfl, hyi, hys⟩ := rTr_den.1 hden
    have hl := parse_len hq
    refine new fun b3 w2 hb3 hB3 hs2 hk2 => ?_
    refine stN hB3 rfl (by simp [Value.oneCell']) fun w3 hB3 hs3 hk3 => ?_
    have hk03 := hk1.tr (hk2.newSt hb3 hk3)
    refine br_dec (fun g2 => ?_) (fun g2 => ?_)
    · refine ret _ _ hk03 ?_
      rw [← hRES]
      cases r with
      | nil => exact absurd (by simp at hl; omega) g2
      | cons y r => rfl
    · refine ret _ _ hk03 ?_
      have g2 : ((row (Tr.mk yn yk)).length : Int) = t.length := by simpa using g2
      have : r = [] := List.length_eq_zero_iff.1 (by omega)
      subst this
      rw [← hRES]
      rfl

def OfPost (t : List Nd) (w : World) (e : Ending) (w' : World) : Prop :=
  Kp [] w w' ∧ match (if shapeB t = 0 then treeB t else none) with
    | some x => ∃ cs, e = .returned (.tuple #[.agg cs.toArray, .bool true]) ∧ rTr.den (New w.heap.size w') cs x
    | none => e = .returned (.tuple #[.agg treeZ.toArray, .bool false])
theorem of15_ct {C : Mem} {w : World} (hS : Sub C w) {ta : Option Addr} {t : List Nd} {tc : Nat} (ht : Sl rNd C ta t) (htc : t.length ≤ tc) : CallOk Tryd.prog 72 ∧ Calls Tryd.prog 72 #[.slice ta t.length tc] w (OfPost t w) := by
  obtain ⟨P, hP⟩ : ∃ r, (if shapeB t = 0 then treeB t else none) = r := ⟨_, rfl⟩
  unfold OfPost
  rw [hP]
  refine ⟨⟨_, Tryd.func72, rfl, by decide⟩, ?_⟩
  refine calls_of (args := [_]) 18 [.cell 2 127, .tmp 3] τok Tryd.func72 rfl rfl rfl (Nat.le_of_ble_eq_true rfl) ?_
  refine new fun b2 w1 hb2 hB2 hs1 hk1 => ?_
  have hB2 : Bk w1.heap b2 treeZ 127 := hB2
  have hS1 := hS.tr hk1
  refine ev_call (shape15_ct hS1 ht htc) ?_
  rintro e w2 ⟨rfl, hk2⟩
  have hk02 := hk1.tr hk2
  have hB2 := hB2.kp hk2 (by simp)
  refine br_dec (fun g1 => ?_) (fun g1 => ?_)
  · have g1 : ¬ shapeB t = 0 := g1
    rw [if_neg g1] at hP
    subst hP
    refine stN hB2 rfl (by simp [Value.oneCell', zc]) fun w3 hB3 hs3 hk3 => ?_
    have hk03 : Kp [] w w3 := hk02.trans hk3 (fun x hx hl => by simp at hx; omega)
    refine resN τok rfl treeZ rfl (fun j v hj => hB3.cl hj) ?_
    exact ⟨hk03, rfl⟩
  · have g1 : shapeB t = 0 := by simpa using g1
    rw [if_pos g1] at hP
    obtain ⟨hl, x, hx⟩ := shapeB_zero.1 g1
    rw [hx] at hP
    subst hP
    obtain ⟨hrow, hok⟩ := treeB_some hx
    refine ev_call (read15_ct t.length ta t tc w2 (hS1.tr hk2) ht htc (Nat.le_refl _)) ?_
    rintro e w3 ⟨hk3, hpost⟩
    have hpar := parse_of (cnt := cntB) (nx := nxB) x t.length () [] (by rw [hrow]; omega) hok
    rw [List.append_nil, ← hrow] at hpar
    rw [hpar] at hpost
    obtain ⟨cs, rfl, hden⟩ := hpost
    obtain ⟨yn, yk⟩ := x
    obtain ⟨ya, yc, rfl, hyi, hys⟩ := rTr_den.1 hden
    refine new fun b3 w4 hb3 hB3 hs4 hk4 => ?_
    refine stN hB3 rfl (by simp [Value.oneCell']) fun w5 hB5 hs5 hk5 => ?_
    have hk35 := hk4.newSt hb3 hk5
    have hk05 := (hk02.tr hk3).tr hk35
    have hB25 := (hB2.kp hk3 (by simp)).kp hk35 (by simp)
    refine ldN [.int .i64 yn.op, .int .i64 yn.a, .int .i64 yn.b, .slice ya yk.length yc] rfl (fun j v hj => by rw [Nat.zero_add]; exact hB5.cl hj) ?_
    refine stN hB25 rfl (by simp [Value.oneCell']) fun w6 hB6 hs6 hk6 => ?_
    have hk06 : Kp [] w w6 := hk05.trans hk6 (fun x hx hl => by simp at hx; omega)
    refine resN τok rfl [.int .i64 yn.op, .int .i64 yn.a, .int .i64 yn.b, .slice ya yk.length yc] rfl (fun j v hj => hB6.cl hj) ?_
    refine ⟨hk06, _, rfl, rTr.mono (fun b o u hu => ⟨by have := hk02.size; have := hu.1; omega, (hu.2.kp hk35 (by simp)).kp hk6 (by have := hk2.size; have := hu.1; simp; omega)⟩) hden⟩

theorem great15_ct {C : Mem} : ∀ (f : Nat) (x : Tr) (cs : List Value) (u : Int) (w : World), tsize x ≤ f → Sub C w → rTr.den C cs x → okT cntB nxB x () → 0 ≤ u → u + 4 * tsize x ≤ 1099511627776 →
    CallOk Tryd.prog 73 ∧ Calls Tryd.prog 73 #[.agg cs.toArray, .int .i64 u] w (fun e w' => e = .returned (.int .i64 (greatT x u)) ∧ Kp [] w w') := by
  intro f
  induction f with
  | zero => intro x cs u w hf; have := tsize_pos x; omega
  | succ f ih =>
    intro x cs u w hf hS hden hok hu hbd
    obtain ⟨n, ks⟩ := x
    obtain ⟨ya, yc, rfl, ⟨i1, i2, i3⟩, hys⟩ := rTr_den.1 hden
    obtain ⟨hcnt, hokl⟩ := hok
    have hnd := ndB_of_ok hcnt
    have hcb := ndB_bd hnd
    have hsz : tsize (.mk n ks) = 1 + tsizes ks := rfl
    obtain ⟨RES, hRES⟩ : ∃ r, greatT (.mk n ks) u = r := ⟨_, rfl⟩
    rw [hRES]
    simp only [greatT] at hRES
    refine ⟨⟨_, Tryd.func73, rfl, by decide⟩, ?_⟩
    refine calls_of (args := [_, _]) 39 [.tmp 4] τok Tryd.func73 rfl rfl rfl (Nat.le_of_ble_eq_true rfl) ?_
    refine new fun b2 w1 hb2 hB2 hs1 hk1 => ?_
    have hB2 : Bk w1.heap b2 [.int .i64 n.op, .int .i64 n.a, .int .i64 n.b, .slice ya ks.length yc] 127 := hB2
    have hS1 := hS.tr hk1
    refine ld (hB2.cl rfl).cell ?_
    refine br_dec (fun o => ?_) (fun o => ?_)
    · rw [if_pos o] at hRES
      refine ld (hB2.cl rfl).cell ?_
      have hna : 0 ≤ n.a ∧ n.a ≤ 1048576 := by
        unfold ndB at hnd
        simp [o, inM] at hnd
        omega
      refine int64 (by omega) (by omega) ?_
      refine max64 ?_
      exact ⟨by rw [← hRES]; rfl, hk1⟩
    rw [if_neg o] at hRES
    refine lp τok (σ := Nat × Int) (fun q => [(1, .int .i64 u), (2, .pointer (some ⟨b2, 0, none⟩)), (5, .int .i64 q.2), (6, .int .i64 q.1)])
      (fun q w' => q.1 ≤ ks.length ∧ Kp [] w1 w' ∧ okL cntB nxB (ks.drop q.1) n () q.1 ∧ RES = greatL (ks.drop q.1) n u q.1 q.2) (fun q => ks.length - q.1) (0, -1) rfl
      ⟨rfl, rfl, rfl, rfl, trivial⟩ ⟨Nat.zero_le _, Kp.refl _ _, hokl, hRES.symm⟩ ?_
    clear hRES
    rintro ⟨j, m⟩ w2 ⟨hj, hk2, hok', hR⟩
    simp only at hj hok' hR
    have hB22 := hB2.kp hk2 (by simp)
    have hS2 := hS1.tr hk2
    refine ld (hB22.cl rfl).cell ?_
    refine br_dec (fun g1 => ?_) (fun g1 => ?_)
    · have hjl : j < ks.length := by omega
      obtain ⟨y, hy, hdy⟩ := drop_get hjl
      rw [hdy] at hok' hR
      obtain ⟨hoky, hok'⟩ := hok'
      simp only [greatL] at hR
      have hys' := tsizes_get hy
      have hbb := bndB_bd hnd j
      obtain ⟨kb, ko, rfl, hkc⟩ := hys.at hjl
      obtain ⟨cs', hdy', hcc⟩ := hkc j y hy
      have hlen := rTr.len hdy'
      refine drawQ τok (fun w' => Kp [] w2 w') (by kernel_rfl) ((Kp.refl [] w2).dr _) ?_
      refine ldK (hB22.cl rfl) ?_
      refine ix j rfl hjl ?_
      refine ldNK cs' hlen (fun i v hi => hS2 _ _ _ (hcc i v hi)) ?_
      refine ldNK [.int .i64 n.op, .int .i64 n.a, .int .i64 n.b] rfl (fun i v hi => hB22.cl (by
        match i with
        | 0 => simpa using hi
        | 1 => simpa using hi
        | 2 => simpa using hi
        | i + 3 => simp at hi)) ?_
      refine callK (fun w' hk' => around15_ct n j w') ?_
      refine int64 (by omega) (by omega) ?_
      refine callK (fun w' hk' => ih y cs' (u + bndB n j) w' (by omega) (hS2.tr hk') hdy' (by simpa [nxB] using hoky) (by omega) (by omega)) ?_
      refine max64Q ?_
      intro w3 hk3
      refine int64 (by (try simp only); omega) (by (try simp only); omega) ?_
      exact ⟨(j + 1, max m (greatT y (u + bndB n j))), by simp only; omega, rfl, ⟨rfl, rfl, rfl, rfl, trivial⟩, hjl, hk2.tr hk3, hok', hR⟩
    · have hjn : j = ks.length := by omega
      subst hjn
      rw [List.drop_length] at hR
      have hR : RES = m := hR
      subst hR
      exact ⟨rfl, hk1.tr hk2⟩
end Go.Proofs.YtjpdkcejkogciaaDoor

/-
  Reference of layer 15: names, There.
-/
set_option linter.unusedSimpArgs false
set_option linter.unusedVariables false
namespace Go.Proofs.YtjpdkcejkogciaaDoor
open Go.Wx Cd

theorem _root_.Go.Wx.ixE {a : Option Addr} {b o len sz : Nat} {i : Int} {k : Addr → Prop} (ha : a = some ⟨b, o, none⟩) (j : Nat) (hi : i = j) (h1 : j < len) (hk : k ⟨b, o + j * sz, none⟩) : EvIx a len sz i k := by
  subst ha
  exact ix j hi h1 hk

set_option maxHeartbeats 1000000 in
theorem names15_ct {C : Mem} {cs : List Value} {p : Brd} (hp : rBrd.den C cs p) (hbs : p.bodies.length = p.shapes.length) (known : Nat) (hkn : known ≤ p.bodies.length) : ∀ (f : Nat) (x : Tr) (ts : List Value) (w : World), tsize x ≤ f → Sub C w → rTr.den C ts x → okT cntB nxB x () →
    CallOk Tryd.prog 74 ∧ Calls Tryd.prog 74 #[.agg cs.toArray, .int .i64 known, .agg ts.toArray] w (fun e w' => e = .returned (.bool ((row x).all (nameB p known))) ∧ Kp [] w w') := by
  intro f
  induction f with
  | zero => intro x ts w hf; have := tsize_pos x; omega
  | succ f ih =>
    intro x ts w hf hS hden hok
    have hp0 := hp
    obtain ⟨a1, c1, a2, c2, a3, c3, a4, c4, rfl, h1, h2, h3, h4, h5, h6, h7⟩ := hp
    obtain ⟨n, ks⟩ := x
    obtain ⟨ya, yc, rfl, ⟨i1, i2, i3⟩, hys⟩ := rTr_den.1 hden
    obtain ⟨hcnt, hokl⟩ := hok
    have hnd := ndB_of_ok hcnt
    have hcb := ndB_bd hnd
    have hsz : tsize (.mk n ks) = 1 + tsizes ks := rfl
    have hbl := h1.1
    obtain ⟨RES, hRES⟩ : ∃ r, (row (.mk n ks)).all (nameB p known) = r := ⟨_, rfl⟩
    rw [hRES]
    simp only [row, List.all_cons] at hRES
    refine ⟨⟨_, Tryd.func74, rfl, by decide⟩, ?_⟩
    refine calls_of (args := [_, _, _]) 86 [.tmp 6] τok Tryd.func74 rfl rfl rfl (Nat.le_of_ble_eq_true rfl) ?_
    refine new fun b1 w1 hb1 hB1 hs1 hk1 => ?_
    have hB1 : Bk w1.heap b1 [.slice a1 p.bodies.length c1, .slice a2 p.shapes.length c2, .slice a3 p.main.length c3, .int .i64 p.nat, .slice a4 p.prims.length c4] 33 := hB1
    refine new fun b5 w2 hb5 hB5 hs2 hk2 => ?_
    have hB5 : Bk w2.heap b5 [.int .i64 n.op, .int .i64 n.a, .int .i64 n.b, .slice ya ks.length yc] 127 := hB5
    refine ldN [.int .i64 n.op, .int .i64 n.a, .int .i64 n.b] rfl (fun i v hi => hB5.cl (by
      match i with
      | 0 => simpa using hi
      | 1 => simpa using hi
      | 2 => simpa using hi
      | i + 3 => simp at hi)) ?_
    refine new fun bn w3 hbn hN hsn hk3 => ?_
    refine stN hN rfl (by simp [Value.oneCell']) fun w4 hN hs4 hk4 => ?_
    have hN : Bk w4.heap bn [.int .i64 n.op, .int .i64 n.a, .int .i64 n.b] 47 := hN
    have hk24 : Kp [] w2 w4 := hk3.newSt hbn hk4
    have hk14 := hk2.tr hk24
    have hk04 := hk1.tr hk14
    have hS4 := hS.tr hk04
    have hB1 := hB1.kp hk14 (by simp)
    have hB5 := hB5.kp hk24 (by simp)
    have no : ∀ w', Kp [] w w' → nameB p known n = false → Ending.returned (one [.bool false]) = .returned (.bool RES) ∧ Kp [] w w' := fun w' h e => by
      rw [e, Bool.false_and] at hRES
      exact ⟨by rw [← hRES]; rfl, h⟩
    have hget : (n.op = 26 ∨ n.op = 27 ∨ n.op = 28) → n.a < known → ∃ x b o, p.bodies[n.a.toNat]? = some x ∧ a1 = some ⟨b, o, none⟩ ∧ ∃ a' cap, C b (o + n.a.toNat * 1) (.slice a' x.length cap) := fun h hlt => by
      have hna := ndB_a hnd h
      obtain ⟨x, hx⟩ : ∃ x, p.bodies[n.a.toNat]? = some x := ⟨p.bodies[n.a.toNat]'(by omega), by simp⟩
      obtain ⟨b', o', hb', a', cap, hcell, _, _⟩ := h1.sk hx
      exact ⟨x, b', o', hx, hb', a', cap, hcell⟩
    refine ld (hN.cl rfl).cell ?_
    refine br_dec (fun o26 => ?_) (fun o26 => ?_)
    · have hna := ndB_a hnd (.inl o26)
      refine ld (hN.cl rfl).cell ?_
      refine br_dec (fun q1 => ?_) (fun q1 => ?_)
      · refine no _ hk04 ?_
        unfold nameB
        simp [o26, show ¬ n.a < known by omega]
      obtain ⟨x, b', o', hx, ha1, a', cap, hcell⟩ := hget (.inl o26) (by omega)
      refine ld (hB1.cl rfl).cell ?_
      refine ld (hN.cl rfl).cell ?_
      refine ixE ha1 n.a.toNat (by omega) (by have := get_lt hx; omega) ?_
      refine ldC hS4 hcell ?_
      refine br_dec (fun q2 => ?_) (fun q2 => ?_)
      · refine no _ hk04 ?_
        unfold nameB
        rw [hx]
        have : x = [] := List.length_eq_zero_iff.1 (by omega)
        simp [o26, this]
      have hnm : nameB p known n = true := by
        unfold nameB
        rw [hx]
        have : 0 < x.length := by omega
        simp [o26, show n.a < known by omega, this]
      rw [hnm, Bool.true_and] at hRES
      refine ld (hN.cl rfl).cell ?_
      refine br_no (show ¬ n.op = 27 by omega) ?_
      refine ld (hN.cl rfl).cell ?_
      refine br_no (show ¬ n.op = 28 by omega) ?_
      refine drawR τok (by kernel_rfl) ?_
      refine ldR (hN.cl rfl) ?_
      refine br_no (show ¬ n.op = 27 by omega) ?_
      intro m7
      obtain ⟨w5, hw5⟩ : ∃ w5 : World, w5 = { w4 with drawn := m7 } := ⟨_, rfl⟩
      have hk05 : Kp [] w w5 := by rw [hw5]; exact hk04.dr _
      have hB15 : Bk w5.heap b1 [.slice a1 p.bodies.length c1, .slice a2 p.shapes.length c2, .slice a3 p.main.length c3, .int .i64 p.nat, .slice a4 p.prims.length c4] 33 := by rw [hw5]; exact hB1
      have hB55 : Bk w5.heap b5 [.int .i64 n.op, .int .i64 n.a, .int .i64 n.b, .slice ya ks.length yc] 127 := by rw [hw5]; exact hB5
      rw [← hw5]
      refine lp τok (σ := Nat) (fun q => [(1, .int .i64 known), (3, .pointer (some ⟨b1, 0, none⟩)), (5, .pointer (some ⟨b5, 0, none⟩)), (8, .int .i64 q)])
        (fun q w' => q ≤ ks.length ∧ Kp [] w5 w' ∧ okL cntB nxB (ks.drop q) n () q ∧ RES = (rows (ks.drop q)).all (nameB p known)) (fun q => ks.length - q) 0 rfl
        ⟨rfl, rfl, rfl, rfl, trivial⟩ ⟨Nat.zero_le _, Kp.refl _ _, hokl, hRES.symm⟩ ?_
      rintro j w6 ⟨hj, hk6, hok', hR⟩
      have hB16 := hB15.kp hk6 (by simp)
      have hB56 := hB55.kp hk6 (by simp)
      have hS6 := hS.tr (hk05.tr hk6)
      refine ld (hB56.cl rfl).cell ?_
      refine br_dec (fun g1 => ?_) (fun g1 => ?_)
      · have hjl : j < ks.length := by omega
        obtain ⟨y, hy, hdy⟩ := drop_get hjl
        rw [hdy] at hok' hR
        obtain ⟨hoky, hok'⟩ := hok'
        simp only [rows, List.all_append] at hR
        have hys' := tsizes_get hy
        obtain ⟨kb, ko, hya, hkc⟩ := hys.at hjl
        obtain ⟨cs', hdy', hcc⟩ := hkc j y hy
        have hlen := rTr.len hdy'
        refine drawQ τok (fun w' => Kp [] w6 w') (by kernel_rfl) ((Kp.refl [] w6).dr _) ?_
        refine ldNK [.slice a1 p.bodies.length c1, .slice a2 p.shapes.length c2, .slice a3 p.main.length c3, .int .i64 p.nat, .slice a4 p.prims.length c4] rfl (fun j v hj => by rw [Nat.zero_add]; exact hB16.cl hj) ?_
        refine ldK (hB56.cl rfl) ?_
        refine ixE hya j rfl hjl ?_
        refine ldNK cs' hlen (fun i v hi => hS6 _ _ _ (hcc i v hi)) ?_
        refine callK (fun w' hk' => ih y cs' w' (by omega) (hS6.tr hk') hdy' (by simpa [nxB] using hoky)) ?_
        intro w7 hk7
        have hk07 := (hk05.tr hk6).tr hk7
        refine br (fun g3 => ?_) (fun g3 => ?_)
        · have g3 : (row y).all (nameB p known) = false := by simpa using g3
          rw [g3, Bool.false_and] at hR
          exact ⟨by rw [hR]; rfl, hk07⟩
        · have g3 : (row y).all (nameB p known) = true := by simpa using g3
          rw [g3, Bool.true_and] at hR
          refine int64 (by (try simp only); omega) (by (try simp only); omega) ?_
          exact ⟨j + 1, by omega, rfl, ⟨rfl, rfl, rfl, rfl, trivial⟩, hjl, hk6.tr hk7, hok', hR⟩
      · rw [List.drop_eq_nil_of_le (by omega)] at hR
        have hR : RES = true := hR
        exact ⟨by rw [hR]; rfl, hk05.tr hk6⟩
    refine ld (hN.cl rfl).cell ?_
    refine br_dec (fun o27 => ?_) (fun o27 => ?_)
    · have hna := ndB_a hnd (.inr (.inl o27))
      refine ld (hN.cl rfl).cell ?_
      refine br_dec (fun q1 => ?_) (fun q1 => ?_)
      · refine no _ hk04 ?_
        unfold nameB
        simp [o27, show ¬ n.a < known by omega]
      obtain ⟨x, b', o', hx, ha1, a', cap, hcell⟩ := hget (.inr (.inl o27)) (by omega)
      refine ld (hB1.cl rfl).cell ?_
      refine ld (hN.cl rfl).cell ?_
      refine ixE ha1 n.a.toNat (by omega) (by have := get_lt hx; omega) ?_
      refine ldC hS4 hcell ?_
      refine br_dec (fun q2 => ?_) (fun q2 => ?_)
      · refine no _ hk04 ?_
        unfold nameB
        rw [hx]
        have : ¬ x.length = 0 := by omega
        simp only [o27, Option.getD_some, decide_eq_false this]
        simp
      have hx0 : x = [] := List.length_eq_zero_iff.1 (by omega)
      obtain ⟨s, hsx⟩ : ∃ x, p.shapes[n.a.toNat]? = some x := ⟨p.shapes[n.a.toNat]'(by omega), by simp⟩
      obtain ⟨b6, o6, hb6, ak, ck, hkept, _, hcp, hck⟩ := sl_shp h2 hsx
      refine drawR τok (by kernel_rfl) ?_
      refine ldR (hN.cl rfl) ?_
      refine br_yes o27 ?_
      refine ldR (hN.cl rfl) ?_
      refine ldR (hB1.cl rfl) ?_
      refine ldR (hN.cl rfl) ?_
      refine ixE hb6 n.a.toNat (by omega) (by omega) ?_
      refine ldR (hS4 _ _ _ hck) ?_
      intro m7
      refine br_dec (fun q3 => ?_) (fun q3 => ?_)
      · refine no _ (hk04.dr _) ?_
        unfold nameB
        rw [hx, hsx]
        simp [o27, show ¬ n.b < (s.kept.length : Int) by omega]
      have hnm : nameB p known n = true := by
        unfold nameB
        rw [hx, hsx, hx0]
        simp [o27, show n.a < known by omega, show n.b < (s.kept.length : Int) by omega]
      rw [hnm, Bool.true_and] at hRES
      obtain ⟨w5, hw5⟩ : ∃ w5 : World, w5 = { w4 with drawn := m7 } := ⟨_, rfl⟩
      have hk05 : Kp [] w w5 := by rw [hw5]; exact hk04.dr _
      have hB15 : Bk w5.heap b1 [.slice a1 p.bodies.length c1, .slice a2 p.shapes.length c2, .slice a3 p.main.length c3, .int .i64 p.nat, .slice a4 p.prims.length c4] 33 := by rw [hw5]; exact hB1
      have hB55 : Bk w5.heap b5 [.int .i64 n.op, .int .i64 n.a, .int .i64 n.b, .slice ya ks.length yc] 127 := by rw [hw5]; exact hB5
      rw [← hw5]
      refine lp τok (σ := Nat) (fun q => [(1, .int .i64 known), (3, .pointer (some ⟨b1, 0, none⟩)), (5, .pointer (some ⟨b5, 0, none⟩)), (8, .int .i64 q)])
        (fun q w' => q ≤ ks.length ∧ Kp [] w5 w' ∧ okL cntB nxB (ks.drop q) n () q ∧ RES = (rows (ks.drop q)).all (nameB p known)) (fun q => ks.length - q) 0 rfl
        ⟨rfl, rfl, rfl, rfl, trivial⟩ ⟨Nat.zero_le _, Kp.refl _ _, hokl, hRES.symm⟩ ?_
      rintro j w6 ⟨hj, hk6, hok', hR⟩
      have hB16 := hB15.kp hk6 (by simp)
      have hB56 := hB55.kp hk6 (by simp)
      have hS6 := hS.tr (hk05.tr hk6)
      refine ld (hB56.cl rfl).cell ?_
      refine br_dec (fun g1 => ?_) (fun g1 => ?_)
      · have hjl : j < ks.length := by omega
        obtain ⟨y, hy, hdy⟩ := drop_get hjl
        rw [hdy] at hok' hR
        obtain ⟨hoky, hok'⟩ := hok'
        simp only [rows, List.all_append] at hR
        have hys' := tsizes_get hy
        obtain ⟨kb, ko, hya, hkc⟩ := hys.at hjl
        obtain ⟨cs', hdy', hcc⟩ := hkc j y hy
        have hlen := rTr.len hdy'
        refine drawQ τok (fun w' => Kp [] w6 w') (by kernel_rfl) ((Kp.refl [] w6).dr _) ?_
        refine ldNK [.slice a1 p.bodies.length c1, .slice a2 p.shapes.length c2, .slice a3 p.main.length c3, .int .i64 p.nat, .slice a4 p.prims.length c4] rfl (fun j v hj => by rw [Nat.zero_add]; exact hB16.cl hj) ?_
        refine ldK (hB56.cl rfl) ?_
        refine ixE hya j rfl hjl ?_
        refine ldNK cs' hlen (fun i v hi => hS6 _ _ _ (hcc i v hi)) ?_
        refine callK (fun w' hk' => ih y cs' w' (by omega) (hS6.tr hk') hdy' (by simpa [nxB] using hoky)) ?_
        intro w7 hk7
        have hk07 := (hk05.tr hk6).tr hk7
        refine br (fun g3 => ?_) (fun g3 => ?_)
        · have g3 : (row y).all (nameB p known) = false := by simpa using g3
          rw [g3, Bool.false_and] at hR
          exact ⟨by rw [hR]; rfl, hk07⟩
        · have g3 : (row y).all (nameB p known) = true := by simpa using g3
          rw [g3, Bool.true_and] at hR
          refine int64 (by (try simp only); omega) (by (try simp only); omega) ?_
          exact ⟨j + 1, by omega, rfl, ⟨rfl, rfl, rfl, rfl, trivial⟩, hjl, hk6.tr hk7, hok', hR⟩
      · rw [List.drop_eq_nil_of_le (by omega)] at hR
        have hR : RES = true := hR
        exact ⟨by rw [hR]; rfl, hk05.tr hk6⟩
    refine ld (hN.cl rfl).cell ?_
    refine br_dec (fun o28 => ?_) (fun o28 => ?_)
    · have hna := ndB_a hnd (.inr (.inr o28))
      refine ld (hN.cl rfl).cell ?_
      refine br_dec (fun q1 => ?_) (fun q1 => ?_)
      · refine no _ hk04 ?_
        unfold nameB
        simp [o28, show ¬ n.a < known by omega]
      obtain ⟨x, b', o', hx, ha1, a', cap, hcell⟩ := hget (.inr (.inr o28)) (by omega)
      refine ld (hB1.cl rfl).cell ?_
      refine ld (hN.cl rfl).cell ?_
      refine ixE ha1 n.a.toNat (by omega) (by have := get_lt hx; omega) ?_
      refine ldC hS4 hcell ?_
      refine br_dec (fun q2 => ?_) (fun q2 => ?_)
      · refine no _ hk04 ?_
        unfold nameB
        rw [hx]
        have : ¬ x.length = 0 := by omega
        simp only [o28, Option.getD_some, decide_eq_false this]
        simp
      have hx0 : x = [] := List.length_eq_zero_iff.1 (by omega)
      have hnm : nameB p known n = true := by
        unfold nameB
        rw [hx, hx0]
        simp [o28, show n.a < known by omega]
      rw [hnm, Bool.true_and] at hRES
      refine drawR τok (by kernel_rfl) ?_
      refine ldR (hN.cl rfl) ?_
      refine br_no (show ¬ n.op = 27 by omega) ?_
      intro m7
      obtain ⟨w5, hw5⟩ : ∃ w5 : World, w5 = { w4 with drawn := m7 } := ⟨_, rfl⟩
      have hk05 : Kp [] w w5 := by rw [hw5]; exact hk04.dr _
      have hB15 : Bk w5.heap b1 [.slice a1 p.bodies.length c1, .slice a2 p.shapes.length c2, .slice a3 p.main.length c3, .int .i64 p.nat, .slice a4 p.prims.length c4] 33 := by rw [hw5]; exact hB1
      have hB55 : Bk w5.heap b5 [.int .i64 n.op, .int .i64 n.a, .int .i64 n.b, .slice ya ks.length yc] 127 := by rw [hw5]; exact hB5
      rw [← hw5]
      refine lp τok (σ := Nat) (fun q => [(1, .int .i64 known), (3, .pointer (some ⟨b1, 0, none⟩)), (5, .pointer (some ⟨b5, 0, none⟩)), (8, .int .i64 q)])
        (fun q w' => q ≤ ks.length ∧ Kp [] w5 w' ∧ okL cntB nxB (ks.drop q) n () q ∧ RES = (rows (ks.drop q)).all (nameB p known)) (fun q => ks.length - q) 0 rfl
        ⟨rfl, rfl, rfl, rfl, trivial⟩ ⟨Nat.zero_le _, Kp.refl _ _, hokl, hRES.symm⟩ ?_
      rintro j w6 ⟨hj, hk6, hok', hR⟩
      have hB16 := hB15.kp hk6 (by simp)
      have hB56 := hB55.kp hk6 (by simp)
      have hS6 := hS.tr (hk05.tr hk6)
      refine ld (hB56.cl rfl).cell ?_
      refine br_dec (fun g1 => ?_) (fun g1 => ?_)
      · have hjl : j < ks.length := by omega
        obtain ⟨y, hy, hdy⟩ := drop_get hjl
        rw [hdy] at hok' hR
        obtain ⟨hoky, hok'⟩ := hok'
        simp only [rows, List.all_append] at hR
        have hys' := tsizes_get hy
        obtain ⟨kb, ko, hya, hkc⟩ := hys.at hjl
        obtain ⟨cs', hdy', hcc⟩ := hkc j y hy
        have hlen := rTr.len hdy'
        refine drawQ τok (fun w' => Kp [] w6 w') (by kernel_rfl) ((Kp.refl [] w6).dr _) ?_
        refine ldNK [.slice a1 p.bodies.length c1, .slice a2 p.shapes.length c2, .slice a3 p.main.length c3, .int .i64 p.nat, .slice a4 p.prims.length c4] rfl (fun j v hj => by rw [Nat.zero_add]; exact hB16.cl hj) ?_
        refine ldK (hB56.cl rfl) ?_
        refine ixE hya j rfl hjl ?_
        refine ldNK cs' hlen (fun i v hi => hS6 _ _ _ (hcc i v hi)) ?_
        refine callK (fun w' hk' => ih y cs' w' (by omega) (hS6.tr hk') hdy' (by simpa [nxB] using hoky)) ?_
        intro w7 hk7
        have hk07 := (hk05.tr hk6).tr hk7
        refine br (fun g3 => ?_) (fun g3 => ?_)
        · have g3 : (row y).all (nameB p known) = false := by simpa using g3
          rw [g3, Bool.false_and] at hR
          exact ⟨by rw [hR]; rfl, hk07⟩
        · have g3 : (row y).all (nameB p known) = true := by simpa using g3
          rw [g3, Bool.true_and] at hR
          refine int64 (by (try simp only); omega) (by (try simp only); omega) ?_
          exact ⟨j + 1, by omega, rfl, ⟨rfl, rfl, rfl, rfl, trivial⟩, hjl, hk6.tr hk7, hok', hR⟩
      · rw [List.drop_eq_nil_of_le (by omega)] at hR
        have hR : RES = true := hR
        exact ⟨by rw [hR]; rfl, hk05.tr hk6⟩
    · have hnm : nameB p known n = true := by unfold nameB; simp [o26, o27, o28]
      rw [hnm, Bool.true_and] at hRES
      refine drawR τok (by kernel_rfl) ?_
      refine ldR (hN.cl rfl) ?_
      refine br_no o27 ?_
      intro m7
      obtain ⟨w5, hw5⟩ : ∃ w5 : World, w5 = { w4 with drawn := m7 } := ⟨_, rfl⟩
      have hk05 : Kp [] w w5 := by rw [hw5]; exact hk04.dr _
      have hB15 : Bk w5.heap b1 [.slice a1 p.bodies.length c1, .slice a2 p.shapes.length c2, .slice a3 p.main.length c3, .int .i64 p.nat, .slice a4 p.prims.length c4] 33 := by rw [hw5]; exact hB1
      have hB55 : Bk w5.heap b5 [.int .i64 n.op, .int .i64 n.a, .int .i64 n.b, .slice ya ks.length yc] 127 := by rw [hw5]; exact hB5
      rw [← hw5]
      refine lp τok (σ := Nat) (fun q => [(1, .int .i64 known), (3, .pointer (some ⟨b1, 0, none⟩)), (5, .pointer (some ⟨b5, 0, none⟩)), (8, .int .i64 q)])
        (fun q w' => q ≤ ks.length ∧ Kp [] w5 w' ∧ okL cntB nxB (ks.drop q) n () q ∧ RES = (rows (ks.drop q)).all (nameB p known)) (fun q => ks.length - q) 0 rfl
        ⟨rfl, rfl, rfl, rfl, trivial⟩ ⟨Nat.zero_le _, Kp.refl _ _, hokl, hRES.symm⟩ ?_
      rintro j w6 ⟨hj, hk6, hok', hR⟩
      have hB16 := hB15.kp hk6 (by simp)
      have hB56 := hB55.kp hk6 (by simp)
      have hS6 := hS.tr (hk05.tr hk6)
      refine ld (hB56.cl rfl).cell ?_
      refine br_dec (fun g1 => ?_) (fun g1 => ?_)
      · have hjl : j < ks.length := by omega
        obtain ⟨y, hy, hdy⟩ := drop_get hjl
        rw [hdy] at hok' hR
        obtain ⟨hoky, hok'⟩ := hok'
        simp only [rows, List.all_append] at hR
        have hys' := tsizes_get hy
        obtain ⟨kb, ko, hya, hkc⟩ := hys.at hjl
        obtain ⟨cs', hdy', hcc⟩ := hkc j y hy
        have hlen := rTr.len hdy'
        refine drawQ τok (fun w' => Kp [] w6 w') (by kernel_rfl) ((Kp.refl [] w6).dr _) ?_
        refine ldNK [.slice a1 p.bodies.length c1, .slice a2 p.shapes.length c2, .slice a3 p.main.length c3, .int .i64 p.nat, .slice a4 p.prims.length c4] rfl (fun j v hj => by rw [Nat.zero_add]; exact hB16.cl hj) ?_
        refine ldK (hB56.cl rfl) ?_
        refine ixE hya j rfl hjl ?_
        refine ldNK cs' hlen (fun i v hi => hS6 _ _ _ (hcc i v hi)) ?_
        refine callK (fun w' hk' => ih y cs' w' (by omega) (hS6.tr hk') hdy' (by simpa [nxB] using hoky)) ?_
        intro w7 hk7
        have hk07 := (hk05.tr hk6).tr hk7
        refine br (fun g3 => ?_) (fun g3 => ?_)
        · have g3 : (row y).all (nameB p known) = false := by simpa using g3
          rw [g3, Bool.false_and] at hR
          exact ⟨by rw [hR]; rfl, hk07⟩
        · have g3 : (row y).all (nameB p known) = true := by simpa using g3
          rw [g3, Bool.true_and] at hR
          refine int64 (by (try simp only); omega) (by (try simp only); omega) ?_
          exact ⟨j + 1, by omega, rfl, ⟨rfl, rfl, rfl, rfl, trivial⟩, hjl, hk6.tr hk7, hok', hR⟩
      · rw [List.drop_eq_nil_of_le (by omega)] at hR
        have hR : RES = true := hR
        exact ⟨by rw [hR]; rfl, hk05.tr hk6⟩

theorem there15_ct {C : Mem} {w : World} (hS : Sub C w) {cs : List Value} {p : Brd} (hp : rBrd.den C cs p) (hbs : p.bodies.length = p.shapes.length) (known : Nat) (hkn : known ≤ p.bodies.length) {t : List Nd} {ta : Option Addr} {tc : Nat} (ht : Sl rNd C ta t) (htc : t.length ≤ tc) :
    CallOk Tryd.prog 50 ∧ Calls Tryd.prog 50 #[.agg cs.toArray, .int .i64 known, .slice ta t.length tc] w (fun e w' => e = .returned (.bool (thereB p known t)) ∧ Kp [] w w') := by
  have hp0 := hp
  obtain ⟨a1, c1, a2, c2, a3, c3, a4, c4, rfl, h1, h2, h3, h4, h5, h6, h7⟩ := hp
  obtain ⟨RES, hRES⟩ : ∃ r, thereB p known t = r := ⟨_, rfl⟩
  rw [hRES]
  refine ⟨⟨_, Tryd.func50, rfl, by decide⟩, ?_⟩
  refine calls_of (args := [_, _, _]) 26 [.tmp 6] τok Tryd.func50 rfl rfl rfl (Nat.le_of_ble_eq_true rfl) ?_
  refine new fun b1 w1 hb1 hB1 hs1 hk1 => ?_
  have hB1 : Bk w1.heap b1 [.slice a1 p.bodies.length c1, .slice a2 p.shapes.length c2, .slice a3 p.main.length c3, .int .i64 p.nat, .slice a4 p.prims.length c4] 33 := hB1
  have hS1 := hS.tr hk1
  rw [thereB_eq] at hRES
  unfold belowB at hRES
  refine ev_call (of15_ct hS1 ht htc) ?_
  rintro e w2 ⟨hk2, hpost⟩
  have hk12 := hk1.tr hk2
  cases hq : (if shapeB t = 0 then treeB t else none) with
  | none =>
    rw [hq] at hpost
    subst hpost
    refine new fun b7 w3 hb7 hB7 hs3 hk3 => ?_
    refine stN hB7 rfl (by simp [Value.oneCell', treeZ]) fun w4 hB4 hs4 hk4 => ?_
    have hk14 := hk12.tr (hk3.newSt hb7 hk4)
    have : RES = false := by
      rw [← hRES]
      by_cases hz : shapeB t = 0
      · rw [if_pos hz] at hq
        rw [hq]
        simp
      · rw [decide_eq_false hz]
        simp
    exact ⟨by rw [this]; rfl, hk14⟩
  | some x =>
    rw [hq] at hpost
    obtain ⟨cs', rfl, hden⟩ := hpost
    have hz : shapeB t = 0 := by
      by_cases hz : shapeB t = 0
      · exact hz
      · rw [if_neg hz] at hq; cases hq
    rw [if_pos hz] at hq
    obtain ⟨hrow, hok⟩ := treeB_some hq
    have hgi := greatT_iff x 0 hok
    have hgb := greatT_bd x 0 hok (by omega)
    rw [decide_eq_true hz, Bool.true_and, hq] at hRES
    have hRES : (allT (freeB 0) x 0 && t.all (nameB p known)) = RES := by simpa using hRES
    have hsz := row_len x
    have hl4 := (shapeB_zero.1 hz).1
    obtain ⟨yn, yk⟩ := x
    obtain ⟨ya, yc, rfl, hyi, hys⟩ := rTr_den.1 hden
    refine new fun b7 w3 hb7 hB7 hs3 hk3 => ?_
    refine stN hB7 rfl (by simp [Value.oneCell']) fun w4 hB4 hs4 hk4 => ?_
    have hk24 : Kp [] w2 w4 := hk3.newSt hb7 hk4
    have hk14 := hk12.tr hk24
    have hS2 : Sub (New w1.heap.size w2) w4 := (New.sub _ w2).tr hk24
    refine ldN [.int .i64 yn.op, .int .i64 yn.a, .int .i64 yn.b, .slice ya yk.length yc] rfl (fun j v hj => by rw [Nat.zero_add]; exact hB4.cl hj) ?_
    refine ev_call (great15_ct (tsize (.mk yn yk)) (.mk yn yk) _ 0 w4 (Nat.le_refl _) hS2 hden hok (by omega) (by rw [← hrow] at hsz; omega)) ?_
    rintro e w5 ⟨rfl, hk5⟩
    have hk15 := hk14.tr hk5
    refine br_dec (fun g1 => ?_) (fun g1 => ?_)
    · rw [hgi.1 g1, Bool.true_and] at hRES
      have hB5 := hB1.kp ((hk2.tr hk24).tr hk5) (by simp)
      have hB45 := hB4.kp hk5 (by simp)
      refine ldN [.slice a1 p.bodies.length c1, .slice a2 p.shapes.length c2, .slice a3 p.main.length c3, .int .i64 p.nat, .slice a4 p.prims.length c4] rfl (fun j v hj => by rw [Nat.zero_add]; exact hB5.cl hj) ?_
      refine ldN [.int .i64 yn.op, .int .i64 yn.a, .int .i64 yn.b, .slice ya yk.length yc] rfl (fun j v hj => by rw [Nat.zero_add]; exact hB45.cl hj) ?_
      have hO : Sub (orM C (New w1.heap.size w2)) w5 := orM_sub (hS1.tr ((hk2.tr hk24).tr hk5)) (hS2.tr hk5)
      refine ev_call (names15_ct (rBrd.mono (fun b o v h => Or.inl h) hp0) hbs known hkn (tsize (.mk yn yk)) (.mk yn yk) _ w5 (Nat.le_refl _) hO (rTr.mono (fun b o v h => Or.inr h) hden) hok) ?_
      rintro e w6 ⟨rfl, hk6⟩
      refine ⟨?_, hk15.tr hk6⟩
      rw [← hRES, hrow]
      rfl
    · have : allT (freeB 0) (.mk yn yk) 0 = false := by
        cases h : allT (freeB 0) (.mk yn yk) 0 with
        | false => rfl
        | true => exact absurd (hgi.2 h) g1
      rw [this, Bool.false_and] at hRES
      exact ⟨by rw [← hRES]; rfl, hk15⟩
end Go.Proofs.YtjpdkcejkogciaaDoor

