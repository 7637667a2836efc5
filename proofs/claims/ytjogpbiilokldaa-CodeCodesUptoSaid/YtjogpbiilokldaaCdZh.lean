/-
  Code: the reference's Block.
-/
import Derived.Test.YtjogpbiilokldaaCdZg
set_option linter.unusedSimpArgs false
set_option linter.unusedVariables false
namespace Go.Wx
def RowB (h : Array Obj) (b : Nat) (l : List Bool) (T : TypeId) : Prop := Bk h b (l.map Value.bool) T
theorem RowB.cl {h : Array Obj} {b : Nat} {l : List Bool} {T : TypeId} (hb : RowB h b l T) {k : Nat} (hk : k < l.length) : Cl h b (0 + k * 1) (.bool (l.getD k false)) := Bk.cl hb (by simp [hk])
theorem RowB.kp {X : List Nat} {w w' : World} {b : Nat} {l : List Bool} {T : TypeId} (hb : RowB w.heap b l T) (h : Kp X w w') (hx : b ∉ X) : RowB w'.heap b l T := Bk.kp hb h hx
theorem stB {w : World} {b k : Nat} {x : Bool} {K : World → Prop} {l : List Bool} {T : TypeId} (hb : RowB w.heap b l T) (hk : k < l.length)
    (h : ∀ w', RowB w'.heap b (l.set k x) T → w'.heap.size = w.heap.size → Kp [b] w w' → K w') : EvSt w ⟨b, 0 + k * 1, none⟩ (.bool x) K := by
  refine st hb (by simpa using hk) rfl fun w' hb' hs hkp => h w' ?_ hs hkp
  unfold RowB
  have : (l.set k x).map Value.bool = (l.map Value.bool).set (0 + k * 1) (.bool x) := by simp [List.map_set]
  rw [this]
  exact hb'
end Go.Wx
namespace Cd
/-- heights where met, and which are met, against heights with -1 for 'not met' -/
structure Met (len : Nat) (H : List Int) (M : List Bool) (s : List Int) : Prop where
  h : H.length = len
  m : M.length = len
  sl : s.length = len
  eq : ∀ j, j < len → s.getD j 0 = if M.getD j false then H.getD j 0 else -1
  pos : ∀ j, M.getD j false = true → 0 ≤ H.getD j 0
theorem Met.set {len : Nat} {H : List Int} {M : List Bool} {s : List Int} (k : Met len H M s) {t : Nat} (ht : t < len) (x : Int) (hx : 0 ≤ x) : Met len (H.set t x) (M.set t true) (s.set t x) := by
  refine ⟨by simp [k.h], by simp [k.m], by simp [k.sl], fun j hj => ?_, fun j hj => ?_⟩
  rotate_left
  · by_cases e : t = j
    · subst e
      simp [List.getD_eq_getElem?_getD, List.getElem?_set, k.h, ht, hx]
    · simp only [List.getD_eq_getElem?_getD] at hj ⊢
      rw [List.getElem?_set_ne e] at hj ⊢
      exact k.pos j (by simpa [List.getD_eq_getElem?_getD] using hj)
  have h1 := k.h
  have h2 := k.m
  have h3 := k.sl
  by_cases e : t = j
  · subst e
    simp [List.getD_eq_getElem?_getD, List.getElem?_set, h1, h2, h3, hj]
  · have := k.eq j hj
    simp only [List.getD_eq_getElem?_getD] at this ⊢
    rw [List.getElem?_set_ne e, List.getElem?_set_ne e, List.getElem?_set_ne e]
    exact this
end Cd
namespace Go.Proofs.Ytjogpbiilokldaa
open Go.Wx Cd

theorem block20_ct {C : Mem} {w : World} (hS : Sub C w) {cs : List Value} {c : Cod} (hc : rCod.den C cs c) (hco : CodOk c) (code : List Ins) (ac : Option Addr) (cc : Nat) (hcode : Sl rIns C ac code) (hlen : code.length ≤ 1048576) (fl : Int) (hf : 0 ≤ fl ∧ fl ≤ 256) :
    CallOk Try.prog 20 ∧ Calls Try.prog 20 #[.agg cs.toArray, .slice ac code.length cc, .int .i64 fl] w (fun e w' => e = .returned (.tuple #[.bool (blockM c code fl).isSome, .int .i64 ((blockM c code fl).getD 0)]) ∧ Kp [] w w') := by
  obtain ⟨RES, hRES⟩ : ∃ r, blockM c code fl = r := ⟨_, rfl⟩
  rw [hRES]
  have hc0 := hc
  obtain ⟨a1, c1, a2, c2, a3, c3, a4, c4, rfl, h1, h2, h3, h4, h5⟩ := hc
  refine ⟨⟨_, Try.func20, rfl, by decide⟩, ?_⟩
  refine calls_of (args := [_, _, _]) 110 [.tmp 6, .tmp 7] τok Try.func20 rfl rfl rfl (Nat.le_of_ble_eq_true rfl) ?_
  refine new fun b3 w1 hb3 hB3 hs1 hk1 => ?_
  have hB3 : Bk w1.heap b3 [.int .i64 c.nat, .slice a1 c.shapes.length c1, .slice a2 c.funs.length c2, .slice a3 c.bodies.length c3, .slice a4 c.main.length c4] 28 := hB3
  refine br_dec (fun h0 => ?_) (fun h0 => ?_)
  · have : RES = none := by rw [← hRES]; unfold blockM; rw [if_pos (by omega)]
    subst this
    exact ⟨rfl, hk1⟩
  have h0 : 0 < code.length := by omega
  refine mk τok rfl rfl code.length rfl (by decide) (by omega) (by omega) fun b9 w2 hb9 hB9 hs2 hk2 => ?_
  refine mk τok rfl rfl code.length rfl (by decide) (by omega) (by omega) fun b10 w3 hb10 hB10 hs3 hk3 => ?_
  rw [rep_one] at hB9 hB10
  have hR9 : RowI w3.heap b9 (List.replicate code.length 0) 3 := by
    have := hB9.kp hk3 (by simp)
    unfold RowI
    simpa [zc] using this
  have hR10 : RowB w3.heap b10 (List.replicate code.length false) 4 := by
    unfold RowB
    simpa [zc] using hB10
  have hb9l := Bk.lt hR9
  have z1 := hk1.size
  refine ix 0 rfl h0 ?_
  refine stI hR9 (by simpa using h0) fun w4 hR9 hs4 hk4 => ?_
  have hR10 := hR10.kp hk4 (by simp; omega)
  refine ix 0 rfl h0 ?_
  refine stB hR10 (by simpa using h0) fun w5 hR10 hs5 hk5 => ?_
  have hR9 := hR9.kp hk5 (by simp; omega)
  have k13 := hk2.tr hk3
  have k14 : Kp [] w1 w4 := k13.trans hk4 (fun x hx hl => by simp at hx; omega)
  have k15 : Kp [] w1 w5 := k14.trans hk5 (fun x hx hl => by simp at hx; omega)
  have hblk : RES = blkM c code.length fl 0 code (fl :: List.replicate (code.length - 1) (-1), fl) := by
    rw [← hRES]; unfold blockM; rw [if_neg (by omega)]
  have hmet : Met code.length ((List.replicate code.length (0 : Int)).set 0 fl) ((List.replicate code.length false).set 0 true) (fl :: List.replicate (code.length - 1) (-1)) := by
    have e0 : (List.replicate code.length (-1 : Int)).set 0 fl = fl :: List.replicate (code.length - 1) (-1) := by
      cases hq : code.length with
      | zero => omega
      | succ m => simp [List.replicate_succ]
    rw [← e0]
    refine Met.set ⟨by simp, by simp, by simp, fun j hj => ?_, fun j hj => ?_⟩ h0 fl hf.1
    · simp [List.getD_eq_getElem?_getD, hj]
    · simp [List.getD_eq_getElem?_getD, List.getElem?_replicate] at hj
      split at hj <;> simp at hj
  refine lp τok (σ := Nat × List Int × List Bool × List Int × Int) (fun q => [(1, .slice ac code.length cc), (2, .int .i64 fl), (3, .pointer (some ⟨b3, 0, none⟩)), (8, .int .i64 q.2.2.2.2), (9, .slice (some ⟨b9, 0, none⟩) code.length code.length), (10, .slice (some ⟨b10, 0, none⟩) code.length code.length), (11, .int .i64 (q.1 : Int))])
    (fun q w' => q.1 ≤ code.length ∧ Kp [b9, b10] w5 w' ∧ RowI w'.heap b9 q.2.1 3 ∧ RowB w'.heap b10 q.2.2.1 4 ∧ Met code.length q.2.1 q.2.2.1 q.2.2.2.1 ∧ RES = blkM c code.length fl q.1 (code.drop q.1) (q.2.2.2.1, q.2.2.2.2) ∧ Hb fl (256 + q.1 * 1099511627776) (q.2.2.2.1, q.2.2.2.2)) (fun q => code.length - q.1)
    (0, (List.replicate code.length (0 : Int)).set 0 fl, (List.replicate code.length false).set 0 true, fl :: List.replicate (code.length - 1) (-1), fl) rfl ⟨rfl, rfl, rfl, rfl, rfl, rfl, rfl, trivial⟩ ⟨Nat.zero_le _, Kp.refl _ _, hR9, hR10, hmet, hblk, ?_⟩ ?_
  · refine ⟨fun x hx => ?_, by simp, by simp; omega⟩
    simp at hx
    rcases hx with rfl | ⟨_, rfl⟩
    · right; simp; omega
    · left; rfl
  rintro ⟨k, H, M, S, mo⟩ w6 ⟨hk6, hkp, hR9, hR10, hmet, hres, hhb⟩
  simp only at hk6 hR9 hR10 hmet hres hhb
  have own : ∀ {u}, Kp [b9, b10] w5 u → Kp [] w1 u := fun k => k15.trans k (fun x hx hl => by simp at hx; omega)
  have hb10l := Bk.lt hR10
  refine br_dec (fun g1 => ?_) (fun g1 => ?_)
  · have hlt : k < code.length := by omega
    obtain ⟨n, hn, hdn⟩ := drop_get hlt
    obtain ⟨bi, oi, rfl, an, tc, hto, i1, i2, i3, hcells⟩ := sl_ins hcode hn
    rw [hdn] at hres
    simp only [blkM] at hres
    have hm1 := hmet.m
    have hm2 := hmet.h
    have hm3 := hmet.sl
    have hek := hmet.eq k hlt
    refine ix k rfl hlt ?_
    refine ld (RowB.cl hR10 (by omega)).cell ?_
    refine br (fun g2 => ?_) (fun g2 => ?_)
    · have g2 : M.getD k false = false := by simpa using g2
      rw [g2] at hek
      have : RES = none := by rw [hres, if_pos (by simpa using hek)]
      subst this
      exact ⟨rfl, hk1.tr (own hkp)⟩
    have g2 : M.getD k false = true := by simpa using g2
    rw [g2] at hek
    simp only [if_true] at hek
    have hB36 := hB3.kp (own hkp) (by simp)
    have hS6 := (hS.tr hk1).tr (own hkp)
    refine drawG τok (fun u => Kp [] w6 u) ?_
    refine readsG τok [0, 1, 2, 3, 4, 5, 6, 7, 8, 9, 10] 6 #[true, true, true, true, true, true, true, true, true, true, true, false, false, false, false, false, false] rfl rfl (by kernel_rfl) (by kernel_rfl) (by kernel_rfl) ((Kp.refl _ _).dr _) ?_
    refine ldNK [.int .i64 c.nat, .slice a1 c.shapes.length c1, .slice a2 c.funs.length c2, .slice a3 c.bodies.length c3, .slice a4 c.main.length c4] rfl (fun j v hj => by rw [Nat.zero_add]; exact hB36.cl hj) ?_
    refine ix k rfl hlt ?_
    refine ldNK [.int .i64 n.op, .int .i64 n.a, .int .i64 n.b, .slice an n.to.length tc] rfl (fun j v hj => hS6 _ _ _ (hcells j v hj)) ?_
    refine ix k rfl hlt ?_
    refine ldK (RowI.cl hR9 (by omega)) ?_
    rw [show S.getD k 0 = H.getD k 0 from hek] at hres
    have hkS : k < S.length := by omega
    have hmem := hhb.1 _ (getD_mem0 hkS)
    rw [show S.getD k 0 = H.getD k 0 from hek] at hmem
    have hpos := hmet.pos k g2
    have hne : ¬ H.getD k 0 = -1 := by omega
    rw [if_neg hne] at hres
    have hgb : fl ≤ H.getD k 0 ∧ H.getD k 0 ≤ 2305843009213693952 := by
      rcases hmem with h | h
      · exact absurd h hne
      · refine ⟨h.1, ?_⟩
        have : (k : Int) * 1099511627776 ≤ 1048576 * 1099511627776 := Int.mul_le_mul_of_nonneg_right (by omega) (by omega)
        omega
    have hone : oneM c code.length fl k n (S, mo) = (nextM c k n (H.getD k 0) fl).bind fun l => goM code.length k l (S, mo) := by
      unfold oneM
      simp only
      rw [show S.getD k 0 = H.getD k 0 from hek]
    rw [hone] at hres
    refine nextG τok 11 5 #[true, true, true, true, true, true, true, true, true, true, true, true, false, false, false, false, false] rfl rfl rfl (by kernel_rfl) ?_
    refine ev_call (next20_ct (hS6.dr _) hc0 hco k (by omega) n an tc hto i2 i3 (H.getD k 0) fl ⟨hpos, hgb.2⟩ ⟨hf.1, by omega⟩) ?_
    rintro e w7 ⟨v, ok, rfl, hk7, hpost⟩
    have hk7 : Kp [] w6 w7 := hk7.rd
    refine ⟨.inl hk7, ?_⟩
    refine readsG τok [12, 13] 3 #[true, true, true, true, true, true, true, true, true, true, true, true, true, true, false, false, false] rfl rfl (by kernel_rfl) (by kernel_rfl) (by kernel_rfl) hk7 ?_
    refine readsG τok [14] 2 #[true, true, true, true, true, true, true, true, true, true, true, true, true, true, true, false, false] rfl rfl (by kernel_rfl) (by kernel_rfl) (by kernel_rfl) hk7 ?_
    refine nextG τok 15 1 #[true, true, true, true, true, true, true, true, true, true, true, true, true, true, true, true, false] rfl rfl rfl (by kernel_rfl) ?_
    refine ⟨.inl hk7, ?_⟩
    refine nextG τok 16 0 #[true, true, true, true, true, true, true, true, true, true, true, true, true, true, true, true, true] rfl rfl rfl (by kernel_rfl) ?_
    refine ⟨.inl hk7, ?_⟩
    refine doneG (by kernel_rfl) ?_
    have k57 : Kp [b9, b10] w5 w7 := hkp.tr hk7
    cases hnx : nextM c k n (H.getD k 0) fl with
    | none =>
      rw [hnx] at hpost hres
      subst hpost
      have : RES = none := hres
      subst this
      exact ⟨rfl, hk1.tr (own k57)⟩
    | some l =>
      rw [hnx] at hpost hres
      obtain ⟨rfl, al, cl, rfl, hSl⟩ := hpost
      have hSl : Sl rPair (New w6.heap.size w7) al l := hSl
      have hll := hSl.1
      have hres : RES = (goM code.length k l (S, mo)).bind (blkM c code.length fl (k + 1) (code.drop (k + 1))) := hres
      have hbd := nextM_bd hco hgb.1 hf.1 hnx
      refine lp τok (σ := Nat × List Int × List Bool × List Int × Int) (fun q => [(1, .slice (some ⟨bi, oi, none⟩) code.length cc), (2, .int .i64 fl), (3, .pointer (some ⟨b3, 0, none⟩)), (8, .int .i64 q.2.2.2.2), (9, .slice (some ⟨b9, 0, none⟩) code.length code.length), (10, .slice (some ⟨b10, 0, none⟩) code.length code.length), (11, .int .i64 (k : Int)), (12, .slice al l.length cl), (14, .int .i64 (q.1 : Int))])
        (fun q w' => q.1 ≤ l.length ∧ Kp [b9, b10] w7 w' ∧ RowI w'.heap b9 q.2.1 3 ∧ RowB w'.heap b10 q.2.2.1 4 ∧ Met code.length q.2.1 q.2.2.1 q.2.2.2.1 ∧ goM code.length k l (S, mo) = goM code.length k (l.drop q.1) (q.2.2.2.1, q.2.2.2.2)) (fun q => l.length - q.1)
        (0, H, M, S, mo) rfl ⟨rfl, rfl, rfl, rfl, rfl, rfl, rfl, rfl, rfl, trivial⟩ ⟨Nat.zero_le _, Kp.refl _ _, hR9.kp hk7 (by simp), hR10.kp hk7 (by simp), hmet, rfl⟩ ?_
      rintro ⟨j, H', M', S', mo'⟩ w8 ⟨hj, hk8, hR9, hR10, hmet, hgo⟩
      simp only at hj hR9 hR10 hmet hgo
      have k58 : Kp [b9, b10] w5 w8 := k57.trans hk8 (fun x hx _ => hx)
      have bad : goM code.length k l (S, mo) = none → RES = none := fun e => by rw [hres, e]; rfl
      refine br_dec (fun g3 => ?_) (fun g3 => ?_)
      · have hltj : j < l.length := by omega
        obtain ⟨x, hx, hxd⟩ := drop_get hltj
        obtain ⟨bl, ol, rfl, hc0', hc1', x1, x2⟩ := sl_pair hSl hx
        rw [hxd] at hgo
        simp only [goM, goesM] at hgo
        have e0 : Cl w8.heap bl (ol + j * 2) (.int .i64 x.1) := hc0'.2.cl.kp hk8 (by have := hc0'.1; simp; omega)
        have e1 : Cl w8.heap bl (ol + j * 2 + 1) (.int .i64 x.2) := hc1'.2.cl.kp hk8 (by have := hc1'.1; simp; omega)
        refine ix j rfl hltj ?_
        refine pair_at 0 (by omega) rfl ?_
        refine ld e0.cell ?_
        refine ix j rfl hltj ?_
        refine pair_at 1 (by omega) rfl ?_
        refine ld e1.cell ?_
        have hx2 := (hbd x (List.mem_of_getElem? hx)).1
        have fin0 : goM code.length k l (S, mo) = none → (Ending.returned (one [.bool false, .int .i64 0]) = .returned (.tuple #[.bool RES.isSome, .int .i64 (RES.getD 0)]) ∧ Kp [] w w8) := fun e => by
          rw [bad e]
          exact ⟨rfl, hk1.tr (own k58)⟩
        refine br_dec (fun q1 => ?_) (fun q1 => ?_)
        · have q1 : x.1 ≤ (k : Int) := q1
          exact fin0 (by rw [hgo, if_pos (.inl q1)]; rfl)
        have q1 : ¬ x.1 ≤ (k : Int) := q1
        refine br_dec (fun q2 => ?_) (fun q2 => ?_)
        · have q2 : (code.length : Int) ≤ x.1 := q2
          exact fin0 (by rw [hgo, if_pos (.inr q2)]; rfl)
        have q2 : ¬ (code.length : Int) ≤ x.1 := q2
        rw [if_neg (by omega)] at hgo
        obtain ⟨t, ht⟩ : ∃ t : Nat, x.1 = t := ⟨x.1.toNat, by omega⟩
        have htl : t < code.length := by omega
        have hm1 := hmet.m
        have hm2 := hmet.h
        have hm3 := hmet.sl
        have het := hmet.eq t htl
        rw [show x.1.toNat = t by omega] at hgo
        refine ix t ht htl ?_
        refine ld (RowB.cl hR10 (by omega)).cell ?_
        refine br (fun q3 => ?_) (fun q3 => ?_)
        · have q3 : M'.getD t false = true := q3
          rw [q3] at het
          simp only [if_true] at het
          have hp := hmet.pos t q3
          rw [show S'.getD t 0 = H'.getD t 0 from het, if_neg (by omega)] at hgo
          refine ix t ht htl ?_
          refine ld (RowI.cl hR9 (by omega)).cell ?_
          refine br_dec (fun q4 => ?_) (fun q4 => ?_)
          · have q4 : ¬ H'.getD t 0 = x.2 := q4
            exact fin0 (by rw [hgo, if_neg q4]; rfl)
          have q4 : H'.getD t 0 = x.2 := by simpa using q4
          rw [if_pos q4] at hgo
          refine max64 ?_
          refine ix t ht htl ?_
          refine stB hR10 (by omega) fun w9 hR10 hs9 hk9 => ?_
          have hR9 := hR9.kp hk9 (by simp; omega)
          refine ix t ht htl ?_
          refine stI hR9 (by omega) fun w10 hR9 hs10 hk10 => ?_
          have hR10 := hR10.kp hk10 (by simp; omega)
          refine int64 (by (try simp only); omega) (by (try simp only); omega) ?_
          have k810 : Kp [b9, b10] w7 w10 := (hk8.trans hk9 (fun y hy _ => by simp at hy; simp [hy])).trans hk10 (fun y hy _ => by simp at hy; simp [hy])
          have hSs : S'.set t x.2 = S' := by
            have h9 : S'[t]? = some x.2 := by
              have h8 : t < S'.length := by omega
              rw [List.getElem?_eq_getElem h8]
              rw [List.getD_eq_getElem?_getD, List.getElem?_eq_getElem h8] at het
              simp only [Option.getD_some] at het
              rw [het, q4]
            have h8 : t < S'.length := by omega
            rw [List.getElem?_eq_getElem h8] at h9
            have h7 : S'[t] = x.2 := Option.some.inj h9
            rw [← h7]
            exact List.set_getElem_self h8
          refine ⟨(j + 1, H'.set t x.2, M'.set t true, S', max mo' x.2), by simp only; omega, rfl, ⟨rfl, rfl, rfl, rfl, rfl, rfl, rfl, rfl, rfl, trivial⟩, hltj, k810, hR9, hR10, ?_, hgo⟩
          have := hmet.set htl x.2 (by omega)
          rw [hSs] at this
          exact this
        · have q3 : M'.getD t false = false := q3
          rw [q3] at het
          simp only [Bool.false_eq_true, if_false] at het
          rw [if_pos het] at hgo
          refine max64 ?_
          refine ix t ht htl ?_
          refine stB hR10 (by omega) fun w9 hR10 hs9 hk9 => ?_
          have hR9 := hR9.kp hk9 (by simp; omega)
          refine ix t ht htl ?_
          refine stI hR9 (by omega) fun w10 hR9 hs10 hk10 => ?_
          have hR10 := hR10.kp hk10 (by simp; omega)
          refine int64 (by (try simp only); omega) (by (try simp only); omega) ?_
          have k810 : Kp [b9, b10] w7 w10 := (hk8.trans hk9 (fun y hy _ => by simp at hy; simp [hy])).trans hk10 (fun y hy _ => by simp at hy; simp [hy])
          exact ⟨(j + 1, H'.set t x.2, M'.set t true, S'.set t x.2, max mo' x.2), by simp only; omega, rfl, ⟨rfl, rfl, rfl, rfl, rfl, rfl, rfl, rfl, rfl, trivial⟩, hltj, k810, hR9, hR10, hmet.set htl x.2 (by omega), hgo⟩
      · rw [List.drop_eq_nil_of_le (by omega)] at hgo
        simp only [goM] at hgo
        refine int64 (by (try simp only); omega) (by (try simp only); omega) ?_
        rw [hgo] at hres
        refine ⟨(k + 1, H', M', S', mo'), by simp only; omega, rfl, ⟨rfl, rfl, rfl, rfl, rfl, rfl, rfl, trivial⟩, hlt, k58, hR9, hR10, hmet, hres, ?_⟩
        have hB' : (256 + ((k : Nat) : Int) * 1099511627776) + 1099511627776 = 256 + ((k + 1 : Nat) : Int) * 1099511627776 := by
          rw [Int.natCast_add, Int.add_mul]; omega
        have hle : H.getD k 0 ≤ 256 + ((k : Nat) : Int) * 1099511627776 := by
          rcases hmem with h | h
          · exact absurd h hne
          · exact h.2
        refine (goM_hb (B := 256 + ((k + 1 : Nat) : Int) * 1099511627776) hgo (hhb.mono (by omega)) fun t ht => ?_).1
        have := hbd t ht
        omega
  · rw [List.drop_eq_nil_of_le (by omega)] at hres
    have : RES = some mo := hres
    subst this
    exact ⟨rfl, hk1.tr (own hkp)⟩
end Go.Proofs.Ytjogpbiilokldaa
