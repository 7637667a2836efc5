import Derived.Test.YtmpgcpemnjbgjaaGreatMs22
import Derived.Test.YtmpgcpemnjbgjaaGreatRows
import Derived.ProofKit
import Derived.OpenShut
import Derived.Deep.Slices
import Derived.JoinedCond
set_option linter.unusedVariables false
set_option linter.unusedSimpArgs false
set_option maxRecDepth 100000
set_option maxHeartbeats 4000000
namespace Go.Proofs.YtmpgcpemnjbgjaaGreat
open Go.Wx Cd Tm Lv
def AlR (w' : World) (bl : Nat) (B : BoT) (en : Int) (r : Except Int (Unit × Nat)) : Prop := mS' r (fun q => LkC (Im [bl] w') w' bl B en q.2 0) (fun e' => e' ≠ 0 /\ LkC (Im [bl] w') w' bl B en 0 e')
theorem ni' {B : BoT} {e : Int} : ∀ (l : List Tr) (cx : Ctx) (n : Nat) (q : Ctx × Nat), CxOk B cx -> (∀ (i : Nat) y, l[i]? = some y -> Ft (QB B) ((cx.length + i : Nat) : Int) y) -> ga' B e l cx n = .ok q -> CxOk B q.1
 | [], cx, n, q, hc, hl, h => by cases h; exact hc
 | a :: r, cx, n, q, hc, hl, h => by
  obtain ⟨p, _, h⟩ := ak' h;split at h
  ·cases h
  split at h
  ·cases h
  refine ni' r _ _ q (hc.snoc (hl 0 a rfl) (by simp)) (fun i y hy => ?_) h;have := hl (i + 1) y (by simpa using hy)
  rwa [show (cx ++ [(a, (none : Option Tr))]).length + i = cx.length + (i + 1) by simp; omega]
theorem pX' {B : BoT} : ∀ (l : List Tr) (cx : Ctx) (n : Nat) (q : Ctx × Nat), CxOk B cx -> (∀ (i : Nat) y, l[i]? = some y -> Ft (QB B) ((cx.length + i : Nat) : Int) y) -> kS' B l cx n = .ok q -> CxOk B q.1
 | [], cx, n, q, hc, hl, h => by cases h; exact hc
 | a :: r, cx, n, q, hc, hl, h => by
  obtain ⟨p, _, h⟩ := ak' h;refine pX' r _ _ q (hc.snoc (hl 0 a rfl) (by simp)) (fun i y hy => ?_) h;have := hl (i + 1) y (by simpa using hy)
  rwa [show (cx ++ [(a, (none : Option Tr))]).length + i = cx.length + (i + 1) by simp; omega]
section
variable {w : World} {bl : Nat} {B : BoT} {en : Int}
theorem iz' {Y : List Nat} {w wn : World} (k : Kp [bl] w wn) (hbl : bl ∈ Y) (hY : ∀ y ∈ Y, y = bl \/ w.heap.size <= y) {b o : Nat} {v : Value} (h : Im [bl] w b o v) : Im Y wn b o v :=
 Im.kp k (fun y hy _ => by obtain rfl : y = bl := by simpa using hy
                           exact hbl) (Im.more (fun y hy => (hY y hy).imp (fun h => by simp [h]) id) h)
theorem LkC.less {X Y : List Nat} {w : World} {n : Nat} {er : Int} (h : LkC (Im X w) w bl B en n er) (hY : ∀ y ∈ Y, y ∈ X) : LkC (Im Y w) w bl B en n er := h.mono fun _ _ _ h => h.less hY
theorem LkC.more {X Y : List Nat} {w w' : World} {n : Nat} {er : Int} (h : LkC (Im X w) w bl B en n er) (hY : ∀ y ∈ Y, y ∈ X \/ w.heap.size <= y) (k : Kp [] w w') : LkC (Im Y w') w' bl B en n er := (h.mono fun _ _ _ h => Im.more hY h).tr k
theorem TlC.more {X Y : List Nat} {w w' : World} {bt : Nat} {cx : Ctx} (h : TlC (Im X w) w bt bl cx) (hY : ∀ y ∈ Y, y ∈ X \/ w.heap.size <= y) (k : Kp [] w w') : TlC (Im Y w') w' bt bl cx := (h.mono fun _ _ _ h => Im.more hY h).tr k
theorem tJ' (hf : aQ' B en = 0) {n0 : Nat} (hL : LkC (Im [bl] w) w bl B en n0 0) :
  CC 31 #[pt bl] w (fun e w' => (∃ v, e = .returned v) /\ AlR w' bl B en (tE' B en n0) /\ Kp [bl] w w') := by
 refine oF Tryz.func31 ?_;obtain ⟨RES, hRES⟩ : ∃ r, tE' B en n0 = r := ⟨_, rfl⟩
 rw [hRES];unfold tE' at hRES;obtain ⟨hR, hB, h0, h1, hx, s, ps, qi, hF⟩ := fe' hf;have hi : ((en.toNat : Nat) : Int) = en := by omega
 obtain ⟨e1, e2, e3⟩ := hF.ps_eq hx;rw [hi] at e1 e2 e3;rw [e1, e2, e3] at hRES;have hlp := hF.lp;have hli := hF.li;have hlc := hF.lc;have hsF : Ft (QB B) 0 s := hF.fs.wk fun m hm => dH' (Nat.le_of_lt (ai' hx)) hm;have hpF : ∀ (i : Nat) y, ps[i]? = some y -> Ft (QB B) (i : Int) y := fun i y hy => hF.up_p hB hx hy;have hqF : ∀ (i : Nat) y, qi[i]? = some y -> Ft (QB B) ((ps.length + i : Nat) : Int) y := fun i y hy => hF.up_i hB hx hy;have hnp : (entD B en).params.length <= 16 /\ (entD B en).indices.length <= 16 := by
  rw [hF.params, hF.indices];simp;omega
 have hbl := hL;obtain ⟨v1, v2, v3, hl, hO, hE, hP⟩ := hL;obtain ⟨be, oe, ce, rfl, u1, u2, u3, u4, u5, u6, hcs, s1, s2, s3, s4, s5, s6⟩ := gX' (e := en) hE h0 h1;have hone := jv' s1 s2 s3 s4 s5 s6;have hEn : EnV (Im [bl] w) (entD B en) (.agg #[.int .i64 (entD B en).kind, u1, u2, u3, u4, u5, u6]) := ⟨_, _, _, _, _, _, rfl, s1, s2, s3, s4, s5, s6⟩
 have s1' := s1;rw [hF.sort] at s1';have s1' : TmV (Im [bl] w) s u1 := s1';obtain ⟨asr, csr, rfl, _, _⟩ := id s1';have s2' := s2;rw [hF.params] at s2';have s2' := TmsV.sv.2 s2';obtain ⟨ap, cp, rfl, _, _⟩ := id s2';have s3' := s3;rw [hF.indices] at s3';have s3' := TmsV.sv.2 s3';obtain ⟨aq, cq, rfl, _, _⟩ := id s3';obtain ⟨ac, cc, rfl⟩ := s4.len;refine cO (args := [_]) 91 [] τok Tryz.func31 ?_;refine ar' τok (fun z => Kp [] w z) ?_;refine rV τok [0, 1, 2, 3, 4, 5, 6, 7, 8, 9, 10] 2 (mB 13 [11, 12]) ((Kp.refl [] w).dr _) ?_;refine lk hl ?_;refine lk hl ?_;refine ix en.toNat (by omega) (by omega) ?_;refine dt' [.int .i64 (entD B en).kind, .slice asr (row s).length csr, .slice ap ps.length cp, .slice aq qi.length cq, .slice ac (entD B en).ctors.length cc, u5, u6] rfl (fun j u hj => (hcs j u hj).1) ?_;refine nV τok 11 1 (mB 13 [12]) ?_;refine new fun b2 w1 hb2 h2 hs1 hk1 => ?_;have hk1 : Kp [] w w1 := hk1.rd;have hb2 : b2 = w.heap.size := hb2;refine ⟨.inl hk1, ?_⟩;refine nV τok 12 0 (mB 13 []) ?_;refine stN (vs := [.int .i64 (entD B en).kind, .slice asr (row s).length csr, .slice ap ps.length cp, .slice aq qi.length cq, .slice ac (entD B en).ctors.length cc, u5, u6]) h2 rfl hone fun w2 h2 hs2 hk2 => ?_;have k02 : Kp [] w w2 := hk1.newSt hb2 hk2;refine ⟨.inr (by kernel_rfl), ?_⟩;refine dV ?_;have hL2 := hbl.tr k02;have hbw := hl.lt;have hX2 : ∀ b ∈ [bl], b < w2.heap.size := fun b hb => by
  obtain rfl : b = bl := by simpa using hb
  exact Nat.lt_of_lt_of_le hbw k02.size
 obtain ⟨w1', w2', w3', hl2, hO2, hE2, hP2⟩ := id hL2;have hs2' : TmV (Im [bl] w2) s (.slice asr (row s).length csr) := s1'.mono fun _ _ _ h => h.tr k02;refine ar' τok (fun z => Kp [] w2 z) ?_;refine rV τok [0, 1, 2, 3, 4, 5, 6, 7, 8, 9] 8 (mB 18 [10, 11, 12, 13, 14, 15, 16, 17]) ((Kp.refl [] w2).dr _) ?_;refine dt' [.int .i64 B.vars, w1', w2', .int .i64 B.nat, w3'] rfl (fun j u hj => by
  refine hl2.cl ?_;rw [Nat.zero_add]
  match j, hj with
  | 0, hj => exact hj
  | 1, hj => exact hj
  | 2, hj => exact hj
  | 3, hj => exact hj
  | 4, hj => exact hj
  | j + 5, hj => cases hj) ?_
 refine lk h2 ?_;refine lk hl2 ?_;refine nV τok 10 7 (mB 18 [11, 12, 13, 14, 15, 16, 17]) ?_;refine ab' (tx' (w := { w2 with drawn := w2.drawn + 1 }) (X := [bl]) (cx := []) (fuel := (n0 : Int)) hB (fun i q hq => by simp at hq) (by simp) hX2 hsF ⟨w1', w2', w3', rfl, hO2, hE2, hP2⟩ (SV.nil _ _) hs2') ?_;rintro e w3 ⟨he, hk3⟩;have hk3 : Kp [] w2 w3 := hk3.rd;have k03 := k02.tr hk3;have h2 := h2.kp hk3 (by simp);have hL3 := hL2.tr hk3;have hb2n : b2 ≠ bl := by omega
 have fin : ∀ {wn : World} {X : List Nat} {n : Nat} {er : Int}, bl ∈ X -> LkC (Im X wn) wn bl B en n er -> LkC (Im [bl] wn) wn bl B en n er := fun hb h => h.less fun y hy => by
  obtain rfl : y = bl := by simpa using hy
  exact hb
 cases ht : fA' B [] s (n0 : Int) with
 | error er =>
  rw [ht] at he hRES;have hRES : .error er = RES := hRES;subst hRES;obtain rfl := he;have her : er ≠ 0 := (bU' hB GJ).er _ _ _ _ ht;refine ⟨.inl hk3, ?_⟩;refine rV τok [11, 12, 13, 14, 15, 16, 17] 0 (mB 18 []) hk3 ?_;refine dV ?_;refine new fun b6 w4 hb6 h6 hs4 hk4 => ?_;refine ab' (gZ' (X := [bl]) (hL3.tr hk4) (by simp) 0 er) ?_;rintro r w5 ⟨rfl, hL5, k45⟩;refine em' (fun h => absurd h her) (fun _ => ?_);exact ⟨⟨_, rfl⟩, ⟨her, hL5⟩, ((k03.tr hk4).weak (by simp)).trans k45 fun x hx _ => hx⟩
 | ok q =>
 rw [ht] at he hRES;have hRES : (bdJ (kS' B ps [] q.2) fun cp n => bdJ (kS' B qi cp n) fun _ n => dQ' B en cp (entD B en).ctors n) = RES := hRES;obtain ⟨ut, rfl, hut⟩ := he;obtain ⟨aut, cut, rfl, _, _⟩ := id hut;refine ⟨.inl hk3, ?_⟩;refine rV τok [11, 12, 13, 14, 15, 16, 17] 0 (mB 18 []) hk3 ?_;refine dV ?_;refine new fun b6 w4 hb6 h6 hs4 hk4 => ?_;have h6 : Bk w4.heap b6 [pt bl, .slice none 0 0] 108 := h6;have l3 := k03.size;have l2 := k02.size;have hs2b : w.heap.size < w2.heap.size := by
  have := h2.lt;have := hk1.size;omega
 have l23 := hk3.size;have hL4 : LkC (Im [b6, bl] w4) w4 bl B en n0 0 := hL3.more (fun y hy => by simp at hy; rcases hy with rfl | rfl; exact .inr (by omega); exact .inl (by simp)) hk4;have k04 := k03.tr hk4;refine ab' (gZ' hL4 (by simp) q.2 0) ?_;rintro r w5 ⟨rfl, hL5, k45⟩;have k05 : Kp [bl] w w5 := (k04.weak (by simp)).trans k45 fun x hx _ => hx;have h65 := h6.kp k45 (by simp; omega);have h25 := (h2.kp hk4 (by simp)).kp k45 (by simp; omega);have hT5 : TlC (Im [b6, bl] w5) w5 b6 bl [] := ⟨_, h65, SV.nil _ _⟩
 have l5 := k05.size;have hb6l := h65.lt;have hX5 : ∀ b ∈ [b6, bl], b < w5.heap.size := fun b hb => by
  simp at hb;rcases hb with rfl | rfl
  ·exact hb6l
  ·omega
 have hY6 : ∀ y ∈ [b6, bl], y = bl \/ w.heap.size <= y := fun y hy => by
  simp at hy;rcases hy with rfl | rfl
  ·exact .inr (by omega)
  ·exact .inl rfl
 have hp5 : TmsV (Im [b6, bl] w5) ps (.slice ap ps.length cp) := s2'.mono fun _ _ _ h => iz' k05 (by simp) hY6 h;refine lb h25 ?_;refine ab' (pU' hB (cx0 := []) (n0 := q.2) (ys := ps) (fun i q hq => by simp at hq) (by simp; omega) hX5 (by simp) (by simp) (by omega) hL5 hT5 (fun i y hy => by simpa using hpF i y hy) hp5) ?_;rintro e w6 ⟨he, k56⟩;have k06 : Kp [bl] w w6 := k05.trans k56 fun x hx hl => by
  simp at hx;rcases hx with rfl | rfl
  ·simp
  ·omega
 have h26 := h25.kp k56 (by simp; omega);cases hA : kS' B ps [] q.2 with
 | error er =>
  rw [hA] at he hRES;have hRES : .error er = RES := hRES;subst hRES;obtain ⟨rfl, her, hL6⟩ := he;exact ⟨⟨_, rfl⟩, ⟨her, fin (by simp) hL6⟩, k06⟩
 | ok q2 =>
 obtain ⟨cp0, n2⟩ := q2;rw [hA] at he hRES;have hRES : (bdJ (kS' B qi cp0 n2) fun _ n => dQ' B en cp0 (entD B en).ctors n) = RES := hRES;obtain ⟨rfl, hL6, hT6⟩ := he;have hcp : CxOk B cp0 := pX' ps [] q.2 (cp0, n2) (fun i q hq => by simp at hq) (fun i y hy => by simpa using hpF i y hy) hA;have hcl : cp0.length = ps.length := by
  have := lO' _ _ _ _ hA;simp only [List.nil_append] at this;rw [this];simp
 obtain ⟨_, ht6, hc6⟩ := id hT6;obtain ⟨a6, c6, rfl, _, _⟩ := id hc6;refine lb ht6 ?_;refine new fun b7 w7 hb7 h7 hs7 hk7 => ?_;have h7 : Bk w7.heap b7 [pt bl, (.slice a6 (cp0.map bdR).length c6)] 108 := h7;have k07 := k06.tr hk7;have l6 := k06.size;have hb6l6 := ht6.lt;have hL7 : LkC (Im [b7, b6, bl] w7) w7 bl B en n2 0 := hL6.more (fun y hy => by simp at hy; rcases hy with rfl | rfl | rfl; exact .inr (by omega); exact .inl (by simp); exact .inl (by simp)) hk7;have hT67 : TlC (Im [b7, b6, bl] w7) w7 b6 bl cp0 := hT6.more (fun y hy => by simp at hy; rcases hy with rfl | rfl | rfl; exact .inr (by omega); exact .inl (by simp); exact .inl (by simp)) hk7;have hT7 : TlC (Im [b7, b6, bl] w7) w7 b7 bl cp0 := by
  obtain ⟨vc7, ht7, hc7⟩ := hT67;have : vc7 = (.slice a6 (cp0.map bdR).length c6) := by
   have e := (ht6.kp hk7 (by simp)).symm.trans ht7
   simpa using e.symm
  subst this;exact ⟨_, h7, hc7⟩
 have hb7l := h7.lt;have hX7 : ∀ b ∈ [b7, b6, bl], b < w7.heap.size := fun b hb => by
  have := hk7.size;simp at hb;rcases hb with rfl | rfl | rfl
  ·exact hb7l
  ·omega
  ·omega
 have hY7 : ∀ y ∈ [b7, b6, bl], y = bl \/ w.heap.size <= y := fun y hy => by
  simp at hy;rcases hy with rfl | rfl | rfl
  ·exact .inr (by omega)
  ·exact .inr (by omega)
  ·exact .inl rfl
 have hq7 : TmsV (Im [b7, b6, bl] w7) qi (.slice aq qi.length cq) := s3'.mono fun _ _ _ h => iz' k07 (by simp) hY7 h;have h27 := h26.kp hk7 (by simp);refine lb h27 ?_;refine ab' (pU' hB (cx0 := cp0) (n0 := n2) (ys := qi) hcp (by omega) hX7 (by simp) (by simp) (by omega) hL7 hT7 (fun i y hy => by rw [hcl]; exact hqF i y hy) hq7) ?_;rintro e w8 ⟨he, k78⟩;have k08 : Kp [bl] w w8 := k07.trans k78 fun x hx hl => by
  simp at hx;rcases hx with rfl | rfl
  ·simp
  ·omega
 have h28 := h27.kp k78 (by simp; omega);cases hI : kS' B qi cp0 n2 with
 | error er =>
  rw [hI] at he hRES;have hRES : .error er = RES := hRES;subst hRES;obtain ⟨rfl, her, hL8⟩ := he;exact ⟨⟨_, rfl⟩, ⟨her, fin (by simp) hL8⟩, k08⟩
 | ok q3 =>
 obtain ⟨cq0, n3⟩ := q3;rw [hI] at he hRES;have hRES : dQ' B en cp0 (entD B en).ctors n3 = RES := hRES;obtain ⟨rfl, hL8, _⟩ := he;have hT8 : TlC (Im [b6, bl] w8) w8 b6 bl cp0 := ((hT67.mono fun b o v h => Im.kp k78 (fun y hy _ => by simp at hy ⊢; omega) h).kp k78 (by simp; omega)).mono fun _ _ _ h => h.less fun y hy => by simp at hy ⊢; omega
 have hL8' : LkC (Im [b6, bl] w8) w8 bl B en n3 0 := hL8.less fun y hy => by simp at hy ⊢; omega
 refine lb h28 ?_;refine loop τok (σ := Nat × Nat) (fun q => [(0, pt bl), (2, pt b2), (6, pt b6), (65, .slice ac (entD B en).ctors.length cc), (66, .int .i64 ((entD B en).ctors.length : Int)), (67, .int .i64 (q.1 : Int))])
  (fun q w' => q.1 <= (entD B en).ctors.length /\ RES = dQ' B en cp0 ((entD B en).ctors.drop q.1) q.2 /\ LkC (Im [b6, bl] w') w' bl B en q.2 0 /\ TlC (Im [b6, bl] w') w' b6 bl cp0 /\ Kp [bl] w8 w') (fun q => (entD B en).ctors.length - q.1) (0, n3) ⟨rfl, rfl, rfl, rfl, rfl, rfl, trivial⟩
  ⟨Nat.zero_le _, hRES.symm, hL8', hT8, Kp.refl _ _⟩ ?_
 rintro ⟨k, n⟩ w9 ⟨hk, hr, hL9, hT9, k89⟩;simp only at hk hr hL9 hT9;have k09 : Kp [bl] w w9 := k08.trans k89 fun x hx _ => hx;refine ac' (fun c => ?_) (fun c => ?_)
 ·have hlt : k < (entD B en).ctors.length := by
   have : (k : Int) < (entD B en).ctors.length := c;omega
  obtain ⟨ct, hct, hd⟩ := af' hlt;rw [hd] at hr;simp only [dQ'] at hr;obtain ⟨ga, go, hC⟩ := hF.ct k ct hct;have hla := hC.la;have hlo := hC.lo;have hgaF : ∀ (i : Nat) y, ga[i]? = some y -> Ft (QB B) ((ps.length + i : Nat) : Int) y := fun i y hy => hC.up_a hx hF.kind hy;have hgoF : ∀ y ∈ go, Ft (QB B) ((ps.length + ga.length : Nat) : Int) y := fun y hy => hC.up_o hx hF.kind hy;have hga : ct.args.map tr = ga := dd' hC.args (fun y hy => by
   obtain ⟨j, hj⟩ := List.getElem?_of_mem hy;exact (hC.fa j y hj).ok)
  have hgo : ct.out.map tr = go := dd' hC.out (fun y hy => (hC.fo y hy).ok);have hal : ct.args.length = ga.length := by rw [hC.args]; simp
  rw [hga, hgo, hal] at hr;obtain ⟨bc, oc, cc', e1, hca⟩ := s4.at hct;injection e1 with e1 _ e2
  subst e1 e2;obtain ⟨va, vo, hccs, hva, hvo⟩ := fp' hca;have hone2 : ∀ v ∈ [va, vo], v.oneCell' = true := fun v hv => by
   simp at hv;rcases hv with rfl | rfl
   ·exact hva.one
   ·exact hvo.one
  have hCt : CtV (Im [bl] w) ct (.agg #[va, vo]) := ⟨va, vo, rfl, hva, hvo⟩
  have im9 : ∀ b o v, Im [bl] w b o v -> Im [bl] w9 b o v := fun b o v h => Im.kb k09 (by simp) b o v h;have h29 := h28.kp k89 (by simp; omega);have l9 := k09.size;obtain ⟨_, ht9, hc9⟩ := id hT9;obtain ⟨a9, c9, rfl, _, _⟩ := id hc9;have hb6l9 := ht9.lt;refine ix k rfl hlt ?_;refine ldN [va, vo] rfl (fun j v hj => (im9 _ _ _ (hccs j v hj)).1) ?_;refine new fun b9 wA hb9 h9 hsA hkA => ?_;refine stN (vs := [va, vo]) h9 rfl hone2 fun wB h9 hsB hkB => ?_;have k9B : Kp [] w9 wB := hkA.newSt hb9 hkB;have hTB := hT9.tr k9B;have htB := ht9.kp k9B (by simp);refine lb htB ?_;refine new fun b10 wC hb10 h10 hsC hkC => ?_;have h10 : Bk wC.heap b10 [pt bl, (.slice a9 (cp0.map bdR).length c9)] 108 := h10;have k9C := k9B.tr hkC;have k0C : Kp [bl] w wC := k09.tr k9C;have lB := k9B.size;have hlA : w9.heap.size <= b9 /\ b9 < b10 := by
   have hb9 : b9 = w9.heap.size := hb9;have hb10 : b10 = wB.heap.size := hb10;have := h9.lt;omega
  have hLC : LkC (Im [b10, b6, bl] wC) wC bl B en n 0 := (hL9.tr k9B).more (fun y hy => by simp at hy; rcases hy with rfl | rfl | rfl; exact .inr (by omega); exact .inl (by simp); exact .inl (by simp)) hkC;have hTCb : TlC (Im [b10, b6, bl] wC) wC b6 bl cp0 := hTB.more (fun y hy => by simp at hy; rcases hy with rfl | rfl | rfl; exact .inr (by omega); exact .inl (by simp); exact .inl (by simp)) hkC;have hTC : TlC (Im [b10, b6, bl] wC) wC b10 bl cp0 := by
   obtain ⟨vc7, ht7, hc7⟩ := id hTCb;have : vc7 = (.slice a9 (cp0.map bdR).length c9) := by
    have e := (htB.kp hkC (by simp)).symm.trans ht7
    simpa using e.symm
   subst this;exact ⟨_, h10, hc7⟩
  have hb10l := h10.lt;have lC := k9C.size;have hXC : ∀ b ∈ [b10, b6, bl], b < wC.heap.size := fun b hb => by
   simp at hb;rcases hb with rfl | rfl | rfl
   ·exact hb10l
   ·omega
   ·omega
  have hYC : ∀ y ∈ [b10, b6, bl], y = bl \/ w.heap.size <= y := fun y hy => by
   simp at hy;rcases hy with rfl | rfl | rfl
   ·exact .inr (by omega)
   ·exact .inr (by omega)
   ·exact .inl rfl
  have h2C := h29.kp k9C (by simp);have h9C := h9.kp hkC (by simp);have hEC : EnV (Im [b10, b6, bl] wC) (entD B en) (.agg #[.int .i64 (entD B en).kind, .slice asr (row s).length csr, .slice ap ps.length cp, .slice aq qi.length cq, .slice (some ⟨bc, oc, none⟩) (entD B en).ctors.length cc, u5, u6]) := hEn.mono fun _ _ _ h => iz' k0C (by simp) hYC h;have hCC : CtV (Im [b10, b6, bl] wC) ct (.agg #[va, vo]) := hCt.mono fun _ _ _ h => iz' k0C (by simp) hYC h;refine ldN [.int .i64 (entD B en).kind, .slice asr (row s).length csr, .slice ap ps.length cp, .slice aq qi.length cq, .slice (some ⟨bc, oc, none⟩) (entD B en).ctors.length cc, u5, u6] rfl (bZ h2C) ?_;refine ldN [va, vo] rfl (bZ h9C) ?_;refine ab' (rD' hB (cx0 := cp0) (n0 := n) (ys := ga) hcp hla (by omega) hXC (by simp) (by simp) (by omega) hLC hTC (fun i y hy => by rw [hcl]; exact hgaF i y hy) hsF hF.s2 hF.sort ⟨h0, h1⟩ hnp hC.args hEC hCC) ?_;rintro e wD ⟨he, kCD⟩;have k0D : Kp [bl] w wD := k0C.trans kCD fun x hx hl => by
   simp at hx;rcases hx with rfl | rfl
   ·simp
   ·omega
  have k9D : Kp [bl] w9 wD := (k9C.weak (by simp)).trans kCD fun x hx hl => by
   simp at hx;rcases hx with rfl | rfl
   ·simp
   ·omega
  cases hAr : ga' B en ga cp0 n with
  | error er =>
   rw [hAr] at he hr;have hr : RES = .error er := hr;subst hr;obtain ⟨rfl, her, hLD⟩ := he;exact ⟨⟨_, rfl⟩, ⟨her, fin (by simp) hLD⟩, k0D⟩
  | ok q4 =>
  obtain ⟨cx4, n4⟩ := q4;rw [hAr] at he hr;have hr : RES = bdJ (nH' B en go ga.length cx4 go 0 n4) fun _ n => dQ' B en cp0 ((entD B en).ctors.drop (k + 1)) n := hr;obtain ⟨rfl, hLD, hTD⟩ := he;have hcx4 : CxOk B cx4 := ni' ga cp0 n (cx4, n4) hcp (fun i y hy => by rw [hcl]; exact hgaF i y hy) hAr;have hcl4 : cx4.length = ps.length + ga.length := by
   have := na' _ _ _ _ hAr;simp only at this;rw [this];simp [hcl]
  have hXD : ∀ b ∈ [b10, b6, bl], b < wD.heap.size := xU hXC kCD;have h2D := h2C.kp kCD (by simp; omega);have h9D := h9C.kp kCD (by simp; omega);have hED : EnV (Im [b10, b6, bl] wD) (entD B en) (.agg #[.int .i64 (entD B en).kind, .slice asr (row s).length csr, .slice ap ps.length cp, .slice aq qi.length cq, .slice (some ⟨bc, oc, none⟩) (entD B en).ctors.length cc, u5, u6]) := hEn.mono fun _ _ _ h => iz' k0D (by simp) hYC h;have hCD : CtV (Im [b10, b6, bl] wD) ct (.agg #[va, vo]) := hCt.mono fun _ _ _ h => iz' k0D (by simp) hYC h;refine ldN [.int .i64 (entD B en).kind, .slice asr (row s).length csr, .slice ap ps.length cp, .slice aq qi.length cq, .slice (some ⟨bc, oc, none⟩) (entD B en).ctors.length cc, u5, u6] rfl (bZ h2D) ?_;refine ldN [va, vo] rfl (bZ h9D) ?_;refine ab' (tI' hB (cx := cx4) (n0 := n4) hcx4 hXD (by simp) (by simp) (by omega) hLD hTD (qi := qi) (ga := ga) (go := go) (np := ps.length) hcl4 hlp hla hqF hgoF hli hlo hF.indices e2 hC.args hC.out hED hCD) ?_;rintro e wE ⟨he, kDE⟩;have k0E : Kp [bl] w wE := k0D.trans kDE fun x hx _ => hx;have k9E : Kp [bl] w9 wE := k9D.trans kDE fun x hx _ => hx;cases hOu : nH' B en go ga.length cx4 go 0 n4 with
  | error er =>
   rw [hOu] at he hr;have hr : RES = .error er := hr;subst hr;obtain ⟨rfl, her, hLE⟩ := he;exact ⟨⟨_, rfl⟩, ⟨her, fin (by simp) hLE⟩, k0E⟩
  | ok q5 =>
  rw [hOu] at he hr;have hr : RES = dQ' B en cp0 ((entD B en).ctors.drop (k + 1)) q5.2 := hr;obtain ⟨rfl, hLE⟩ := he;have hTE : TlC (Im [b6, bl] wE) wE b6 bl cp0 := hT9.kb k9E (by simp) (by omega);refine i6 ?_;exact ⟨(k + 1, q5.2), by simp only; omega, rfl, ⟨rfl, rfl, rfl, rfl, rfl, rfl, trivial⟩, hlt, hr, hLE.less fun y hy => by simp at hy ⊢; omega, hTE, k89.trans k9E fun x hx _ => hx⟩
 ·have c : ¬ (k : Int) < (entD B en).ctors.length := c
  rw [List.drop_eq_nil_of_le (by omega)] at hr;subst hr;exact ⟨⟨_, rfl⟩, fin (by simp) hL9, k09⟩
theorem bI' {C : Mem} (hS : Sub C w) (hold : ∀ b o v, C b o v -> b < w.heap.size) {vb : Value} (hvb : BoV C B vb) (fuel : Int) :
  CC 12 #[vb, .int .i64 en, .int .i64 fuel] w (fun e w' => mS' (cC' B en fuel) (fun q => e = .returned (.tuple #[.int .i64 (q.2 : Int), .int .i64 0])) (fun er => e = .returned (.tuple #[.int .i64 0, .int .i64 er]) /\ er ≠ 0) /\ Kp [] w w') := by
 refine oF Tryz.func12 ?_;obtain ⟨RES, hRES⟩ : ∃ r, cC' B en fuel = r := ⟨_, rfl⟩
 rw [hRES];unfold cC' at hRES;have hvv := hvb;obtain ⟨v1, v2, v3, rfl, hO, hE, hP⟩ := hvb;refine cO (args := [_, _, _]) 33 [.tmp 6, .tmp 7] τok Tryz.func12 ?_;refine new fun b3 w1 hb3 h3 hs1 hk1 => ?_;have h3 : Bk w1.heap b3 [.int .i64 B.vars, v1, v2, .int .i64 B.nat, v3] 26 := h3;refine ldN [.int .i64 B.vars, v1, v2, .int .i64 B.nat, v3] rfl (bZ h3) ?_;refine ab' (pT' (hS.tr hk1) (Kp.hold hk1 hold) hvv en) ?_;rintro r w2 ⟨rfl, hk2⟩;have k02 := hk1.tr hk2;have h3 := h3.kp hk2 (by simp)
 by_cases g : aQ' B en ≠ 0
 ·rw [if_pos g] at hRES
  subst hRES;refine au' g ?_;exact ⟨⟨rfl, g⟩, k02⟩
 rw [if_neg g] at hRES;refine bO' g ?_;refine ldN [.int .i64 B.vars, v1, v2, .int .i64 B.nat, v3] rfl (bZ h3) ?_;refine nk' ?_;refine kZ' ?_;obtain ⟨n, hn, hn1⟩ : ∃ n : Nat, min (max fuel 0) 100000 = (n : Int) /\ aS' fuel = n := ⟨_, by unfold aS'; omega, rfl⟩
 rw [hn];rw [hn1] at hRES;refine new fun bl w3 hbl hL hs3 hk3 => ?_;have hL : Bk w3.heap bl [.int .i64 B.vars, v1, v2, .int .i64 B.nat, v3, .int .i64 en, .int .i64 (n : Int), .int .i64 0] 74 := hL;have k03 := k02.tr hk3;have hbl : bl = w2.heap.size := hbl;have l2 := k02.size;have up : ∀ b o v, C b o v -> Im [bl] w3 b o v := fun b o v h => ⟨hS.tr k03 _ _ _ h, fun hm => by
  have := hold _ _ _ h;simp at hm;omega⟩
 have hLk : LkC (Im [bl] w3) w3 bl B en n 0 := ⟨v1, v2, v3, hL, hO.mono up, hE.mono up, hP.mono up⟩
 refine ab' (tJ' (Decidable.not_not.1 g) hLk) ?_;rintro e w4 ⟨⟨v, rfl⟩, hA, k34⟩;have k04 : Kp [] w w4 := k03.trans k34 fun x hx hl => by
  simp at hx;omega
 cases hr : tE' B en n with
 | error er =>
  rw [hr] at hA hRES;subst hRES;obtain ⟨her, w1', w2', w3', hl4, _⟩ := hA;refine ar' τok (fun z => Kp [] w4 z) ?_;refine rV τok [0, 1, 2, 3, 4, 5, 6, 7, 8, 9] 0 (mB 10 []) ((Kp.refl [] w4).dr _) ?_;refine lk hl4 ?_;refine lk hl4 ?_;refine dV ?_;exact ⟨⟨rfl, her⟩, k04.dr _⟩
 | ok q =>
  rw [hr] at hA hRES;subst hRES;obtain ⟨w1', w2', w3', hl4, _⟩ := hA;refine ar' τok (fun z => Kp [] w4 z) ?_;refine rV τok [0, 1, 2, 3, 4, 5, 6, 7, 8, 9] 0 (mB 10 []) ((Kp.refl [] w4).dr _) ?_;refine lk hl4 ?_;refine lk hl4 ?_;refine dV ?_;exact ⟨rfl, k04.dr _⟩
end
def rT : List Nd := [⟨2, 1, 1⟩, ⟨3, 0, 0⟩]
def rI : List Nd := [⟨9, 0, 0⟩]
def rX : List Nd := [⟨4, 0, 0⟩, ⟨9, 0, 0⟩, ⟨9, 0, 0⟩]
def enB (r : List Nd) : EnT := { kind := 1, sort := rT, params := [], indices := [], ctors := [⟨[], []⟩, ⟨[r], []⟩], type := [], body := [] }
def BN (r : List Nd) (nat : Int) : BoT := ⟨0, [], [enB r], nat, []⟩
theorem pY' : cC' (BN rI 0) 0 9 = .ok ((), 9) := by kernel_rfl
theorem rF' : cC' (BN rX (-1)) 0 9 = .error 20 := by kernel_rfl
theorem rG' : ff' (BN rX (-1)) 0 = (false, 0) := by kernel_rfl
def jz' (lim : Int) : List (List Nd) -> Int -> Int
 | [], a => a
 | l :: r, a => if a < lim then jz' lim r (a + 1 + (l.length : Int)) else a
def szC (lim : Int) : List CtT -> Int -> Int
 | [], a => a
 | c :: r, a => if a < lim then szC lim r (a + 1 + jz' lim c.args 0 + jz' lim c.out 0) else a
def szE (lim : Int) : List EnT -> Int -> Int
 | [], a => a
 | x :: r, a => if a < lim then szE lim r (szC lim x.ctors (a + 1 + (x.sort.length : Int) + (x.type.length : Int) + (x.body.length : Int) + jz' lim x.params 0 + jz' lim x.indices 0)) else a
def tK' (B : BoT) (lim : Int) : Int := szE lim B.ents ((B.orders.length : Int) + (B.prims.length : Int))
theorem tL' {lim a : Int} (h : ¬ a < lim) : ∀ (l : List (List Nd)), jz' lim l a = a
 | [] => rfl
 | l :: r => by simp only [jz']; rw [if_neg h]
theorem rH' {lim a : Int} (h : ¬ a < lim) : ∀ (l : List CtT), szC lim l a = a
 | [] => rfl
 | l :: r => by simp only [szC]; rw [if_neg h]
theorem rI' {lim a : Int} (h : ¬ a < lim) : ∀ (l : List EnT), szE lim l a = a
 | [] => rfl
 | l :: r => by simp only [szE]; rw [if_neg h]
section
variable {C : Mem} {w : World} {B : BoT}
theorem gj' (hS : Sub C w) {ls : List (List Nd)} {vl : Value} (hl : SV (rSk rNd) C ls vl) {lim : Int} (h0 : 0 <= lim /\ lim <= 100000) :
  CC 29 #[vl, .int .i64 lim] w (fun e w' => (e = .returned (.int .i64 (jz' lim ls 0)) /\ 0 <= jz' lim ls 0 /\ jz' lim ls 0 <= 1200000000000) /\ Kp [] w w') := by
 refine oF Tryz.func29 ?_;obtain ⟨RES, hRES⟩ : ∃ r, jz' lim ls 0 = r := ⟨_, rfl⟩
 rw [hRES];have hll := hl;obtain ⟨al, cl, rfl, hl1, hl2⟩ := hl;have l1 := hl1.1;refine cO (args := [_, _]) 27 [.tmp 4] τok Tryz.func29 ?_;refine lp τok (σ := Nat × Int) (fun q => [(0, .slice al ls.length cl), (1, .int .i64 lim), (5, .int .i64 q.2), (6, .int .i64 (q.1 : Int))])
  (fun q w' => q.1 <= ls.length /\ 0 <= q.2 /\ q.2 <= 1200000000000 /\ Kp [] w w' /\ jz' lim (ls.drop q.1) q.2 = RES) (fun q => ls.length - q.1) (0, 0) rfl
  ⟨rfl, rfl, rfl, rfl, trivial⟩ ⟨Nat.zero_le _, Int.le_refl _, by decide, Kp.refl _ _, hRES⟩ ?_
 clear hRES
 rintro ⟨i, a⟩ w1 ⟨hi, ha0, ha1, hk1, hres⟩;simp only at hi ha0 ha1 hres;have fin : jz' lim (ls.drop i) a = a -> (Ending.returned (Go.Wx.one [.int .i64 a]) = .returned (.int .i64 RES) /\ 0 <= RES /\ RES <= 1200000000000) /\ Kp [] w w1 := fun h => by
  rw [h] at hres;subst hres;exact ⟨⟨rfl, ha0, ha1⟩, hk1⟩
 refine ac' (fun g => ?_) (fun g => ?_)
 ·have g : (i : Int) < (ls.length : Int) := g
  refine ac' (fun g2 => ?_) (fun g2 => ?_)
  ·have g2 : a < lim := g2
   obtain ⟨l, hl, hd⟩ := af' (l := ls) (k := i) (by omega);rw [hd] at hres;simp only [jz'] at hres;rw [if_pos g2] at hres;obtain ⟨b, o, c, pc, u, hu, hsu⟩ := pL' hll hl;injection pc with q1 q2 q3
   subst q1 q3;obtain ⟨au, cu, rfl, hu1, _⟩ := id hsu;have lu := hu1.1;refine i6 ?_;refine ix i rfl (by omega) ?_;refine ld (Cl.cell (hS.tr hk1 _ _ _ hu)) ?_;refine i6 ?_;refine i6 ?_;exact ⟨(i + 1, a + 1 + (l.length : Int)), by simp only; omega, rfl, ⟨rfl, rfl, rfl, rfl, trivial⟩, by show i + 1 <= _; omega, by simp only; omega, by simp only; omega, hk1, hres⟩
  ·have g2 : ¬ a < lim := g2
   exact fin (tL' g2 _)
 ·have g : ¬ (i : Int) < (ls.length : Int) := g
  exact fin (by rw [List.drop_eq_nil_of_le (by omega)]; rfl)
theorem pZ' (hS : Sub C w) {vb : Value} (hvb : BoV C B vb) {lim : Int} (h0 : 0 <= lim /\ lim <= 100000) :
  CC 11 #[vb, .int .i64 lim] w (fun e w' => e = .returned (.int .i64 (tK' B lim)) /\ Kp [] w w') := by
 refine oF Tryz.func11 ?_;obtain ⟨RES, hRES⟩ : ∃ r, tK' B lim = r := ⟨_, rfl⟩
 rw [hRES];unfold tK' at hRES;obtain ⟨v1, v2, v3, rfl, hO, hE, hP⟩ := hvb;obtain ⟨ao, co, rfl, hO1, _⟩ := id hO;obtain ⟨ae, ce, rfl, hE1, _⟩ := id hE;obtain ⟨ap, cp, rfl, hP1, _⟩ := id hP;have lO := hO1.1;have lE := hE1.1;have lP := hP1.1;refine cO (args := [_, _]) 90 [.tmp 4] τok Tryz.func11 ?_;refine new fun b2 w1 hb2 h2 hs1 hk1 => ?_;have h2 : Bk w1.heap b2 [.int .i64 B.vars, .slice ao B.orders.length co, .slice ae B.ents.length ce, .int .i64 B.nat, .slice ap B.prims.length cp] 26 := h2;refine lb h2 ?_;refine lb h2 ?_;refine i6 ?_;refine lp τok (σ := Nat × Int) (fun q => [(1, .int .i64 lim), (2, pt b2), (5, .int .i64 q.2), (6, .int .i64 (q.1 : Int))])
  (fun q w' => q.1 <= B.ents.length /\ 0 <= q.2 /\ q.2 <= 100000000000000 /\ Kp [] w1 w' /\ szE lim (B.ents.drop q.1) q.2 = RES) (fun q => B.ents.length - q.1) (0, (B.orders.length : Int) + (B.prims.length : Int)) rfl
  ⟨rfl, rfl, rfl, rfl, trivial⟩ ⟨Nat.zero_le _, by simp only; omega, by simp only; omega, Kp.refl _ _, hRES⟩ ?_
 clear hRES
 rintro ⟨i, a⟩ w2 ⟨hi, ha0, ha1, hk2, hres⟩;simp only at hi ha0 ha1 hres;have k02 := hk1.tr hk2;have h22 := h2.kp hk2 (by simp);have fin : szE lim (B.ents.drop i) a = a -> Ending.returned (Go.Wx.one [.int .i64 a]) = .returned (.int .i64 RES) /\ Kp [] w w2 := fun h => by
  rw [h] at hres;subst hres;exact ⟨rfl, k02⟩
 refine lb h22 ?_;refine ac' (fun g => ?_) (fun g => ?_)
 ·have g : (i : Int) < (B.ents.length : Int) := g
  refine ac' (fun g2 => ?_) (fun g2 => ?_)
  ·have g2 : a < lim := g2
   obtain ⟨x, hx, hd⟩ := af' (l := B.ents) (k := i) (by omega);rw [hd] at hres;simp only [szE] at hres;rw [if_pos g2] at hres;obtain ⟨be, oe, ce', pe, hat⟩ := hE.at hx;obtain ⟨w1e, w2e, w3e, w4e, w5e, w6e, hcs, hki, hso, hpa, hin, hct, hty, hbo⟩ := eg' hat;injection pe with q1 q2 q3
   subst q1 q3;obtain ⟨as_, cs_, rfl, hso1, _⟩ := id hso;obtain ⟨apa, cpa, rfl, hpa1, _⟩ := id hpa;obtain ⟨ain, cin, rfl, hin1, _⟩ := id hin;obtain ⟨act, cct, rfl, hct1, _⟩ := id hct;obtain ⟨aty, cty, rfl, hty1, _⟩ := id hty;obtain ⟨abo, cbo, rfl, hbo1, _⟩ := id hbo;have m1 := hso1.1;have m2 := hct1.1;have m3 := hty1.1;have m4 := hbo1.1;refine lb h22 ?_;refine ix i rfl (by omega) ?_;refine ldN _ rfl (fun j u hj => (hS.tr k02) _ _ _ (hcs j u hj)) ?_;refine new fun b7 w3 hb7 h7 hs3 hk3 => ?_;refine stN (vs := [.int .i64 x.kind, .slice as_ x.sort.length cs_, .slice apa x.params.length cpa, .slice ain x.indices.length cin, .slice act x.ctors.length cct, .slice aty x.type.length cty, .slice abo x.body.length cbo]) h7 rfl (by simp [Value.oneCell']) fun w4 h7 hs4 hk4 => ?_;have k24 := hk3.newSt hb7 hk4;have k04 := k02.tr k24;have h7 : Bk w4.heap b7 [.int .i64 x.kind, .slice as_ x.sort.length cs_, .slice apa x.params.length cpa, .slice ain x.indices.length cin, .slice act x.ctors.length cct, .slice aty x.type.length cty, .slice abo x.body.length cbo] 39 := h7;refine ar' τok (fun z => Kp [] w4 z) ?_;refine rV τok [0, 1, 2, 3, 4, 5, 6, 7, 8, 9, 10, 11, 12, 13, 14, 15, 16, 19, 20, 21] 5 (mB 25 [17, 18, 22, 23, 24]) ((Kp.refl [] w4).dr _) ?_;refine i6 ?_;refine lk h7 ?_;refine i6 ?_;refine lk h7 ?_;refine i6 ?_;refine lk h7 ?_;refine i6 ?_;refine lk h7 ?_;refine lk h7 ?_;refine nV τok 17 4 (mB 25 [18, 22, 23, 24]) ?_;refine ab' (gj' (w := { w4 with drawn := w4.drawn + 1 }) (hS.tr (k04.dr _)) hpa h0) ?_;rintro e w5 ⟨⟨rfl, p0, p1⟩, hk5⟩;have hk5 : Kp [] w4 w5 := hk5.rd;refine ⟨.inl hk5, ?_⟩;refine rV τok [18] 3 (mB 25 [22, 23, 24]) hk5 ?_;refine i6 ?_;refine nV τok 22 2 (mB 25 [23, 24]) ?_;refine ab' (gj' (hS.tr (k04.tr hk5)) hin h0) ?_;rintro e w6 ⟨⟨rfl, i0, i1⟩, hk6⟩;have k46 := hk5.tr hk6;refine ⟨.inl k46, ?_⟩;refine rV τok [23, 24] 0 (mB 25 []) k46 ?_;refine i6 ?_;refine dV ?_;obtain ⟨a1, ha1'⟩ : ∃ a1, a1 = a + 1 + (x.sort.length : Int) + (x.type.length : Int) + (x.body.length : Int) + jz' lim x.params 0 + jz' lim x.indices 0 := ⟨_, rfl⟩
   rw [<- ha1'] at hres ⊢;have k06 := k04.tr k46;have h7 := h7.kp k46 (by simp);obtain ⟨RC, hRC⟩ : ∃ r, szC lim x.ctors a1 = r := ⟨_, rfl⟩
   rw [hRC] at hres;refine lp τok (σ := Nat × Int) (fun q => [(1, .int .i64 lim), (2, pt b2), (5, .int .i64 q.2), (6, .int .i64 (i : Int)), (7, pt b7), (8, .int .i64 (q.1 : Int))])
    (fun q w' => q.1 <= x.ctors.length /\ 0 <= q.2 /\ q.2 <= 100000000000000 /\ Kp [] w6 w' /\ szC lim (x.ctors.drop q.1) q.2 = RC) (fun q => x.ctors.length - q.1) (0, a1) rfl
    ⟨rfl, rfl, rfl, rfl, rfl, rfl, trivial⟩ ⟨Nat.zero_le _, by simp only; omega, by simp only; omega, Kp.refl _ _, hRC⟩ ?_
   clear hRC
   rintro ⟨j, a2⟩ w7 ⟨hj, hj0, hj1, hk7, hRC⟩;simp only at hj hj0 hj1 hRC;have k07 := k06.tr hk7;have h77 := h7.kp hk7 (by simp);refine lb h77 ?_;have k17 : Kp [] w1 w7 := (hk2.tr k24).tr (k46.tr hk7);have next : szC lim (x.ctors.drop j) a2 = a2 -> a2 = RC := fun h => by rw [<- hRC, h]
   refine ac' (fun y1 => ?_) (fun y1 => ?_)
   ·have y1 : (j : Int) < (x.ctors.length : Int) := y1
    refine ac' (fun y2 => ?_) (fun y2 => ?_)
    ·have y2 : a2 < lim := y2
     obtain ⟨c, hc, hd⟩ := af' (l := x.ctors) (k := j) (by omega);rw [hd] at hRC;simp only [szC] at hRC;rw [if_pos y2] at hRC;obtain ⟨bc, oc, cc', pc, hca⟩ := hct.at hc;obtain ⟨va, vo, hccs, hva, hvo⟩ := fp' hca;injection pc with q1 q2 q3
     subst q1 q3;obtain ⟨aa, ca, rfl, _, _⟩ := id hva;obtain ⟨aoo, coo, rfl, _, _⟩ := id hvo;have hS7 := hS.tr k07;refine ar' τok (fun z => Kp [] w7 z) ?_;refine rV τok [0, 1, 2, 3, 4, 5, 6, 7, 8, 11, 12, 13, 14, 15, 16, 17] 5 (mB 21 [9, 10, 18, 19, 20]) ((Kp.refl [] w7).dr _) ?_;refine i6 ?_;refine lk h77 ?_;refine ix j rfl (by omega) ?_;refine ldK (hS7 _ _ _ (hccs 0 _ rfl)) ?_;refine lk h77 ?_;refine ix j rfl (by omega) ?_;refine ldK (hS7 _ _ _ (hccs 1 _ rfl)) ?_;refine nV τok 9 4 (mB 21 [10, 18, 19, 20]) ?_;refine ab' (gj' (w := { w7 with drawn := w7.drawn + 1 }) (hS.tr (k07.dr _)) hva h0) ?_;rintro e w8 ⟨⟨rfl, s0, s1⟩, hk8⟩;have hk8 : Kp [] w7 w8 := hk8.rd;refine ⟨.inl hk8, ?_⟩;refine rV τok [10] 3 (mB 21 [18, 19, 20]) hk8 ?_;refine i6 ?_;refine nV τok 18 2 (mB 21 [19, 20]) ?_;refine ab' (gj' (hS7.tr hk8) hvo h0) ?_;rintro e w9 ⟨⟨rfl, t0, t1⟩, hk9⟩;have k79 := hk8.tr hk9;refine ⟨.inl k79, ?_⟩;refine rV τok [19, 20] 0 (mB 21 []) k79 ?_;refine i6 ?_;refine dV ?_;refine i6 ?_;exact ⟨(j + 1, a2 + 1 + jz' lim c.args 0 + jz' lim c.out 0), by simp only; omega, rfl, ⟨rfl, rfl, rfl, rfl, rfl, rfl, trivial⟩, by show j + 1 <= _; omega, by simp only; omega, by simp only; omega, hk7.tr k79, hRC⟩
    ·have y2 : ¬ a2 < lim := y2
     have := next (rH' y2 _);refine i6 ?_;exact ⟨(i + 1, a2), by simp only; omega, rfl, ⟨rfl, rfl, rfl, rfl, trivial⟩, by show i + 1 <= _; omega, hj0, hj1, k17, by simp only; rw [this]; exact hres⟩
   ·have y1 : ¬ (j : Int) < (x.ctors.length : Int) := y1
    have := next (by rw [List.drop_eq_nil_of_le (by omega)]; rfl);refine i6 ?_;exact ⟨(i + 1, a2), by simp only; omega, rfl, ⟨rfl, rfl, rfl, rfl, trivial⟩, by show i + 1 <= _; omega, hj0, hj1, k17, by simp only; rw [this]; exact hres⟩
  ·have g2 : ¬ a < lim := g2
   exact fin (rI' g2 _)
 ·have g : ¬ (i : Int) < (B.ents.length : Int) := g
  exact fin (by rw [List.drop_eq_nil_of_le (by omega)]; rfl)
end
section
variable {w : World}
theorem qa' {α : Type} {R : Rd α} {b T : Nat} {x : α} {cs : List Value} (hb : Bk w.heap b cs T) (hd : R.den (Im [] w) cs x) : SV R (Im [] w) [x] (.slice (some ⟨b, 0, none⟩) 1 1) := by
 refine ⟨_, _, rfl, ⟨by simp, .inr ⟨b, 0, rfl, fun i y hy => ?_⟩⟩, by simp⟩
 match i, hy with
 | 0, hy =>
  obtain rfl : x = y := by simpa using hy
  refine ⟨cs, hd, fun j v hj => ⟨?_, by simp⟩⟩;rw [Nat.zero_mul, Nat.add_zero, Nat.zero_add];exact hb.cl hj
 | i + 1, hy => simp at hy
theorem sr' {α : Type} {R : Rd α} {b T : Nat} {x y : α} {cs ds : List Value} (hb : Bk w.heap b (cs ++ ds) T) (hd : R.den (Im [] w) cs x) (he : R.den (Im [] w) ds y) : SV R (Im [] w) [x, y] (.slice (some ⟨b, 0, none⟩) 2 2) := by
 have hl := R.len hd;refine ⟨_, _, rfl, ⟨by simp, .inr ⟨b, 0, rfl, fun i z hz => ?_⟩⟩, by simp⟩
 match i, hz with
 | 0, hz =>
  obtain rfl : x = z := by simpa using hz
  refine ⟨cs, hd, fun j v hj => ⟨?_, by simp⟩⟩;rw [Nat.zero_mul, Nat.add_zero, Nat.zero_add];exact hb.cl (by rw [List.getElem?_append_left (ai' hj)]; exact hj)
 | 1, hz =>
  obtain rfl : y = z := by simpa using hz
  refine ⟨ds, he, fun j v hj => ⟨?_, by simp⟩⟩;rw [Nat.one_mul, Nat.zero_add];exact hb.cl (by rw [List.getElem?_append_right (by omega), hl, Nat.add_sub_cancel_left]; exact hj)
 | i + 2, hz => simp at hz
theorem rJ' {b : Nat} (hx : Bk w.heap b [.int .i64 4, .int .i64 0, .int .i64 0, .int .i64 9, .int .i64 0, .int .i64 0, .int .i64 9, .int .i64 0, .int .i64 0] 43) : SV rNd (Im [] w) rX (.slice (some ⟨b, 0, none⟩) 3 3) := by
 refine ⟨_, _, rfl, ⟨by simp [rX], .inr ⟨b, 0, rfl, fun i m hm => ?_⟩⟩, Nat.le_refl _⟩
 match i, hm with
 | 0, hm =>
  obtain rfl : (⟨4, 0, 0⟩ : Nd) = m := by simpa [rX] using hm
  exact ⟨_, ⟨rfl, ⟨by simp, by simp⟩, ⟨by simp, by simp⟩, ⟨by simp, by simp⟩⟩, fun j u hj => ⟨hx.cl (by
   match j, hj with
   | 0, hj => exact hj
   | 1, hj => exact hj
   | 2, hj => exact hj
   | j + 3, hj => simp at hj), by simp⟩⟩
 | 1, hm =>
  obtain rfl : (⟨9, 0, 0⟩ : Nd) = m := by simpa [rX] using hm
  exact ⟨_, ⟨rfl, ⟨by simp, by simp⟩, ⟨by simp, by simp⟩, ⟨by simp, by simp⟩⟩, fun j u hj => ⟨hx.cl (by
   match j, hj with
   | 0, hj => exact hj
   | 1, hj => exact hj
   | 2, hj => exact hj
   | j + 3, hj => simp at hj), by simp⟩⟩
 | 2, hm =>
  obtain rfl : (⟨9, 0, 0⟩ : Nd) = m := by simpa [rX] using hm
  exact ⟨_, ⟨rfl, ⟨by simp, by simp⟩, ⟨by simp, by simp⟩, ⟨by simp, by simp⟩⟩, fun j u hj => ⟨hx.cl (by
   match j, hj with
   | 0, hj => exact hj
   | 1, hj => exact hj
   | 2, hj => exact hj
   | j + 3, hj => simp at hj), by simp⟩⟩
 | i + 3, hm => simp [rX] at hm
def vM' (w : World) (b3 b7 b9 b11 : Nat) (vr : Value) : Prop :=
 Bk w.heap b3 [.int .i64 2, .int .i64 1, .int .i64 1, .int .i64 3, .int .i64 0, .int .i64 0] 43 /\ Bk w.heap b7 [vr] 35 /\ Bk w.heap b9 [.slice none 0 0, .slice none 0 0, .slice (some ⟨b7, 0, none⟩) 1 1, .slice none 0 0] 41 /\
  Bk w.heap b11 [.int .i64 1, .slice (some ⟨b3, 0, none⟩) 2 2, .slice none 0 0, .slice none 0 0, .slice (some ⟨b9, 0, none⟩) 2 2, .slice none 0 0, .slice none 0 0] 39
theorem rT_v {b3 : Nat} (h : Bk w.heap b3 [.int .i64 2, .int .i64 1, .int .i64 1, .int .i64 3, .int .i64 0, .int .i64 0] 43) : SV rNd (Im [] w) rT (.slice (some ⟨b3, 0, none⟩) 2 2) :=
 sr' (cs := [.int .i64 2, .int .i64 1, .int .i64 1]) (ds := [.int .i64 3, .int .i64 0, .int .i64 0]) h ⟨rfl, ⟨by simp, by simp⟩, ⟨by simp, by simp⟩, ⟨by simp, by simp⟩⟩ ⟨rfl, ⟨by simp, by simp⟩, ⟨by simp, by simp⟩, ⟨by simp, by simp⟩⟩
theorem uW' {b3 b7 b9 b11 : Nat} {vr : Value} {r : List Nd} {nat : Int} (h : vM' w b3 b7 b9 b11 vr) (hr : SV rNd (Im [] w) r vr) : BoV (Im [] w) (BN r nat) (.agg #[.int .i64 0, .slice none 0 0, .slice (some ⟨b11, 0, none⟩) 1 1, .int .i64 nat, .slice none 0 0]) := by
 obtain ⟨h3, h7, h9, h11⟩ := h;refine ⟨_, _, _, rfl, SV.nil _ _, qa' h11 ?_, SV.nil _ _⟩;obtain ⟨ar, cr, rfl, hr1, hr2⟩ := hr;have h71 : SV (rSk rNd) (Im [] w) [r] (.slice (some ⟨b7, 0, none⟩) 1 1) := qa' h7 ⟨_, _, rfl, hr2, hr1⟩;refine ⟨_, _, _, _, _, _, rfl, ⟨by simp [enB], by simp [enB]⟩, rT_v h3, SV.nil _ _, SV.nil _ _, ?_, SV.nil _ _, SV.nil _ _⟩;exact sr' (cs := [.slice none 0 0, .slice none 0 0]) (ds := [.slice (some ⟨b7, 0, none⟩) 1 1, .slice none 0 0]) h9 ⟨_, _, rfl, SV.nil _ _, SV.nil _ _⟩ ⟨_, _, rfl, h71, SV.nil _ _⟩
theorem qb' (w : World) :
  CC 28 #[] w (fun e w' => (∃ b3 b6 b7 b9 b11, e = .returned (.agg #[.int .i64 0, .slice none 0 0, .slice (some ⟨b11, 0, none⟩) 1 1, .int .i64 0, .slice none 0 0]) /\ vM' w' b3 b7 b9 b11 (.slice (some ⟨b6, 0, none⟩) 1 1) /\ Bk w'.heap b6 [.int .i64 9, .int .i64 0, .int .i64 0] 43 /\ w.heap.size <= b3 /\ b3 < b6 /\ b6 < b7 /\ b7 < b9 /\ b9 < b11) /\ Kp [] w w') := by
 refine oF Tryz.func28 ?_;refine cO (args := []) 13 [.cell 0 26] τok Tryz.func28 ?_;refine new fun b0 w0 hb0 h0 hs0 hk0 => ?_;refine fill [.int .i64 2, .int .i64 1, .int .i64 1, .int .i64 3, .int .i64 0, .int .i64 0] rfl ?_;refine new fun b3 w1 hb3 h3 hs1 hk1 => ?_;refine fill [.int .i64 9, .int .i64 0, .int .i64 0] rfl ?_;refine new fun b6 w2 hb6 h6 hs2 hk2 => ?_;refine fill [.slice (some ⟨b6, 0, none⟩) 1 1] rfl ?_;refine new fun b7 w3 hb7 h7 hs3 hk3 => ?_;refine fill [.slice none 0 0, .slice none 0 0, .slice (some ⟨b7, 0, none⟩) 1 1, .slice none 0 0] rfl ?_;refine new fun b9 w4 hb9 h9 hs4 hk4 => ?_;refine fill [.int .i64 1, .slice (some ⟨b3, 0, none⟩) 2 2, .slice none 0 0, .slice none 0 0, .slice (some ⟨b9, 0, none⟩) 2 2, .slice none 0 0, .slice none 0 0] rfl ?_;refine new fun b11 w5 hb11 h11 hs5 hk5 => ?_;have k45 := hk5;have k35 := hk4.tr k45;have k25 := hk3.tr k35;have k15 := hk2.tr k25;have k05 := hk1.tr k15;refine stN (vs := [.int .i64 0, .slice none 0 0, .slice (some ⟨b11, 0, none⟩) 1 1, .int .i64 0, .slice none 0 0]) (h0.kp k05 (by simp)) rfl (by simp [Value.oneCell']) fun w6 h06 hs6 hk6 => ?_;refine lY' τok rfl [_, _, _, _, _] rfl (fun j v hj => h06.cl hj) ?_;have z0 : b0 = w.heap.size := hb0;have z3 : b3 = w0.heap.size := hb3;have z6 : b6 = w1.heap.size := hb6;have z7 : b7 = w2.heap.size := hb7;have z9 : b9 = w3.heap.size := hb9;have z11 : b11 = w4.heap.size := hb11;refine ⟨⟨b3, b6, b7, b9, b11, rfl, ⟨(h3.kp k15 (by simp)).kp hk6 (by simp; omega), (h7.kp k35 (by simp)).kp hk6 (by simp; omega), (h9.kp k45 (by simp)).kp hk6 (by simp; omega), h11.kp hk6 (by simp; omega)⟩, (h6.kp k25 (by simp)).kp hk6 (by simp; omega), by omega, by omega, by omega, by omega, by omega⟩, (hk0.tr k05).newSt hb0 hk6⟩
theorem kQ' (w : World) :
  CC 10 #[] w (fun e w' => e = .returned (.bool true) /\ Kp [] w w') := by
 refine oF Tryz.func10 ?_;refine cO (args := []) 56 [.tmp 0] τok Tryz.func10 ?_;refine ab' (qb' w) ?_;rintro e w1 ⟨⟨b3, b6, b7, b9, b11, rfl, hN, h6, _⟩, hk1⟩;have hrI : SV rNd (Im [] w1) rI (.slice (some ⟨b6, 0, none⟩) 1 1) := qa' h6 ⟨rfl, ⟨by simp, by simp⟩, ⟨by simp, by simp⟩, ⟨by simp, by simp⟩⟩;refine ab' (bI' (w := w1) (en := 0) (Im.sub [] w1) (fun _ _ _ h => h.hold) (uW' (nat := 0) hN hrI) 9) ?_;rintro e w2 ⟨he, hk2⟩;rw [pY'] at he;obtain rfl := he;refine ab' (qb' w2) ?_;rintro e w3 ⟨⟨c3, c6, c7, c9, c11, rfl, hN, g6, q1, q2, q3, q4, q5⟩, hk3⟩;refine new fun bb w4 hbb hb hs4 hk4 => ?_;refine stN (vs := [.int .i64 0, .slice none 0 0, .slice (some ⟨c11, 0, none⟩) 1 1, .int .i64 0, .slice none 0 0]) hb rfl (by simp [Value.oneCell']) fun w5 hb hs5 hk5 => ?_;have k35 := hk4.newSt hbb hk5;have zb : bb = w3.heap.size := hbb;obtain ⟨g3, g7, g9, g11⟩ := hN;have g3 := g3.kp k35 (by simp);have g7 := g7.kp k35 (by simp);have g9 := g9.kp k35 (by simp);have g11' := g11.lt;have g11 := g11.kp k35 (by simp);refine lb hb ?_;refine ix 0 rfl (by omega) ?_;refine lb g11 ?_;refine ix 1 rfl (by omega) ?_;refine lb g9 ?_;refine fill [.int .i64 4, .int .i64 0, .int .i64 0, .int .i64 9, .int .i64 0, .int .i64 0, .int .i64 9, .int .i64 0, .int .i64 0] rfl ?_;refine new fun bx w6 hbx hx hs6 hk6 => ?_;refine ix 0 rfl (by omega) ?_;refine st (b := c7) (o := 0) (g7.kp hk6 (by simp)) (by simp) rfl fun w7 g7 hs7 hk7 => ?_;have g7 : Bk w7.heap c7 [.slice (some ⟨bx, 0, none⟩) 3 3] 35 := g7;have zx : bx = w5.heap.size := hbx;have s5 := k35.size;refine st (b := bb) (o := 3) ((hb.kp hk6 (by simp)).kp hk7 (by simp; omega)) (by simp) rfl fun w8 hb hs8 hk8 => ?_;have hb : Bk w8.heap bb [.int .i64 0, .slice none 0 0, .slice (some ⟨c11, 0, none⟩) 1 1, .int .i64 (-1), .slice none 0 0] 26 := hb;have hL : vM' w8 c3 c7 c9 c11 (.slice (some ⟨bx, 0, none⟩) 3 3) := ⟨((g3.kp hk6 (by simp)).kp hk7 (by simp; omega)).kp hk8 (by simp; omega), g7.kp hk8 (by simp; omega), ((g9.kp hk6 (by simp)).kp hk7 (by simp; omega)).kp hk8 (by simp; omega), ((g11.kp hk6 (by simp)).kp hk7 (by simp; omega)).kp hk8 (by simp; omega)⟩
 have hx := (hx.kp hk7 (by simp; omega)).kp hk8 (by simp; omega);have hrX : SV rNd (Im [] w8) rX (.slice (some ⟨bx, 0, none⟩) 3 3) := rJ' hx;have hBX := uW' (nat := -1) hL hrX;refine ldN [.int .i64 0, .slice none 0 0, .slice (some ⟨c11, 0, none⟩) 1 1, .int .i64 (-1), .slice none 0 0] rfl (bZ hb) ?_;refine ab' (bI' (w := w8) (en := 0) (Im.sub [] w8) (fun _ _ _ h => h.hold) hBX 9) ?_;rintro e w9 ⟨he, hk9⟩;rw [rF'] at he;obtain ⟨rfl, _⟩ := he;have hb := hb.kp hk9 (by simp);refine ldN [.int .i64 0, .slice none 0 0, .slice (some ⟨c11, 0, none⟩) 1 1, .int .i64 (-1), .slice none 0 0] rfl (bZ hb) ?_;refine ab' (gY' (w := w9) (C := Im [] w8) ((Im.sub [] w8).tr hk9) (fun _ _ _ h => Nat.lt_of_lt_of_le h.hold hk9.size) hBX 0) ?_;rintro e w10 ⟨rfl, hk10⟩;rw [rG'];refine ⟨rfl, ?_⟩;have k23 : Kp [] w w3 := (hk1.tr hk2).tr hk3;have k8 : Kp [c7, bb] w3 w8 := ((((k35.tr hk6).weak (by simp)).trans hk7 fun x hx _ => by simp at hx; simp [hx])).trans hk8 fun x hx _ => by simp at hx; simp [hx]
 have s23 := k23.size;have s2 := (hk1.tr hk2).size;exact ((k23.trans k8 fun x hx hl => by simp at hx; omega).tr hk9).tr hk10
end
theorem jw' {f : Int} (h0 : 0 <= f) (h1 : f <= 100000) : aS' f = f.toNat := by unfold aS'; omega
theorem rK' {B : BoT} {e f : Int} {n : Nat} (h0 : 0 <= f) (h1 : f <= 1000) (h : cC' B e f = .ok ((), n)) :
  (n : Int) <= f /\ (∀ more : Int, 0 <= more -> more <= 1000 -> cC' B e (f + more) = .ok ((), n + more.toNat)) /\ (¬ (n : Int) = f -> cC' B e (f - n - 1) = .error 10) := by
 unfold cC' at h ⊢;split at h
 ·cases h
 rename_i g;rw [jw' h0 (by omega)] at h;obtain ⟨l, F⟩ := rB' B e f.toNat () n (by omega) h;refine ⟨by omega, fun more hm hm' => ?_, fun hn => ?_⟩
 ·rw [if_neg g, jw' (by omega) (by omega), (F _ (by omega)).1 (by omega)]
  congr 2
  omega
 ·rw [if_neg g, jw' (by omega) (by omega)]
  exact (F _ (by omega)).2 (by omega)
section
variable {w : World} {B : BoT}
theorem rL' {v : Value} (hv : BoV (Im [] w) B v) (en fuel : Int) {more : Int} (hm : 0 <= more /\ more <= 255) :
  CC 4 #[v, .int .i64 en, .int .i64 fuel, .int .u8 more] w (fun e w' => e = .returned (.bool true) /\ Kp [] w w') := by
 refine oF Tryz.func4 ?_;have hvv := hv;obtain ⟨v1, v2, v3, rfl, hO, hE, hP⟩ := hv;refine cO (args := [_, _, _, _]) 74 [.tmp 8] τok Tryz.func4 ?_;refine new fun b4 w1 hb4 h4 hs1 hk1 => ?_;have h4 : Bk w1.heap b4 [.int .i64 B.vars, v1, v2, .int .i64 B.nat, v3] 26 := h4;refine ab' (kQ' w1) ?_;rintro e w2 ⟨rfl, hk2⟩;have k02 := hk1.tr hk2;have h4 := h4.kp hk2 (by simp);refine ldN [.int .i64 B.vars, v1, v2, .int .i64 B.nat, v3] rfl (bZ h4) ?_;refine ab' (pZ' ((Im.sub [] w).tr k02) hvv (lim := 3000) (by omega)) ?_;rintro e w3 ⟨rfl, hk3⟩;have k03 := k02.tr hk3;have h4 := h4.kp hk3 (by simp);refine ac' (fun g0 => ?_) (fun g0 => ?_)
 ·exact ⟨rfl, k03⟩
 refine ac' (fun g1 => ?_) (fun g1 => ?_)
 ·exact ⟨rfl, k03⟩
 have g1 : ¬ fuel < 0 := g1;refine ac' (fun g2 => ?_) (fun g2 => ?_)
 ·exact ⟨rfl, k03⟩
 have g2 : ¬ 300 < fuel := g2;refine ldN [.int .i64 B.vars, v1, v2, .int .i64 B.nat, v3] rfl (bZ h4) ?_;refine ab' (bI' (w := w3) (C := Im [] w) (en := en) ((Im.sub [] w).tr k03) (fun _ _ _ h => Nat.lt_of_lt_of_le h.hold k03.size) hvv fuel) ?_;rintro e w4 ⟨he, hk4⟩;have k04 := k03.tr hk4;have h4 := h4.kp hk4 (by simp);cases hr : cC' B en fuel with
 | error er =>
  rw [hr] at he;obtain ⟨rfl, her⟩ := he;refine au' (p := er ≠ 0) her ?_;exact ⟨rfl, k04⟩
 | ok q =>
  obtain ⟨⟨⟩, n⟩ := q;obtain ⟨l1, l2, l3⟩ := rK' (by omega) (by omega) hr;rw [hr] at he;obtain rfl := he;refine ldN [.int .i64 B.vars, v1, v2, .int .i64 B.nat, v3] rfl (bZ h4) ?_;refine i6 ?_;refine i6 ?_;refine ab' (bI' (w := w4) (C := Im [] w) (en := en) ((Im.sub [] w).tr k04) (fun _ _ _ h => Nat.lt_of_lt_of_le h.hold k04.size) hvv (fuel + more)) ?_;rintro e w5 ⟨he, hk5⟩;have k05 := k04.tr hk5;have h4 := h4.kp hk5 (by simp);rw [l2 more hm.1 (by omega)] at he;obtain rfl := he;refine i6 ?_;refine i6 ?_;refine bO' (p := ((n + more.toNat : Nat) : Int) ≠ (n : Int) + more) (by omega) ?_;refine ac' (fun g3 => ?_) (fun g3 => ?_)
  ·exact ⟨rfl, k05⟩
  have g3 : ¬ (n : Int) = fuel := g3;refine ldN [.int .i64 B.vars, v1, v2, .int .i64 B.nat, v3] rfl (bZ h4) ?_;refine i6 ?_;refine i6 ?_;refine ab' (bI' (w := w5) (C := Im [] w) (en := en) ((Im.sub [] w).tr k05) (fun _ _ _ h => Nat.lt_of_lt_of_le h.hold k05.size) hvv (fuel - n - 1)) ?_;rintro e w6 ⟨he, hk6⟩;rw [l3 g3] at he;obtain ⟨rfl, _⟩ := he;exact ⟨rfl, k05.tr hk6⟩
end
end Go.Proofs.YtmpgcpemnjbgjaaGreat
namespace Go.Wx
open Go.ChangeShapes Go.WideShapes Go.ChangeAt Go.RowKit
theorem kR' {H : Type} {enc : TypeId × Value -> H} {P : Program} (hl : laidOutB P = true) {W W' : World} (hb : Below W.heap.size W W') :
  ∀ (ts : List TypeId) (vs : List Value) (ds : List (DataW H)) (ps : List MemPlace), (ts.all fun t => P.readableRec t && Nat.blt t P.types.size) = true -> DataW.TrodAll enc P W 0 (fun _ => true) true ts vs ds ps ->
   (∀ x ∈ ps, x.block < W.heap.size) -> ∀ sp : Nat -> Bool, (∀ p ∈ ps, sp p.block = true) -> DataW.TrodAll enc P W' 0 sp true ts vs ds ps
 | [], vs, ds, ps, _, h, _, sp, _ => by
  obtain ⟨rfl, rfl, rfl⟩ := trodAll_nil h
  rfl
 | t :: ts, vs, ds, ps, hts, h, hlt, sp, hsp => by
  obtain ⟨v, vs', d, ds', p, q, rfl, rfl, rfl, h0, h1⟩ := trodAll_cons h;simp only [List.all_cons, Bool.and_eq_true] at hts;refine ⟨p, q, ?_, kR' hl hb ts _ _ _ hts.2 h1 (fun x hx => hlt x (by simp [hx])) sp (fun x hx => hsp x (by simp [hx])), rfl⟩;exact WideElems.Trod_stays hl hts.1.1 (by simpa [Nat.blt_eq] using hts.1.2) h0 (fun x hx => hb.same (hlt x (by simp [hx]))) (fun x hx => hsp x (by simp [hx]))
theorem qc' {H : Type} {enc : TypeId × Value -> H} {P : Program} {f : Func} {s : ChangeSpec} {apart fresh handsOn : Bool} {W W' : World} {args : Array Value} {ds gs : List (DataW H)} {before : List MemPlace} {tb : TypeId}
  (hl : laidOutB P = true) (hts : (f.params.toList.all fun t => P.readableRec t && Nat.blt t P.types.size) = true) (hrt : f.resultTypes = #[tb]) (hb : P.underlying tb = some .bool)
  (hW : DataW.Whole enc P f.params.toList s.vars apart W args.toList ds gs before) (hs : s.vars = []) (hres : (s.fn H ds).results = [.lit (.bool true)]) (hargs : (s.fn H ds).args = ds) (hvars : (s.fn H ds).vars = [])
  (hk : Kp [] W W') : s.post enc P f apart fresh handsOn false W args (.bool true) W' := by
 have hW' := hW;obtain ⟨p, q, hA, hV, rfl, hfz, hnd⟩ := hW;rw [hs] at hV;obtain ⟨rfl, rfl⟩ := trodVars_none hV;have hbl := hk.below;have hlt : ∀ x ∈ p, x.block < W.heap.size := fun x hx => hW'.lt x (by simp [hx]);refine ⟨ds, [], p ++ [], [], p, [], hW', ?_, ?_, ?_, ?_, fun h => by cases h⟩
 ·rw [List.append_nil, hres, hrt]
  exact trodAll_mk1 (shut_bool hb true)
 ·rw [List.append_nil, hargs]
  exact kR' hl hbl _ _ _ _ hts hA hlt _ fun x hx => by simpa using hlt x hx
 ·rw [List.append_nil, hvars, hs]
  rfl
 ·exact hbl.frame _
end Go.Wx
namespace Go.Proofs.YtmpgcpemnjbgjaaGreat
open Go.Wx Go.ChangeShapes Go.WideShapes Go.ChangeAt Go.RowKit
theorem rM' {H : Type} (d : DataW H) : 1 <= Rows.uptoBulk d := by
 cases d with
 | lit l => cases l <;> simp [Rows.uptoBulk]
 | nil => simp [Rows.uptoBulk]
 | ptr d => simp [Rows.uptoBulk]
 | slice elems spare => simp [Rows.uptoBulk]
 | agg parts => simp [Rows.uptoBulk]
 | iface t d => simp [Rows.uptoBulk]
 | map entries => simp [Rows.uptoBulk]
 | held h => simp [Rows.uptoBulk]
theorem hj' {H : Type} {d : DataW H} {l : List (DataW H)} (h : d ∈ l) : Rows.uptoBulk d <= Rows.uptoBulkAll l := by
 induction l with
 | nil => cases h
 | cons x r ih =>
  simp only [Rows.uptoBulkAll];cases List.mem_cons.1 h with
  | inl e => subst e; omega
  | inr e => have := ih e; omega
theorem rN' {H : Type} (l : List (DataW H)) : l.length <= Rows.uptoBulkAll l := by
 induction l with
 | nil => simp [Rows.uptoBulkAll]
 | cons x r ih => have := rM' x; simp only [Rows.uptoBulkAll, List.length_cons]; omega
theorem tM' {H : Type} {l : List (DataW H)} (hk : Rows.uptoSmall H l = true) : Rows.uptoBulkAll l <= 1048576 := of_decide_eq_true hk
theorem rO' {H : Type} (l r : List (DataW H)) : Rows.uptoBulkAll (l ++ r) = Rows.uptoBulkAll l + Rows.uptoBulkAll r := by
 induction l with
 | nil => simp [Rows.uptoBulkAll]
 | cons x l ih => simp only [List.cons_append, Rows.uptoBulkAll, ih]; omega
theorem bB' {H : Type} {xs : List (DataW H × List MemPlace)} {x : DataW H × List MemPlace} (hx : x ∈ xs) (hB : Rows.uptoBulk (.agg (xs.map (·.1))) <= 1048576) : Rows.uptoBulk x.1 <= 1048576 := by
 have := hj' (List.mem_map_of_mem (f := (·.1)) hx);simp only [Rows.uptoBulk] at hB;omega
section
variable {H : Type} {enc : TypeId × Value -> H} {w : World} {spare : Nat -> Bool} {held : Bool}
theorem lR' {a : Addr} {v : Value} (h : w.cell? a = some v) : ∃ b o, a = ⟨b, o, none⟩ := by
 obtain ⟨b, o, s⟩ := a;unfold World.cell? at h;split at h
 ·rename_i c T fz hb
  cases s with
  | none => exact ⟨b, o, rfl⟩
  | some _ => simp at h
 ·cases h
theorem rP' {α : Type} [Inhabited α] {t e : TypeId} (R : Rd α) (hk : 0 < R.sz) (ht : Tryz.prog.underlying t = some (.slice e)) (hc : Tryz.prog.cellsOf e = R.sz) (ok : DataW H -> Prop)
  (one : ∀ (cs : List Value) (n : Nat) (y : DataW H × List MemPlace), cs.length = R.sz -> DataW.trod enc Tryz.prog w 0 spare held n e cs = some y -> ok y.1 -> ∃ x : α, R.den (Old w) cs x)
  {fuel : Nat} {v : Value} {x : DataW H × List MemPlace} (h : DataW.trod enc Tryz.prog w 0 spare held fuel t [v] = some x) (hok : ∀ es sp, x.1 = .slice es sp -> ∀ d ∈ es, ok d) :
  ∃ (a : Option Addr) (l : List α) (cap : Nat), v = .slice a l.length cap /\ (l.length <= 1099511627776 -> Sl R (Old w) a l) /\ (l.length = 0 \/ ∃ es sp, x.1 = .slice es sp /\ es.length = l.length) := by
 rcases Go.Deep.open_slice ht h with ⟨h1, rfl⟩ | ⟨a, len, cap, m, n, D, Pl, h1, hb, hl, hm, hmm, rfl, hx⟩
 ·simp only [List.cons.injEq, and_true] at h1
  subst h1;exact ⟨none, [], 0, rfl, fun _ => Sl.nil _ _ _, .inl rfl⟩
 simp only [List.cons.injEq, and_true] at h1;subst h1;have hlm : len <= m := by rw [hmm]; split <;> omega
 rw [hc] at hx;have each : ∀ i, i < len -> ∃ q : α × List Value, R.den (Old w) q.2 q.1 /\ ∀ j u, q.2[j]? = some u -> w.cell? (a.add (i * R.sz + j)) = some u := by
  intro i hi;obtain ⟨cs', h1, h2⟩ := hx i (by omega);obtain ⟨_, hlen, hcell⟩ := World.cells?_some h1;obtain ⟨x, hx⟩ := one cs' n _ hlen h2 (hok _ _ rfl _ (List.mem_map.2 ⟨i, by simpa using hi, rfl⟩));refine ⟨(x, cs'), hx, fun j u hu => ?_⟩;have hj : j < R.sz := by rw [<- hlen]; exact ai' hu
  rw [<- Go.Deep.add_add, hcell j hj];exact hu
 obtain ⟨q, hq⟩ := Go.Deep.choose_lt each;refine ⟨some a, (List.range len).map fun i => (q i).1, cap, by simp, fun hbig => ⟨hbig, ?_⟩, .inr ⟨_, _, rfl, by simp⟩⟩
 by_cases h0 : len = 0
 ·exact .inl (by simp [h0])
 obtain ⟨hd0, hz⟩ := hq 0 (by omega);have hl0 := R.len hd0;obtain ⟨u0, hu0⟩ : ∃ u, (q 0).2[0]? = some u := ⟨(q 0).2[0]'(by omega), by simp⟩
 have hz0 := hz 0 u0 hu0;rw [Nat.zero_mul, Nat.add_zero] at hz0;have hz' : w.cell? a = some u0 := by simpa [Addr.add] using hz0
 obtain ⟨b, o, rfl⟩ := lR' hz';refine .inr ⟨b, o, rfl, fun i x hi => ?_⟩;rw [List.getElem?_map] at hi;have hil : i < len := by
  rcases Nat.lt_or_ge i len with h | h
  ·exact h
  ·rw [List.getElem?_eq_none (by simpa using h)] at hi; cases hi
 rw [List.getElem?_range hil] at hi;have hi := Option.some.inj hi;subst hi;obtain ⟨hdi, hci⟩ := hq i hil;refine ⟨(q i).2, hdi, fun j u hj => Cl.of ?_⟩;have := hci j u hj;rw [dA'] at this;rw [Nat.add_assoc];exact this
theorem tN' {α : Type} [Inhabited α] {t e : TypeId} (R : Rd α) (hk : 0 < R.sz) (ht : Tryz.prog.underlying t = some (.slice e)) (hc : Tryz.prog.cellsOf e = R.sz)
  (one : ∀ (cs : List Value) (n : Nat) (y : DataW H × List MemPlace), cs.length = R.sz -> DataW.trod enc Tryz.prog w 0 spare held n e cs = some y -> Rows.uptoBulk y.1 <= 1048576 -> ∃ x : α, R.den (Old w) cs x)
  {fuel : Nat} {v : Value} {x : DataW H × List MemPlace} (h : DataW.trod enc Tryz.prog w 0 spare held fuel t [v] = some x) (hB : Rows.uptoBulk x.1 <= 1048576) : ∃ l, (rSl R).den (Old w) [v] l := by
 obtain ⟨a, l, cap, h1, h2, h3⟩ := rP' R hk ht hc (fun d => Rows.uptoBulk d <= 1048576) one h (fun es sp e d hd => by
  rw [e] at hB;have := hj' hd;simp only [Rows.uptoBulk] at hB;omega)
 refine ⟨l, a, cap, by rw [h1], h2 ?_⟩;rcases h3 with h3 | ⟨es, sp, e, hl⟩
 ·omega
 ·rw [e] at hB
  have := rN' es;simp only [Rows.uptoBulk] at hB;omega
end
end Go.Proofs.YtmpgcpemnjbgjaaGreat
namespace Go.Proofs.YtmpgcpemnjbgjaaGreat
open Go.Wx Cd Tm Lv Go.ChangeShapes Go.WideShapes Go.ChangeAt Go.RowKit
instance : Inhabited Nd := ⟨⟨0, 0, 0⟩⟩
instance : Inhabited aP' := ⟨⟨0, 0, 0⟩⟩
instance : Inhabited BoT := ⟨⟨0, [], [], -1, []⟩⟩
section
variable {H : Type} {enc : TypeId × Value -> H} {w : World} {spare : Nat -> Bool} {held : Bool}
theorem tO' {z : Int} (h : (Lit.int .i64 z).wf = true) : I64 z := by
 simpa [I64, Lit.wf, IntKind.min, IntKind.max, IntKind.signed, IntKind.bits] using h
theorem fC' {α : Type} [Inhabited α] {t e : TypeId} (R : Rd α) (hk : 0 < R.sz) (ht : Tryz.prog.underlying t = some (.slice e)) (hc : Tryz.prog.cellsOf e = R.sz)
  (one : ∀ (cs : List Value) (n : Nat) (y : DataW H × List MemPlace), cs.length = R.sz -> DataW.trod enc Tryz.prog w 0 spare held n e cs = some y -> Rows.uptoBulk y.1 <= 1048576 -> ∃ x : α, R.den (Old w) cs x)
  {fuel : Nat} {v : Value} {x : DataW H × List MemPlace} (h : DataW.trod enc Tryz.prog w 0 spare held fuel t [v] = some x) (hB : Rows.uptoBulk x.1 <= 1048576) : ∃ l, SV R (Old w) l v := by
 obtain ⟨l, a, c, e, hs⟩ := tN' R hk ht hc one h hB;have e : v = .slice a l.length c := by simpa using e
 refine ⟨l, a, c, e, hs, ?_⟩;rcases Go.Deep.open_slice ht h with ⟨h1, rfl⟩ | ⟨a', len, cap, m, k, D, Pl, h1, hb, hl, _⟩
 ·rw [e] at h1
  have h1 := (List.cons.inj h1).1;injection h1 with q1 q2 q3
  omega
 ·rw [e] at h1
  have h1 := (List.cons.inj h1).1;injection h1 with q1 q2 q3
  omega
theorem cD' {n : Nat} {cs : List Value} {y : DataW H × List MemPlace} (hn : DataW.trod enc Tryz.prog w 0 spare held n 3 cs = some y) : ∃ z, cs = [.int .i64 z] /\ I64 z := by
 obtain ⟨z, rfl, rfl, hw⟩ := DataW.trod_int Tryz.underlying3 hn;exact ⟨z, rfl, tO' hw⟩
theorem tP' {n : Nat} {cs : List Value} {y : DataW H × List MemPlace} (hl : cs.length = 3) (hn : DataW.trod enc Tryz.prog w 0 spare held n 43 cs = some y) : ∃ x, rNd.den (Old w) cs x := by
 obtain ⟨xs, m, rfl, rfl, _, hxl, hf⟩ := DataW.trod_struct Tryz.underlying43 hn
 match cs, hl, xs, hxl with
 | [c0, c1, c2], _, [x0, x1, x2], _ =>
  have g0 := hf 0 _ rfl;have g1 := hf 1 _ rfl;have g2 := hf 2 _ rfl;simp [show Tryz.prog.cellsOf 3 = 1 by kernel_rfl] at g0 g1 g2;obtain ⟨z0, e0, w0⟩ := cD' g0;obtain ⟨z1, e1, w1⟩ := cD' g1;obtain ⟨z2, e2, w2⟩ := cD' g2;simp at e0 e1 e2;subst e0 e1 e2;exact ⟨⟨z0, z1, z2⟩, rfl, w0, w1, w2⟩
theorem tQ' {n : Nat} {cs : List Value} {y : DataW H × List MemPlace} (hl : cs.length = 3) (hn : DataW.trod enc Tryz.prog w 0 spare held n 204 cs = some y) : ∃ x, rOr.den (Old w) cs x := by
 obtain ⟨xs, m, rfl, rfl, _, hxl, hf⟩ := DataW.trod_struct Tryz.underlying204 hn
 match cs, hl, xs, hxl with
 | [c0, c1, c2], _, [x0, x1, x2], _ =>
  have g0 := hf 0 _ rfl;have g1 := hf 1 _ rfl;have g2 := hf 2 _ rfl;simp [show Tryz.prog.cellsOf 3 = 1 by kernel_rfl] at g0 g1 g2;obtain ⟨z0, e0, w0⟩ := cD' g0;obtain ⟨z1, e1, w1⟩ := cD' g1;obtain ⟨z2, e2, w2⟩ := cD' g2;simp at e0 e1 e2;subst e0 e1 e2;exact ⟨⟨z0, z1, z2⟩, rfl, w0, w1, w2⟩
theorem tR' {n : Nat} {cs : List Value} {y : DataW H × List MemPlace} (hl : cs.length = 2) (hn : DataW.trod enc Tryz.prog w 0 spare held n 63 cs = some y) : ∃ x, rPr.den (Old w) cs x := by
 obtain ⟨xs, m, rfl, rfl, _, hxl, hf⟩ := DataW.trod_struct Tryz.underlying63 hn
 match cs, hl, xs, hxl with
 | [c0, c1], _, [x0, x1], _ =>
  have g0 := hf 0 _ rfl;have g1 := hf 1 _ rfl;simp [show Tryz.prog.cellsOf 3 = 1 by kernel_rfl] at g0 g1;obtain ⟨z0, e0, w0⟩ := cD' g0;obtain ⟨z1, e1, w1⟩ := cD' g1;simp at e0 e1;subst e0 e1;exact ⟨(z0, z1), rfl, w0, w1⟩
theorem fg' {n : Nat} {v : Value} {y : DataW H × List MemPlace} (hn : DataW.trod enc Tryz.prog w 0 spare held n 35 [v] = some y) (hB : Rows.uptoBulk y.1 <= 1048576) : ∃ l, SV rNd (Old w) l v :=
 fC' rNd (by decide) Tryz.underlying35 (by kernel_rfl) (fun cs n y hl hn hb => tP' hl hn) hn hB
theorem ef' {n : Nat} {v : Value} {y : DataW H × List MemPlace} (hn : DataW.trod enc Tryz.prog w 0 spare held n 36 [v] = some y) (hB : Rows.uptoBulk y.1 <= 1048576) : ∃ l, SV (rSk rNd) (Old w) l v :=
 fC' (rSk rNd) Nat.one_pos Tryz.underlying36 (by kernel_rfl) (fun cs n y hl hn hb => by
  match cs, hl with
  | [c], _ =>
   obtain ⟨l, a, cc, rfl, hs, hcap⟩ := fg' hn hb;exact ⟨l, a, cc, rfl, hcap, hs⟩) hn hB
theorem tS' {n : Nat} {cs : List Value} {y : DataW H × List MemPlace} (hl : cs.length = 2) (hn : DataW.trod enc Tryz.prog w 0 spare held n 41 cs = some y) (hB : Rows.uptoBulk y.1 <= 1048576) : ∃ x, rCt.den (Old w) cs x := by
 obtain ⟨xs, m, rfl, rfl, _, hxl, hf⟩ := DataW.trod_struct Tryz.underlying41 hn
 match cs, hl, xs, hxl with
 | [c0, c1], _, [x0, x1], _ =>
  have g0 := hf 0 _ rfl;have g1 := hf 1 _ rfl;simp [show Tryz.prog.cellsOf 36 = 1 by kernel_rfl] at g0 g1;obtain ⟨l0, h0⟩ := ef' g0 (bB' (x := x0) (by simp) hB);obtain ⟨l1, h1⟩ := ef' g1 (bB' (x := x1) (by simp) hB);exact ⟨⟨l0, l1⟩, _, _, rfl, h0, h1⟩
theorem tT' {n : Nat} {cs : List Value} {y : DataW H × List MemPlace} (hl : cs.length = 7) (hn : DataW.trod enc Tryz.prog w 0 spare held n 39 cs = some y) (hB : Rows.uptoBulk y.1 <= 1048576) : ∃ x, rEn.den (Old w) cs x := by
 obtain ⟨xs, m, rfl, rfl, _, hxl, hf⟩ := DataW.trod_struct Tryz.underlying39 hn
 match cs, hl, xs, hxl with
 | [c0, c1, c2, c3, c4, c5, c6], _, [x0, x1, x2, x3, x4, x5, x6], _ =>
  have g0 := hf 0 _ rfl;have g1 := hf 1 _ rfl;have g2 := hf 2 _ rfl;have g3 := hf 3 _ rfl;have g4 := hf 4 _ rfl;have g5 := hf 5 _ rfl;have g6 := hf 6 _ rfl;simp [show Tryz.prog.cellsOf 3 = 1 by kernel_rfl, show Tryz.prog.cellsOf 36 = 1 by kernel_rfl, show Tryz.prog.cellsOf 35 = 1 by kernel_rfl, show Tryz.prog.cellsOf 37 = 1 by kernel_rfl] at g0 g1 g2 g3 g4 g5 g6;obtain ⟨z0, e0, w0⟩ := cD' g0;obtain ⟨l1, h1⟩ := fg' g1 (bB' (x := x1) (by simp) hB);obtain ⟨l2, h2⟩ := ef' g2 (bB' (x := x2) (by simp) hB);obtain ⟨l3, h3⟩ := ef' g3 (bB' (x := x3) (by simp) hB);obtain ⟨l4, h4⟩ := fC' rCt (by decide) Tryz.underlying37 (by kernel_rfl) (fun cs n y hl hn hb => tS' hl hn hb) g4 (bB' (x := x4) (by simp) hB);obtain ⟨l5, h5⟩ := fg' g5 (bB' (x := x5) (by simp) hB);obtain ⟨l6, h6⟩ := fg' g6 (bB' (x := x6) (by simp) hB);simp at e0;subst e0;exact ⟨⟨z0, l1, l2, l3, l4, l5, l6⟩, _, _, _, _, _, _, rfl, w0, h1, h2, h3, h4, h5, h6⟩
theorem tU' {n : Nat} {cs : List Value} {y : DataW H × List MemPlace} (hl : cs.length = 5) (hn : DataW.trod enc Tryz.prog w 0 spare held n 26 cs = some y) (hB : Rows.uptoBulk y.1 <= 1048576) : ∃ x, rBo.den (Old w) cs x := by
 obtain ⟨xs, m, rfl, rfl, _, hxl, hf⟩ := DataW.trod_struct Tryz.underlying26 hn
 match cs, hl, xs, hxl with
 | [c0, c1, c2, c3, c4], _, [x0, x1, x2, x3, x4], _ =>
  have g0 := hf 0 _ rfl;have g1 := hf 1 _ rfl;have g2 := hf 2 _ rfl;have g3 := hf 3 _ rfl;have g4 := hf 4 _ rfl;simp [show Tryz.prog.cellsOf 3 = 1 by kernel_rfl, show Tryz.prog.cellsOf 22 = 1 by kernel_rfl, show Tryz.prog.cellsOf 23 = 1 by kernel_rfl, show Tryz.prog.cellsOf 24 = 1 by kernel_rfl] at g0 g1 g2 g3 g4;obtain ⟨z0, e0, w0⟩ := cD' g0;obtain ⟨l1, h1⟩ := fC' rOr (by decide) Tryz.underlying22 (by kernel_rfl) (fun cs n y hl hn hb => tQ' hl hn) g1 (bB' (x := x1) (by simp) hB);obtain ⟨l2, h2⟩ := fC' rEn (by decide) Tryz.underlying23 (by kernel_rfl) (fun cs n y hl hn hb => tT' hl hn hb) g2 (bB' (x := x2) (by simp) hB);obtain ⟨z3, e3, w3⟩ := cD' g3;obtain ⟨l4, h4⟩ := fC' rPr (by decide) Tryz.underlying24 (by kernel_rfl) (fun cs n y hl hn hb => tR' hl hn) g4 (bB' (x := x4) (by simp) hB);simp at e0 e3;subst e0 e3;exact ⟨⟨z0, l1, l2, z3, l4⟩, _, _, _, rfl, w0, w3, h1, h2, h4⟩
end
end Go.Proofs.YtmpgcpemnjbgjaaGreat
