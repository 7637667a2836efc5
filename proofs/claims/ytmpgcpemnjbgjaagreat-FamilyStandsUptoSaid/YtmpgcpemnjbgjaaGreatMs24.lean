import Derived.Test.YtmpgcpemnjbgjaaGreatMs23
import Derived.Carry
set_option linter.unusedVariables false
set_option linter.unusedSimpArgs false
set_option maxRecDepth 100000
set_option maxHeartbeats 4000000
namespace Go.Proofs.YtmpgcpemnjbgjaaGreat
open Go.Wx Cd Tm Lv
def nmP (e : Int) (m : Nd) : Bool := decide (m = ⟨9, e, 0⟩)
def nmT (e : Int) (t : List Nd) : Bool := t.any (nmP e)
def nmC (e : Int) (c : CtT) : Bool := (c.args ++ c.out).any (nmT e)
theorem any_take {α : Type} {f : α -> Bool} {l : List α} {i : Nat} {x : α} (h : l[i]? = some x) : (l.take (i + 1)).any f = ((l.take i).any f || f x) := by
 rw [List.take_add_one, h];simp
theorem ss' {x : Tr} {e : Int} (hx : Ok .tm x) (h : nmT e (row x) = false) : aV' (row x) e = false := by
 unfold aV';rw [List.any_eq_false];intro m hm hc;have hc : m.op = 9 /\ m.a = e := by simpa using hc
 have hp := gS' x .tm hx.1 m hm;have hb : m.b = 0 := by
  have : inR m.a 0 63 = true /\ m.b = 0 := by simpa [ah', hc.1] using hp
  exact this.2
 unfold nmT at h;rw [List.any_eq_false] at h;refine h m hm ?_;unfold nmP;exact decide_eq_true (se'.1 ⟨hc.1, hc.2, hb⟩)
theorem st' {B : BoT} {e : Int} (hf : aQ' B e = 0) (h : (entD B e).ctors.any (nmC e) = false) : tD' B e = true := by
 obtain ⟨hR, hB, h0, h1, hx, s, ps, qi, hF⟩ := fe' hf;refine nd' _ fun c hc => ?_;obtain ⟨k, hk⟩ := List.getElem?_of_mem hc;obtain ⟨ga, go, hC⟩ := hF.ct k c hk;have hga : c.args.map tr = ga := dd' hC.args (fun y hy => by
  obtain ⟨j, hj⟩ := List.getElem?_of_mem hy;exact (hC.fa j y hj).ok)
 rw [List.any_eq_false] at h;have hcf := h c hc;have hcf : nmC e c = false := by simpa using hcf
 unfold nmC at hcf;rw [List.any_eq_false] at hcf;constructor
 ·intro t ht
  have ht : t ∈ ga := by rw [<- hga]; exact ht
  obtain ⟨j, hj⟩ := List.getElem?_of_mem ht;refine ss' (hC.fa j t hj).ok ?_;have := hcf (row t) (by rw [hC.args]; simp; exact .inl ⟨t, ht, rfl⟩)
  simpa using this
 ·intro t ht
  rw [hC.out] at ht;obtain ⟨y, hy, rfl⟩ := List.mem_map.1 ht;refine ss' (hC.fo y hy).ok ?_;have := hcf (row y) (by rw [hC.out]; simp; exact .inr ⟨y, hy, rfl⟩)
  simpa using this
theorem jx' {α : Type} {R : Rd α} {C : Mem} {w : World} {a : Option Addr} {l : List α} (h : Sl R C a l) (hS : Sub C w) (hp : 0 < R.sz) : ∃ css : List (List Value), All2 (R.den C) css l /\ (l.length = 0 \/ ∃ b o, a = some ⟨b, o, none⟩ /\ ∀ j u, css.flatten[j]? = some u -> Cl w.heap b (o + j) u) := by
 rcases h.2 with h0 | ⟨b, o, rfl, h2⟩
 ·have : l = [] := List.length_eq_zero_iff.1 h0
  subst this;exact ⟨[], trivial, .inl rfl⟩
 ·obtain ⟨css, h3, h4⟩ := eF' l o h2
  exact ⟨css, h3, .inr ⟨b, o, rfl, fun j u hj => Cl.of (fw' h3 hp h4 hS j u hj)⟩⟩
theorem ho' {w : World} {base e sz n : Nat} {v : Value} {xs : List Value} (h : w.ownsRow base e sz v n xs) : ∀ g ∈ v.ownBlock.toList, base <= g := fun g hg => by
 rcases h.2 with ⟨rfl, _⟩ | ⟨g', cap, cur, rfl, hb, hc, _⟩
 ·cases hg
 ·simp [Value.ownBlock] at hg
  omega
section
variable {w : World} {B : BoT}
theorem hA' {v : Value} (hv : BoV (Im [] w) B v) (en fuel : Int) :
  CC 3 #[v, .int .i64 en, .int .i64 fuel] w (fun e w' => e = .returned (.bool true) /\ Kp [] w w') := by
 refine oF Tryz.func3 ?_;have hvv := hv;obtain ⟨v1, v2, v3, rfl, hO, hE, hP⟩ := hv;obtain ⟨ae, ce, rfl⟩ := hE.len;refine cO (args := [_, _, _]) 117 [.tmp 6] τok Tryz.func3 ?_;refine new fun b3 w1 hb3 h3 hs1 hk1 => ?_;have h3 : Bk w1.heap b3 [.int .i64 B.vars, v1, .slice ae B.ents.length ce, .int .i64 B.nat, v3] 26 := h3;refine ab' (kQ' w1) ?_;rintro e w2 ⟨rfl, hk2⟩;have k02 := hk1.tr hk2;have h3 := h3.kp hk2 (by simp);refine ldN [.int .i64 B.vars, v1, .slice ae B.ents.length ce, .int .i64 B.nat, v3] rfl (bZ h3) ?_;refine ab' (pZ' ((Im.sub [] w).tr k02) hvv (lim := 3000) (by omega)) ?_;rintro e w3 ⟨rfl, hk3⟩;have k03 := k02.tr hk3;have h3 := h3.kp hk3 (by simp);refine ac' (fun g0 => ?_) (fun g0 => ?_)
 ·exact ⟨rfl, k03⟩
 refine ac' (fun g1 => ?_) (fun g1 => ?_)
 ·exact ⟨rfl, k03⟩
 refine ldN [.int .i64 B.vars, v1, .slice ae B.ents.length ce, .int .i64 B.nat, v3] rfl (bZ h3) ?_;refine ab' (bI' (w := w3) (C := Im [] w) (en := en) ((Im.sub [] w).tr k03) (fun _ _ _ h => Nat.lt_of_lt_of_le h.hold k03.size) hvv fuel) ?_;rintro e w4 ⟨he, hk4⟩;have k04 := k03.tr hk4;have h3 := h3.kp hk4 (by simp)
 by_cases hf : aQ' B en = 0
 rotate_left
 ·have hr : cC' B en fuel = .error (aQ' B en) := by unfold cC'; rw [if_pos hf]
  have hp : ff' B en = (false, aQ' B en) := by unfold ff'; rw [if_pos hf]
  rw [hr] at he;obtain ⟨rfl, _⟩ := he;refine ldN [.int .i64 B.vars, v1, .slice ae B.ents.length ce, .int .i64 B.nat, v3] rfl (bZ h3) ?_;refine ab' (gY' (w := w4) (C := Im [] w) ((Im.sub [] w).tr k04) (fun _ _ _ h => Nat.lt_of_lt_of_le h.hold k04.size) hvv en) ?_;rintro e w5 ⟨rfl, hk5⟩;rw [hp];refine bO' (p := aQ' B en = 0) hf ?_;refine au' (p := aQ' B en ≠ 0) hf ?_;refine ⟨?_, k04.tr hk5⟩;simp
  rfl
 have hp : ff' B en = (tD' B en, 0) := by unfold ff'; rw [if_neg (by rw [hf]; simp)]
 obtain ⟨hR, hB, h0, h1, hx, s, ps, qi, hF⟩ := fe' hf;have hlc := hF.lc;obtain ⟨f, hfe, hfp⟩ : ∃ f : Int, (∃ n : Int, e = .returned (.tuple #[.int .i64 n, .int .i64 f])) /\ (f = 0 -> tD' B en = true) := by
  cases hr : cC' B en fuel with
  | error er =>
   rw [hr] at he;obtain ⟨rfl, her⟩ := he;exact ⟨er, ⟨_, rfl⟩, fun h => absurd h her⟩
  | ok q =>
   rw [hr] at he;exact ⟨0, ⟨_, he⟩, fun _ => uV' hr⟩
 obtain ⟨n, rfl⟩ := hfe;obtain ⟨is, his⟩ : ∃ b, tD' B en = b := ⟨_, rfl⟩
 rw [his] at hp hfp;refine ldN [.int .i64 B.vars, v1, .slice ae B.ents.length ce, .int .i64 B.nat, v3] rfl (bZ h3) ?_;refine ab' (gY' (w := w4) (C := Im [] w) ((Im.sub [] w).tr k04) (fun _ _ _ h => Nat.lt_of_lt_of_le h.hold k04.size) hvv en) ?_;rintro e w5 ⟨rfl, hk5⟩;rw [hp];have k05 := k04.tr hk5;have h3 := h3.kp hk5 (by simp);obtain ⟨be, oe, ce', e1, u1, u2, u3, u4, u5, u6, hcs, s1, s2, s3, s4, s5, s6⟩ := gX' (e := en) hE h0 h1;injection e1 with e1 _ e2
 subst e1 e2;obtain ⟨ac, cc, rfl⟩ := s4.len;refine ac' (fun gf => ?_) (fun gf => ?_)
 ·have gf : f = 0 := gf
  obtain rfl := hfp gf;refine loop τok (σ := Nat × Bool) (fun q => [(1, .int .i64 en), (3, pt b3), (9, .bool true), (11, .bool q.2), (12, .int .i64 (q.1 : Int))])
   (fun q w' => q.1 <= (entD B en).ctors.length /\ q.2 = ((entD B en).ctors.take q.1).any (nmC en) /\ Kp [] w5 w') (fun q => (entD B en).ctors.length - q.1) (0, false) ⟨rfl, rfl, rfl, rfl, rfl, trivial⟩ ⟨Nat.zero_le _, by simp, Kp.refl _ _⟩ ?_
  rintro ⟨k, nm⟩ w6 ⟨hk, hnm, k56⟩;simp only at hk hnm;have k06 := k05.tr k56;have h36 := h3.kp k56 (by simp);refine lb h36 ?_;refine ix en.toNat (by omega) (by omega) ?_;refine ld (Cl.cell (((hcs 4 _ rfl).tr k06).1)) ?_;refine ac' (fun c => ?_) (fun c => ?_);rotate_left
  ·have c : ¬ (k : Int) < (entD B en).ctors.length := c
   rw [List.take_of_length_le (by omega)] at hnm;refine br (fun cn => ?_) (fun cn => ?_)
   ·exact ⟨rfl, k06⟩
   ·have cn : nm = false := cn
    rw [cn] at hnm;have hpos := st' hf hnm.symm;refine ⟨?_, k06⟩
    rfl
  have hlt : k < (entD B en).ctors.length := by
   have : (k : Int) < (entD B en).ctors.length := c;omega
  obtain ⟨ct, hct, _⟩ := af' hlt;obtain ⟨ga, go, hC⟩ := hF.ct k ct hct;have hla := hC.la;have hlo := hC.lo;have hli := hF.li;have hal : ct.args.length = ga.length := by rw [hC.args]; simp
  have hol : ct.out.length = go.length := by rw [hC.out]; simp
  obtain ⟨bc, oc, cc', e1, hca⟩ := s4.at hct;injection e1 with e1 _ e2
  subst e1 e2;obtain ⟨va, vo, hccs, hva, hvo⟩ := fp' hca;have hone2 : ∀ v ∈ [va, vo], v.oneCell' = true := fun v hv => by
   simp at hv;rcases hv with rfl | rfl
   ·exact hva.one
   ·exact hvo.one
  obtain ⟨aa, ca, rfl, hva1, hva2⟩ := id hva;obtain ⟨ao, co, rfl, hvo1, hvo2⟩ := id hvo;refine lb h36 ?_;refine ix en.toNat (by omega) (by omega) ?_;refine ld (Cl.cell (((hcs 4 _ rfl).tr k06).1)) ?_;refine ix k rfl hlt ?_;refine ldN [.slice aa ct.args.length ca, .slice ao ct.out.length co] rfl (fun j v hj => ((hccs j v hj).tr k06).1) ?_;refine new fun b13 w7 hb13 h13 hs7 hk7 => ?_;refine stN (vs := [.slice aa ct.args.length ca, .slice ao ct.out.length co]) h13 rfl hone2 fun w8 h13 hs8 hk8 => ?_;have k68 := hk7.newSt hb13 hk8;have k58 := k56.tr k68;have k08 := k05.tr k58;have up8 : ∀ b o v, Im [] w b o v -> Im [] w8 b o v := fun b o v h => h.tr k08;obtain ⟨css, hcd, hcc⟩ := jx' (R := rSk rNd) (hva1.mono up8) (Im.sub [] w8) (by decide);obtain ⟨hcf1, hcf2⟩ := cy' hcd;obtain ⟨dss, hdd, hdc⟩ := jx' (R := rSk rNd) (hvo1.mono up8) (Im.sub [] w8) (by decide);obtain ⟨hdf1, hdf2⟩ := cy' hdd;refine ar' τok (fun z => Kp [] w8 z) ?_;refine rV τok [1, 2, 4, 5] 4 (mB 8 [0, 3, 6, 7]) ((Kp.refl [] w8).dr _) ?_;refine lk h13 ?_;refine lk h13 ?_;refine nV τok 0 3 (mB 8 [3, 6, 7]) ?_;refine fill [] rfl ?_;refine new fun ba wa hba hA hsa hka => ?_;have hka : Kp [] w8 wa := hka.rd;have hba : ba = w8.heap.size := hba;refine ⟨.inl hka, ?_⟩;refine nV τok 3 2 (mB 8 [6, 7]) ?_;refine ap τok rfl rfl (by decide) w8.heap.size (v := .slice (some ⟨ba, 0, none⟩) 0 0) (n := 0) (xs := []) (hI' (n := 0) hA (by omega) (by simp) (by simp [maxLen])) css.flatten hcf1 (hcc.imp_right fun ⟨b, o, h1, h3⟩ => ⟨b, o, h1, fun j u hj => (h3 j u hj).kp hka (by simp)⟩) hcf2 (by omega) (by simp only [maxLen]; omega) (by omega) fun vr wb hr8 hkr => ?_;rw [Nat.zero_add, List.nil_append] at hr8;have hkr : Kp [ba] wa wb := hkr;have k8b : Kp [] w8 wb := hka.trans hkr fun y hy hl => by simp at hy; omega
  refine ⟨.inl k8b, ?_⟩;refine nV τok 6 1 (mB 8 [7]) ?_;refine ap τok rfl rfl (by decide) w8.heap.size hr8 dss.flatten hdf1 (hdc.imp_right fun ⟨b, o, h1, h3⟩ => ⟨b, o, h1, fun j u hj => (h3 j u hj).kp k8b (by simp)⟩) hdf2 (by omega) (by simp only [maxLen]; omega) k8b.size fun v9 wc hr9 hk9 => ?_;have k8c : Kp [] w8 wc := k8b.trans hk9 fun y hy hl => by have := ho' hr8 y hy; omega
  refine ⟨.inl k8c, ?_⟩;obtain ⟨all, hall⟩ : ∃ l, l = ct.args ++ ct.out := ⟨_, rfl⟩
  have hlall : all.length <= 32 := by rw [hall]; simp; omega
  have hAll : SV (rSk rNd) (Im [] wc) all v9 := by
   rw [hall];have := mG' (w := w8) (C := Im [] w8) (R := rSk rNd) (l := ct.args ++ ct.out) (css := css ++ dss) (by simpa [show (rSk rNd).sz = 1 from rfl] using hr9) (hcd.append hdd) (by simp; omega);exact this.mono (Im.cn (by simp) k8c)
  obtain ⟨al, cl, rfl, hAl1, hAl2⟩ := id hAll;refine rV τok [7] 0 (mB 8 []) k8c ?_;refine dV ?_;have k5c := k58.tr k8c;have k0c := k05.tr k5c;refine loop τok (σ := Nat × Bool) (fun q => [(1, .int .i64 en), (3, pt b3), (9, .bool true), (11, .bool q.2), (12, .int .i64 (k : Int)), (14, .slice al all.length cl), (15, .int .i64 (q.1 : Int))])
   (fun q w' => q.1 <= all.length /\ q.2 = (nm || (all.take q.1).any (nmT en)) /\ Kp [] wc w') (fun q => all.length - q.1) (0, nm) ⟨rfl, rfl, rfl, rfl, rfl, rfl, rfl, trivial⟩ ⟨Nat.zero_le _, by simp, Kp.refl _ _⟩ ?_
  rintro ⟨i, n1⟩ wd ⟨hi, hn1, kcd⟩;simp only at hi hn1;have k5d := k5c.tr kcd;refine ac' (fun c2 => ?_) (fun c2 => ?_);rotate_left
  ·have c2 : ¬ (i : Int) < all.length := c2
   rw [List.take_of_length_le (by omega), hall] at hn1;refine i6 ?_;refine ⟨(k + 1, n1), by simp only; omega, rfl, ⟨rfl, rfl, rfl, rfl, rfl, trivial⟩, hlt, ?_, k5d⟩;simp only;rw [any_take hct, <- hnm, hn1]
   rfl
  have hil : i < all.length := by
   have : (i : Int) < all.length := c2;omega
  obtain ⟨t, ht, _⟩ := af' hil;obtain ⟨bq, oq, rfl, hcq⟩ := hAl1.at hil;obtain ⟨vt, hvt, hTt⟩ := qS' (hcq i t ht);obtain ⟨at_, ct_, rfl, ht1, ht2⟩ := id hTt;have htl := ht1.1;refine loop τok (σ := Nat × Bool) (fun q => [(1, .int .i64 en), (3, pt b3), (9, .bool true), (11, .bool q.2), (12, .int .i64 (k : Int)), (14, .slice (some ⟨bq, oq, none⟩) all.length cl), (15, .int .i64 (i : Int)), (16, .int .i64 (q.1 : Int))])
   (fun q w' => q.1 <= t.length /\ q.2 = (n1 || (t.take q.1).any (nmP en)) /\ Kp [] wd w') (fun q => t.length - q.1) (0, n1) ⟨rfl, rfl, rfl, rfl, rfl, rfl, rfl, rfl, trivial⟩ ⟨Nat.zero_le _, by simp, Kp.refl _ _⟩ ?_
  rintro ⟨j, n2⟩ we ⟨hj, hn2, kde⟩;simp only at hj hn2;have kce := kcd.tr kde;have k5e := k5c.tr kce;refine ix i rfl hil ?_;refine ld (Cl.cell ((hvt.tr kce).1)) ?_;refine ac' (fun c3 => ?_) (fun c3 => ?_);rotate_left
  ·have c3 : ¬ (j : Int) < t.length := c3
   rw [List.take_of_length_le (by omega)] at hn2;refine i6 ?_;refine ⟨(i + 1, n2), by simp only; omega, rfl, ⟨rfl, rfl, rfl, rfl, rfl, rfl, rfl, trivial⟩, hil, ?_, kce⟩;simp only;rw [any_take ht, <- Bool.or_assoc, <- hn1, hn2]
   rfl
  have hjl : j < t.length := by
   have : (j : Int) < t.length := c3;omega
  obtain ⟨m, hm, _⟩ := af' hjl;refine br (fun cn => ?_) (fun cn => ?_)
  ·have cn : n2 = true := cn
   refine i6 ?_;refine ⟨(j + 1, true), by simp only; omega, rfl, ⟨rfl, rfl, rfl, rfl, rfl, rfl, rfl, rfl, trivial⟩, hjl, ?_, kde⟩;simp only;rw [any_take hm, <- Bool.or_assoc, <- hn2, cn]
   rfl
  ·have cn : n2 = false := cn
   obtain ⟨bm, om, rfl, _, _, _, hcm⟩ := eG' ht1 hm;refine ix i rfl hil ?_;refine ld (Cl.cell ((hvt.tr kce).1)) ?_;refine ix j rfl hjl ?_;refine ldN [.int .i64 m.op, .int .i64 m.a, .int .i64 m.b] rfl (fun j v hj => (((hcm j v hj).tr kce).1)) ?_;refine run (dY' _ _ m ⟨9, en, 0⟩ we) ?_;refine i6 ?_;refine ⟨(j + 1, decide (m = ⟨9, en, 0⟩)), by simp only; omega, rfl, ⟨rfl, rfl, rfl, rfl, rfl, rfl, rfl, rfl, trivial⟩, hjl, ?_, kde⟩;simp only;rw [any_take hm, <- Bool.or_assoc, <- hn2, cn]
   rfl
 ·
  refine loop τok (σ := Nat × Bool) (fun q => [(1, .int .i64 en), (3, pt b3), (9, .bool is), (11, .bool q.2), (12, .int .i64 (q.1 : Int))])
   (fun q w' => q.1 <= (entD B en).ctors.length /\ q.2 = ((entD B en).ctors.take q.1).any (nmC en) /\ Kp [] w5 w') (fun q => (entD B en).ctors.length - q.1) (0, false) ⟨rfl, rfl, rfl, rfl, rfl, trivial⟩ ⟨Nat.zero_le _, by simp, Kp.refl _ _⟩ ?_
  rintro ⟨k, nm⟩ w6 ⟨hk, hnm, k56⟩;simp only at hk hnm;have k06 := k05.tr k56;have h36 := h3.kp k56 (by simp);refine lb h36 ?_;refine ix en.toNat (by omega) (by omega) ?_;refine ld (Cl.cell (((hcs 4 _ rfl).tr k06).1)) ?_;refine ac' (fun c => ?_) (fun c => ?_);rotate_left
  ·have c : ¬ (k : Int) < (entD B en).ctors.length := c
   rw [List.take_of_length_le (by omega)] at hnm;refine br (fun cn => ?_) (fun cn => ?_)
   ·exact ⟨rfl, k06⟩
   ·have cn : nm = false := cn
    rw [cn] at hnm;have hpos := st' hf hnm.symm;refine ⟨?_, k06⟩
    (rw [<- his, hpos]; rfl)
  have hlt : k < (entD B en).ctors.length := by
   have : (k : Int) < (entD B en).ctors.length := c;omega
  obtain ⟨ct, hct, _⟩ := af' hlt;obtain ⟨ga, go, hC⟩ := hF.ct k ct hct;have hla := hC.la;have hlo := hC.lo;have hli := hF.li;have hal : ct.args.length = ga.length := by rw [hC.args]; simp
  have hol : ct.out.length = go.length := by rw [hC.out]; simp
  obtain ⟨bc, oc, cc', e1, hca⟩ := s4.at hct;injection e1 with e1 _ e2
  subst e1 e2;obtain ⟨va, vo, hccs, hva, hvo⟩ := fp' hca;have hone2 : ∀ v ∈ [va, vo], v.oneCell' = true := fun v hv => by
   simp at hv;rcases hv with rfl | rfl
   ·exact hva.one
   ·exact hvo.one
  obtain ⟨aa, ca, rfl, hva1, hva2⟩ := id hva;obtain ⟨ao, co, rfl, hvo1, hvo2⟩ := id hvo;refine lb h36 ?_;refine ix en.toNat (by omega) (by omega) ?_;refine ld (Cl.cell (((hcs 4 _ rfl).tr k06).1)) ?_;refine ix k rfl hlt ?_;refine ldN [.slice aa ct.args.length ca, .slice ao ct.out.length co] rfl (fun j v hj => ((hccs j v hj).tr k06).1) ?_;refine new fun b13 w7 hb13 h13 hs7 hk7 => ?_;refine stN (vs := [.slice aa ct.args.length ca, .slice ao ct.out.length co]) h13 rfl hone2 fun w8 h13 hs8 hk8 => ?_;have k68 := hk7.newSt hb13 hk8;have k58 := k56.tr k68;have k08 := k05.tr k58;have up8 : ∀ b o v, Im [] w b o v -> Im [] w8 b o v := fun b o v h => h.tr k08;obtain ⟨css, hcd, hcc⟩ := jx' (R := rSk rNd) (hva1.mono up8) (Im.sub [] w8) (by decide);obtain ⟨hcf1, hcf2⟩ := cy' hcd;obtain ⟨dss, hdd, hdc⟩ := jx' (R := rSk rNd) (hvo1.mono up8) (Im.sub [] w8) (by decide);obtain ⟨hdf1, hdf2⟩ := cy' hdd;refine ar' τok (fun z => Kp [] w8 z) ?_;refine rV τok [1, 2, 4, 5] 4 (mB 8 [0, 3, 6, 7]) ((Kp.refl [] w8).dr _) ?_;refine lk h13 ?_;refine lk h13 ?_;refine nV τok 0 3 (mB 8 [3, 6, 7]) ?_;refine fill [] rfl ?_;refine new fun ba wa hba hA hsa hka => ?_;have hka : Kp [] w8 wa := hka.rd;have hba : ba = w8.heap.size := hba;refine ⟨.inl hka, ?_⟩;refine nV τok 3 2 (mB 8 [6, 7]) ?_;refine ap τok rfl rfl (by decide) w8.heap.size (v := .slice (some ⟨ba, 0, none⟩) 0 0) (n := 0) (xs := []) (hI' (n := 0) hA (by omega) (by simp) (by simp [maxLen])) css.flatten hcf1 (hcc.imp_right fun ⟨b, o, h1, h3⟩ => ⟨b, o, h1, fun j u hj => (h3 j u hj).kp hka (by simp)⟩) hcf2 (by omega) (by simp only [maxLen]; omega) (by omega) fun vr wb hr8 hkr => ?_;rw [Nat.zero_add, List.nil_append] at hr8;have hkr : Kp [ba] wa wb := hkr;have k8b : Kp [] w8 wb := hka.trans hkr fun y hy hl => by simp at hy; omega
  refine ⟨.inl k8b, ?_⟩;refine nV τok 6 1 (mB 8 [7]) ?_;refine ap τok rfl rfl (by decide) w8.heap.size hr8 dss.flatten hdf1 (hdc.imp_right fun ⟨b, o, h1, h3⟩ => ⟨b, o, h1, fun j u hj => (h3 j u hj).kp k8b (by simp)⟩) hdf2 (by omega) (by simp only [maxLen]; omega) k8b.size fun v9 wc hr9 hk9 => ?_;have k8c : Kp [] w8 wc := k8b.trans hk9 fun y hy hl => by have := ho' hr8 y hy; omega
  refine ⟨.inl k8c, ?_⟩;obtain ⟨all, hall⟩ : ∃ l, l = ct.args ++ ct.out := ⟨_, rfl⟩
  have hlall : all.length <= 32 := by rw [hall]; simp; omega
  have hAll : SV (rSk rNd) (Im [] wc) all v9 := by
   rw [hall];have := mG' (w := w8) (C := Im [] w8) (R := rSk rNd) (l := ct.args ++ ct.out) (css := css ++ dss) (by simpa [show (rSk rNd).sz = 1 from rfl] using hr9) (hcd.append hdd) (by simp; omega);exact this.mono (Im.cn (by simp) k8c)
  obtain ⟨al, cl, rfl, hAl1, hAl2⟩ := id hAll;refine rV τok [7] 0 (mB 8 []) k8c ?_;refine dV ?_;have k5c := k58.tr k8c;have k0c := k05.tr k5c;refine loop τok (σ := Nat × Bool) (fun q => [(1, .int .i64 en), (3, pt b3), (9, .bool is), (11, .bool q.2), (12, .int .i64 (k : Int)), (14, .slice al all.length cl), (15, .int .i64 (q.1 : Int))])
   (fun q w' => q.1 <= all.length /\ q.2 = (nm || (all.take q.1).any (nmT en)) /\ Kp [] wc w') (fun q => all.length - q.1) (0, nm) ⟨rfl, rfl, rfl, rfl, rfl, rfl, rfl, trivial⟩ ⟨Nat.zero_le _, by simp, Kp.refl _ _⟩ ?_
  rintro ⟨i, n1⟩ wd ⟨hi, hn1, kcd⟩;simp only at hi hn1;have k5d := k5c.tr kcd;refine ac' (fun c2 => ?_) (fun c2 => ?_);rotate_left
  ·have c2 : ¬ (i : Int) < all.length := c2
   rw [List.take_of_length_le (by omega), hall] at hn1;refine i6 ?_;refine ⟨(k + 1, n1), by simp only; omega, rfl, ⟨rfl, rfl, rfl, rfl, rfl, trivial⟩, hlt, ?_, k5d⟩;simp only;rw [any_take hct, <- hnm, hn1]
   rfl
  have hil : i < all.length := by
   have : (i : Int) < all.length := c2;omega
  obtain ⟨t, ht, _⟩ := af' hil;obtain ⟨bq, oq, rfl, hcq⟩ := hAl1.at hil;obtain ⟨vt, hvt, hTt⟩ := qS' (hcq i t ht);obtain ⟨at_, ct_, rfl, ht1, ht2⟩ := id hTt;have htl := ht1.1;refine loop τok (σ := Nat × Bool) (fun q => [(1, .int .i64 en), (3, pt b3), (9, .bool is), (11, .bool q.2), (12, .int .i64 (k : Int)), (14, .slice (some ⟨bq, oq, none⟩) all.length cl), (15, .int .i64 (i : Int)), (16, .int .i64 (q.1 : Int))])
   (fun q w' => q.1 <= t.length /\ q.2 = (n1 || (t.take q.1).any (nmP en)) /\ Kp [] wd w') (fun q => t.length - q.1) (0, n1) ⟨rfl, rfl, rfl, rfl, rfl, rfl, rfl, rfl, trivial⟩ ⟨Nat.zero_le _, by simp, Kp.refl _ _⟩ ?_
  rintro ⟨j, n2⟩ we ⟨hj, hn2, kde⟩;simp only at hj hn2;have kce := kcd.tr kde;have k5e := k5c.tr kce;refine ix i rfl hil ?_;refine ld (Cl.cell ((hvt.tr kce).1)) ?_;refine ac' (fun c3 => ?_) (fun c3 => ?_);rotate_left
  ·have c3 : ¬ (j : Int) < t.length := c3
   rw [List.take_of_length_le (by omega)] at hn2;refine i6 ?_;refine ⟨(i + 1, n2), by simp only; omega, rfl, ⟨rfl, rfl, rfl, rfl, rfl, rfl, rfl, trivial⟩, hil, ?_, kce⟩;simp only;rw [any_take ht, <- Bool.or_assoc, <- hn1, hn2]
   rfl
  have hjl : j < t.length := by
   have : (j : Int) < t.length := c3;omega
  obtain ⟨m, hm, _⟩ := af' hjl;refine br (fun cn => ?_) (fun cn => ?_)
  ·have cn : n2 = true := cn
   refine i6 ?_;refine ⟨(j + 1, true), by simp only; omega, rfl, ⟨rfl, rfl, rfl, rfl, rfl, rfl, rfl, rfl, trivial⟩, hjl, ?_, kde⟩;simp only;rw [any_take hm, <- Bool.or_assoc, <- hn2, cn]
   rfl
  ·have cn : n2 = false := cn
   obtain ⟨bm, om, rfl, _, _, _, hcm⟩ := eG' ht1 hm;refine ix i rfl hil ?_;refine ld (Cl.cell ((hvt.tr kce).1)) ?_;refine ix j rfl hjl ?_;refine ldN [.int .i64 m.op, .int .i64 m.a, .int .i64 m.b] rfl (fun j v hj => (((hcm j v hj).tr kce).1)) ?_;refine run (dY' _ _ m ⟨9, en, 0⟩ we) ?_;refine i6 ?_;refine ⟨(j + 1, decide (m = ⟨9, en, 0⟩)), by simp only; omega, rfl, ⟨rfl, rfl, rfl, rfl, rfl, rfl, rfl, rfl, trivial⟩, hjl, ?_, kde⟩;simp only;rw [any_take hm, <- Bool.or_assoc, <- hn2, cn]
   rfl
end
end Go.Proofs.YtmpgcpemnjbgjaaGreat
namespace Go.Proofs.YtmpgcpemnjbgjaaGreat
open Go.Wx Cd Tm Lv Go.ChangeShapes Go.WideShapes Go.ChangeAt Go.RowKit
section
variable {H : Type} {enc : TypeId × Value -> H} {w : World} {spare : Nat -> Bool} {held : Bool}
theorem qd' {r : Reach} {b0 : Nat} {v : Value} {d : DataW H} {ps : List MemPlace} (hval : Value.okWide Tryz.prog w r b0 26 v) (h : DataW.Trod enc Tryz.prog w 0 spare held 26 v d ps) (hB : Rows.uptoBulk d <= 1048576) :
  ∃ x, BoV (Im [] w) x v := by
 obtain ⟨cs, rfl, hs⟩ := okWide_struct Tryz.underlying26 hval;obtain ⟨fuel, hf0⟩ := h;have hsz : cs.size = 5 := by rw [hs]; kernel_rfl
 obtain ⟨x, v1, v2, v3, e0, i0, i1, h1, h2, h3⟩ := tU' (cs := cs.toList) (by simpa using hsz) (by simpa [Value.cells] using hf0) hB;have e1 : cs = #[.int .i64 x.vars, v1, v2, .int .i64 x.nat, v3] := by
  have := congrArg List.toArray e0
  simpa using this
 subst e1;exact ⟨x, BoV.mono (C := Old w) ⟨v1, v2, v3, rfl, h1, h2, h3⟩ fun b o v h => ⟨Old.sub w _ _ _ h, by simp⟩⟩
end
end Go.Proofs.YtmpgcpemnjbgjaaGreat
