import Derived.Test.YtmlnlmkmpgkekaaGreatMy20
set_option linter.unusedVariables false
set_option linter.unusedSimpArgs false
set_option maxRecDepth 100000
set_option maxHeartbeats 4000000
namespace Go.Proofs.YtmlnlmkmpgkekaaGreat
open Go.Wx Cd Tm Lv
def Ones (g:G):Prop:=∀ x y v,g x y = some v -> v = 1
theorem Ones.bd {g:G} (h:Ones g) (x y:Int):0 <= (g x y).getD 0 /\ (g x y).getD 0 <= 1:=by
 cases hg:g x y with
 | none=>simp
 | some v=>have:=h x y v hg; simp [this]
theorem Ones.put {g:G} (h:Ones g) (x y:Int):Ones (putG g x y 1):=fun a b v hv=>by
 unfold putG at hv;split at hv
 ·exact (JB hv).symm
 ·exact h a b v hv
section
variable {C:Mem} {w:World} {B:BoT}
theorem jw' (hS:Sub C w) {vb:Value} (hvb:BoV C B vb) :
  CC 70 #[vb] w (fun e w'=>e = .returned (.bool (sf' B)) /\ Kp [] w w'):=by
 refine oF Tryz.func70 ?_;obtain ⟨RES,hRES⟩:∃ r,sf' B = r:=⟨_,rfl⟩
 rw [hRES];unfold sf' at hRES;have hvb':=hvb;obtain ⟨v1,v2,v3,rfl,hO,hE,hP⟩:=hvb;obtain ⟨ae,ce,rfl,hE1,_⟩:=id hE;obtain ⟨ap,cp,rfl,hP1,_⟩:=id hP;have lP:=hP1.1;have no:∀ {w'},Kp [] w w' -> RES = false -> Ending.returned (Go.Wx.one [.bool false]) = .returned (.bool RES) /\ Kp [] w w':=fun k h=>by subst h; exact ⟨rfl,k⟩
 refine dT' (args:=[_]) 89 [.tmp 2] Tryz.func70 rfl rfl rfl (Nat.le_of_ble_eq_true rfl) ?_;refine aX' τok ?_;refine new fun b1 w1 hb1 h1 hs1 hk1=>?_;have h1:Bk w1.heap b1 [iV B.vars,v1,.slice ae B.ents.length ce,iV B.nat,.slice ap B.prims.length cp] 26:=h1;refine fF' τok (σ:=Unit) (fun _=>[(1,pt b1)]) (fun _ w'=>Kp [] w w' /\ Bk w'.heap b1 [iV B.vars,v1,.slice ae B.ents.length ce,iV B.nat,.slice ap B.prims.length cp] 26 /\ nR' B B.prims (fun _ _=>none) = RES) ?_ ?_
 ·refine lb h1 ?_
  refine ac' (fun g1=>?_) (fun g1=>?_)
  ·have g1:B.nat ≠ -1:=g1
   refine ldN [iV B.vars,v1,.slice ae B.ents.length ce,iV B.nat,.slice ap B.prims.length cp] rfl (bZ h1) ?_;refine lb h1 ?_;refine ab' (nU' (hS.tr hk1) hvb' B.nat) ?_;rintro e w2 ⟨rfl,hk2⟩;have k02:=hk1.tr hk2;cases hn:vI' B B.nat with
   | false =>
    rw [if_pos (.inl ⟨g1,hn⟩)] at hRES;exact no k02 hRES.symm
   | true =>
    rw [if_neg (by
     rintro (h | h)
     ·rw [hn] at h
      cases h.2
     ·exact g1 h.1)] at hRES
    have h1:=h1.kp hk2 (by simp);refine lb h1 ?_;refine bE' (p:=B.nat = -1) g1 ?_;exact ⟨(),rfl,⟨rfl,trivial⟩,k02,h1,hRES⟩
  ·have g1:¬ B.nat ≠ -1:=g1
   refine lb h1 ?_;refine ar' (p:=B.nat = -1) (by omega) ?_;refine lb h1 ?_;refine ac' (fun g2=>?_) (fun g2=>?_)
   ·have g2:(0:Int) < (B.prims.length:Int):=g2
    rw [if_pos (.inr ⟨by omega,by omega⟩)] at hRES;exact no hk1 hRES.symm
   have g2:¬ (0:Int) < (B.prims.length:Int):=g2;rw [if_neg (by
    rintro (h | h)
    ·exact g1 h.1
    ·omega)] at hRES
   exact ⟨(),rfl,⟨rfl,trivial⟩,hk1,h1,hRES⟩
 ·rintro _ w2 ⟨k02,h1,hRES⟩
  have hb1l:=h1.lt;refine fW' τok ?_;refine up' fun bm w3 hbm hG hs3 hk3=>?_;have k03:=k02.tr hk3;have h1:=h1.kp hk3 (by simp);have hbml:w.heap.size <= bm /\ b1 < bm:=by
   have q1:=k02.size;have q2:bm = (w2).heap.size:=hbm;have q3:=h1.lt;have q4:=hb1l;omega
  refine lb h1 ?_;refine lp τok (σ:=Nat × G) (fun q=>[(1,pt b1),(3,.map (some bm)),(31,.slice ap B.prims.length cp),(32,iV (B.prims.length:Int)),(33,iV (q.1:Int))])
   (fun q w'=>q.1 <= B.prims.length /\ Ones q.2 /\ GrP w'.heap bm q.2 /\ Bk w'.heap b1 [iV B.vars,v1,.slice ae B.ents.length ce,iV B.nat,.slice ap B.prims.length cp] 26 /\ Kp [] w w' /\ nR' B (B.prims.drop q.1) q.2 = RES) (fun q=>B.prims.length - q.1) (0,fun _ _=>none) rfl
   ⟨rfl,rfl,rfl,rfl,rfl,trivial⟩ ⟨KV _,(fun x y v h=>by cases h),hG,h1,k03,hRES⟩ ?_
  clear hRES hG h1 k03
  rintro ⟨i,gm⟩ w4 ⟨hi,hones,hG4,h14,k04,hres⟩;simp only at hi hones hG4 hres;refine ac' (fun g=>?_) (fun g=>?_)
  ·have g:(i:Int) < (B.prims.length:Int):=g
   obtain ⟨p,hp,hd⟩:=af' (l:=B.prims) (k:=i) (by omega);rw [hd] at hres;simp only [nR'] at hres;obtain ⟨bp,op,cp',pp,hpat⟩:=hP.at hp;obtain ⟨cs,⟨rfl,hi1,hi2⟩,hpc⟩:=hpat;injection pp with q1 q2 q3
   subst q1 q3;refine ix i rfl (by omega) ?_;refine ldN [iV p.1,iV p.2] rfl (fun j u hj=>hS.tr k04 _ _ _ (hpc j u hj)) ?_;refine new fun b5 wb hb5 h5 hs5 hk5=>?_;refine stN (vs:=[iV p.1,iV p.2]) h5 rfl (by simp [Value.oneCell']) fun w5 h5 hs6 hk6=>?_;have k45:=hk5.newSt hb5 hk6;have h5:Bk w5.heap b5 [iV p.1,iV p.2] 196:=h5;have hG5:=hG4.kp k45 (by simp);have h14:=h14.kp k45 (by simp);have k04:=k04.tr k45;have o1:∀ v ∈ [iV p.1,iV (-1)],v.oneCell' = true:=fun v hv=>by simp at hv; rcases hv with rfl | rfl <;> rfl
   have o2:∀ v ∈ [iV (-1),iV p.2],v.oneCell' = true:=fun v hv=>by simp at hv; rcases hv with rfl | rfl <;> rfl
   refine aq' τok (fun z=>Kp [] w5 z) ?_;refine rV τok (rg 0 6) 4 (mR 10 6) (kQd w5) ?_;refine lk h5 ?_;refine lk h5 ?_;refine ga' τok 6 7 3 (mR 10 7) (mB 10 [6,8,9]) rfl rfl rfl rfl rfl (by kernel_rfl) ?_ ?_
   ·refine new fun b6 wc hb6 h6 hs7 hk7=>?_
    have hk7:Kp [] w5 wc:=hk7.rd;have lb6:w5.heap.size <= b6:=by
     have:b6 = w5.heap.size:=hb6;omega
    refine ⟨.inl hk7,?_⟩;refine nV τok 7 2 (mR 10 8) ?_;refine new fun b7 wd hb7 h7 hs8 hk8=>?_;have k36:=hk7.tr hk8;have n67:b6 ≠ b7:=by have:=h6.lt; omega
    have lb7:w5.heap.size <= b7:=by have:=hk7.size; omega
    refine ⟨.inl k36,?_⟩;refine nV τok 8 1 (mR 10 9) ?_;refine stN (vs:=[iV p.1,iV (-1)]) (h6.kp hk8 (by simp)) rfl o1 fun we h6' hs9 hk9=>?_;have k37:Kp [] w5 we:=k36.trans hk9 fun y hy hl=>by simp at hy; omega
    refine ⟨.inl k37,?_⟩;refine nV τok 9 0 (mR 10 10) ?_;refine stN (vs:=[iV (-1),iV p.2]) (h7.kp hk9 (by simpa using Ne.symm n67)) rfl o2 fun w8 h7' hs10 hk10=>?_;refine ⟨.inr (by kernel_rfl),?_⟩;refine dV ?_;have k48:Kp [] w5 w8:=k37.trans hk10 fun y hy hl=>by simp at hy; omega
    have k08:=k04.tr k48;have h68:Bk w8.heap b6 [iV p.1,iV (-1)] 196:=(h6'.kp hk10 (by simpa using n67))
    have h78:Bk w8.heap b7 [iV (-1),iV p.2] 196:=h7';have h58:=h5.kp k48 (by simp);have h1w:=h14.kp k48 (by simp);have hG8:=hG5.kp k48 (by simp);have kd:Kp [] w8 (dr w8):=(Kp.refl [] w8).dr _;refine aq' τok (fun z=>Kp [] w8 z) ?_;refine rV τok [0,1,2,3,4,5,6,7,8,9,10,11,12,13,14,15,16,17,18,19,20,21,22,23,24,25,26,27,28,29,30,31,32,33,35,36] 5 (mB 41 [34,37,38,39,40]) kd ?_;refine lk h58 ?_;refine ac' (fun y1=>?_) (fun y1=>?_)
    ·have y1:p.1 < 0:=y1
     rw [if_pos (.inl y1)] at hres;refine ga' τok 34 37 4 (mR 41 37) (mB 41 [34,38,39,40]) rfl rfl rfl rfl rfl (by kernel_rfl) ?_ ?_
     ·refine ⟨.inl kd,?_⟩
      refine nV τok 37 3 (mR 41 38) ?_;refine ⟨.inl kd,?_⟩;refine rV τok [38,39,40] 0 (mR 41 41) kd ?_;refine dV ?_;exact no (k08.dr _) hres.symm
     ·refine ⟨.inl kd,?_⟩
      refine nV τok 34 3 (mR 41 38) ?_;refine ⟨.inl kd,?_⟩;refine rV τok [38,39,40] 0 (mR 41 41) kd ?_;refine dV ?_;exact no (k08.dr _) hres.symm
    have y1:¬ p.1 < 0:=y1;refine lk h58 ?_;refine lk h1w ?_;refine ac' (fun y2=>?_) (fun y2=>?_)
    ·have y2:(B.ents.length:Int) <= p.1:=y2
     rw [if_pos (.inr (.inl y2))] at hres;refine ga' τok 34 37 4 (mR 41 37) (mB 41 [34,38,39,40]) rfl rfl rfl rfl rfl (by kernel_rfl) ?_ ?_
     ·refine ⟨.inl kd,?_⟩
      refine nV τok 37 3 (mR 41 38) ?_;refine ⟨.inl kd,?_⟩;refine rV τok [38,39,40] 0 (mR 41 41) kd ?_;refine dV ?_;exact no (k08.dr _) hres.symm
     ·refine ⟨.inl kd,?_⟩
      refine nV τok 34 3 (mR 41 38) ?_;refine ⟨.inl kd,?_⟩;refine rV τok [38,39,40] 0 (mR 41 41) kd ?_;refine dV ?_;exact no (k08.dr _) hres.symm
    have y2:¬ (B.ents.length:Int) <= p.1:=y2;obtain ⟨n,hn⟩:∃ n:Nat,p.1 = (n:Int):=⟨p.1.toNat,by omega⟩
    obtain ⟨be,oe,ce',ae',cc',pe,hc1,hc2⟩:=kK' hS hE (a:=n) (by omega);injection pe with q1 q2 q3
    subst q1 q3;refine lk h1w ?_;refine lk h58 ?_;refine ix n hn (by omega) ?_;refine ldK (hS.tr k08 _ _ _ hc1) ?_;refine ac' (fun y3=>?_) (fun y3=>?_)
    ·have y3:(bm' B (n:Int)).kind ≠ 2:=y3
     rw [if_pos (.inr (.inr (.inl (by rw [hn]; exact y3))))] at hres;refine ga' τok 34 37 4 (mR 41 37) (mB 41 [34,38,39,40]) rfl rfl rfl rfl rfl (by kernel_rfl) ?_ ?_
     ·refine ⟨.inl kd,?_⟩
      refine nV τok 37 3 (mR 41 38) ?_;refine ⟨.inl kd,?_⟩;refine rV τok [38,39,40] 0 (mR 41 41) kd ?_;refine dV ?_;exact no (k08.dr _) hres.symm
     ·refine ⟨.inl kd,?_⟩
      refine nV τok 34 3 (mR 41 38) ?_;refine ⟨.inl kd,?_⟩;refine rV τok [38,39,40] 0 (mR 41 41) kd ?_;refine dV ?_;exact no (k08.dr _) hres.symm
    have y3:¬ (bm' B (n:Int)).kind ≠ 2:=y3;refine lk h58 ?_;refine ac' (fun y4=>?_) (fun y4=>?_)
    ·have y4:p.2 < 1:=y4
     rw [if_pos (.inr (.inr (.inr (.inl y4))))] at hres;refine ga' τok 34 37 4 (mR 41 37) (mB 41 [34,38,39,40]) rfl rfl rfl rfl rfl (by kernel_rfl) ?_ ?_
     ·refine ⟨.inl kd,?_⟩
      refine nV τok 37 3 (mR 41 38) ?_;refine ⟨.inl kd,?_⟩;refine rV τok [38,39,40] 0 (mR 41 41) kd ?_;refine dV ?_;exact no (k08.dr _) hres.symm
     ·refine ⟨.inl kd,?_⟩
      refine nV τok 34 3 (mR 41 38) ?_;refine ⟨.inl kd,?_⟩;refine rV τok [38,39,40] 0 (mR 41 41) kd ?_;refine dV ?_;exact no (k08.dr _) hres.symm
    have y4:¬ p.2 < 1:=y4;refine lk h58 ?_;refine ac' (fun y5=>?_) (fun y5=>?_)
    ·have y5:3 < p.2:=y5
     rw [if_pos (.inr (.inr (.inr (.inr (.inl y5)))))] at hres;refine ga' τok 34 37 4 (mR 41 37) (mB 41 [34,38,39,40]) rfl rfl rfl rfl rfl (by kernel_rfl) ?_ ?_
     ·refine ⟨.inl kd,?_⟩
      refine nV τok 37 3 (mR 41 38) ?_;refine ⟨.inl kd,?_⟩;refine rV τok [38,39,40] 0 (mR 41 41) kd ?_;refine dV ?_;exact no (k08.dr _) hres.symm
     ·refine ⟨.inl kd,?_⟩
      refine nV τok 34 3 (mR 41 38) ?_;refine ⟨.inl kd,?_⟩;refine rV τok [38,39,40] 0 (mR 41 41) kd ?_;refine dV ?_;exact no (k08.dr _) hres.symm
    have y5:¬ 3 < p.2:=y5;rw [<- hn] at y3;refine cB' [iV p.1,iV (-1)] rfl (bZ h68) ?_;refine cB' [iV (-1),iV p.2] rfl (bZ h78) ?_;have hG8d:GrP ((dr w8):World).heap bm gm:=hG8;have bd1:=hones.bd p.1 (-1);have bd2:=hones.bd (-1) p.2;refine ga' τok 34 37 4 (mR 41 37) (mB 41 [34,38,39,40]) rfl rfl rfl rfl rfl (by kernel_rfl) ?_ ?_
    ·refine run (cO' hG8d p.1 (-1) false) ?_
     refine ⟨.inl kd,?_⟩;refine nV τok 37 3 (mR 41 38) ?_;refine run (cO' hG8d (-1) p.2 false) ?_;refine ⟨.inl kd,?_⟩;refine rV τok [38,39,40] 0 (mR 41 41) kd ?_;refine i6 ?_;refine dV ?_;refine ac' (fun y6=>?_) (fun y6=>?_)
     ·have y6:(0:Int) < (gm p.1 (-1)).getD 0 + (gm (-1) p.2).getD 0:=y6
      rw [if_pos (.inr (.inr (.inr (.inr (.inr y6)))))] at hres;exact no (k08.dr _) hres.symm
     have y6:¬ (0:Int) < (gm p.1 (-1)).getD 0 + (gm (-1) p.2).getD 0:=y6;rw [if_neg (by omega)] at hres;have kd0:Kp [] w8 (dr w8):=(Kp.refl [] w8).dr _;have hbmlt:=hG5.lt;have n6:b6 ∉ [bm]:=by simp; omega
     have n7:b7 ∉ [bm]:=by simp; omega
     refine aq' τok (fun z=>Kp [bm] w8 z) ?_;refine rV τok (rg 0 4) 2 (mR 6 4) ((kd0.dr _).weak (by simp)) ?_;refine oi' [iV p.1,iV (-1)] rfl (fun z hz j u hj=>by rw [KW]; exact (h68.kp hz n6).cl hj) ?_;refine oi' [iV (-1),iV p.2] rfl (fun z hz j u hj=>by rw [KW]; exact (h78.kp hz n7).cl hj) ?_;refine nV τok 4 1 (mR 6 5) ?_;have hG8':GrP ({ w8 with drawn:=w8.drawn + 1 + 1 }:World).heap bm gm:=hG8;refine dN' hG8' p.1 (-1) 1 fun w9 hG9 hs9 hk9=>?_;refine ⟨.inl hk9.rd.rd,?_⟩;refine nV τok 5 0 (mR 6 6) ?_;refine dN' hG9 (-1) p.2 1 fun wa hGa hsa hka=>?_;refine ⟨.inr (by kernel_rfl),?_⟩;refine dV ?_;refine i6 ?_;have hk9:Kp [bm] w8 w9:=hk9.rd.rd;have k8a:Kp [bm] w8 wa:=hk9.tq hka;have k0a:Kp [] w wa:=k08.trans k8a fun y hy hl=>by
      obtain rfl:y = bm:=by simpa using hy
      omega
     exact ⟨(i + 1,putG (putG gm p.1 (-1) 1) (-1) p.2 1),by simp only; omega,rfl,⟨rfl,rfl,rfl,rfl,rfl,trivial⟩,by show i + 1 <= _; omega,(hones.put _ _).put _ _,hGa,h1w.kp k8a (by simp; omega),k0a,hres⟩
    ·refine run (cO' hG8d (-1) p.2 false) ?_
     refine ⟨.inl kd,?_⟩;refine nV τok 34 3 (mR 41 38) ?_;refine run (cO' hG8d p.1 (-1) false) ?_;refine ⟨.inl kd,?_⟩;refine rV τok [38,39,40] 0 (mR 41 41) kd ?_;refine i6 ?_;refine dV ?_;refine ac' (fun y6=>?_) (fun y6=>?_)
     ·have y6:(0:Int) < (gm p.1 (-1)).getD 0 + (gm (-1) p.2).getD 0:=y6
      rw [if_pos (.inr (.inr (.inr (.inr (.inr y6)))))] at hres;exact no (k08.dr _) hres.symm
     have y6:¬ (0:Int) < (gm p.1 (-1)).getD 0 + (gm (-1) p.2).getD 0:=y6;rw [if_neg (by omega)] at hres;have kd0:Kp [] w8 (dr w8):=(Kp.refl [] w8).dr _;have hbmlt:=hG5.lt;have n6:b6 ∉ [bm]:=by simp; omega
     have n7:b7 ∉ [bm]:=by simp; omega
     refine aq' τok (fun z=>Kp [bm] w8 z) ?_;refine rV τok (rg 0 4) 2 (mR 6 4) ((kd0.dr _).weak (by simp)) ?_;refine oi' [iV p.1,iV (-1)] rfl (fun z hz j u hj=>by rw [KW]; exact (h68.kp hz n6).cl hj) ?_;refine oi' [iV (-1),iV p.2] rfl (fun z hz j u hj=>by rw [KW]; exact (h78.kp hz n7).cl hj) ?_;refine nV τok 4 1 (mR 6 5) ?_;have hG8':GrP ({ w8 with drawn:=w8.drawn + 1 + 1 }:World).heap bm gm:=hG8;refine dN' hG8' p.1 (-1) 1 fun w9 hG9 hs9 hk9=>?_;refine ⟨.inl hk9.rd.rd,?_⟩;refine nV τok 5 0 (mR 6 6) ?_;refine dN' hG9 (-1) p.2 1 fun wa hGa hsa hka=>?_;refine ⟨.inr (by kernel_rfl),?_⟩;refine dV ?_;refine i6 ?_;have hk9:Kp [bm] w8 w9:=hk9.rd.rd;have k8a:Kp [bm] w8 wa:=hk9.tq hka;have k0a:Kp [] w wa:=k08.trans k8a fun y hy hl=>by
      obtain rfl:y = bm:=by simpa using hy
      omega
     exact ⟨(i + 1,putG (putG gm p.1 (-1) 1) (-1) p.2 1),by simp only; omega,rfl,⟨rfl,rfl,rfl,rfl,rfl,trivial⟩,by show i + 1 <= _; omega,(hones.put _ _).put _ _,hGa,h1w.kp k8a (by simp; omega),k0a,hres⟩
   ·refine new fun b7 wc hb7 h7 hs7 hk7=>?_
    have hk7:Kp [] w5 wc:=hk7.rd;have lb7:w5.heap.size <= b7:=by
     have:b7 = w5.heap.size:=hb7;omega
    refine ⟨.inl hk7,?_⟩;refine nV τok 6 2 (mR 10 8) ?_;refine new fun b6 wd hb6 h6 hs8 hk8=>?_;have k36:=hk7.tr hk8;have n67:b6 ≠ b7:=by have:=h7.lt; omega
    have lb6:w5.heap.size <= b6:=by have:=hk7.size; omega
    refine ⟨.inl k36,?_⟩;refine nV τok 8 1 (mR 10 9) ?_;refine stN (vs:=[iV p.1,iV (-1)]) h6 rfl o1 fun we h6' hs9 hk9=>?_;have k37:Kp [] w5 we:=k36.trans hk9 fun y hy hl=>by simp at hy; omega
    refine ⟨.inl k37,?_⟩;refine nV τok 9 0 (mR 10 10) ?_;refine stN (vs:=[iV (-1),iV p.2]) ((h7.kp hk8 (by simp)).kp hk9 (by simpa using Ne.symm n67)) rfl o2 fun w8 h7' hs10 hk10=>?_;refine ⟨.inr (by kernel_rfl),?_⟩;refine dV ?_;have k48:Kp [] w5 w8:=k37.trans hk10 fun y hy hl=>by simp at hy; omega
    have k08:=k04.tr k48;have h68:Bk w8.heap b6 [iV p.1,iV (-1)] 196:=(h6'.kp hk10 (by simpa using n67))
    have h78:Bk w8.heap b7 [iV (-1),iV p.2] 196:=h7';have h58:=h5.kp k48 (by simp);have h1w:=h14.kp k48 (by simp);have hG8:=hG5.kp k48 (by simp);have kd:Kp [] w8 (dr w8):=(Kp.refl [] w8).dr _;refine aq' τok (fun z=>Kp [] w8 z) ?_;refine rV τok [0,1,2,3,4,5,6,7,8,9,10,11,12,13,14,15,16,17,18,19,20,21,22,23,24,25,26,27,28,29,30,31,32,33,35,36] 5 (mB 41 [34,37,38,39,40]) kd ?_;refine lk h58 ?_;refine ac' (fun y1=>?_) (fun y1=>?_)
    ·have y1:p.1 < 0:=y1
     rw [if_pos (.inl y1)] at hres;refine ga' τok 34 37 4 (mR 41 37) (mB 41 [34,38,39,40]) rfl rfl rfl rfl rfl (by kernel_rfl) ?_ ?_
     ·refine ⟨.inl kd,?_⟩
      refine nV τok 37 3 (mR 41 38) ?_;refine ⟨.inl kd,?_⟩;refine rV τok [38,39,40] 0 (mR 41 41) kd ?_;refine dV ?_;exact no (k08.dr _) hres.symm
     ·refine ⟨.inl kd,?_⟩
      refine nV τok 34 3 (mR 41 38) ?_;refine ⟨.inl kd,?_⟩;refine rV τok [38,39,40] 0 (mR 41 41) kd ?_;refine dV ?_;exact no (k08.dr _) hres.symm
    have y1:¬ p.1 < 0:=y1;refine lk h58 ?_;refine lk h1w ?_;refine ac' (fun y2=>?_) (fun y2=>?_)
    ·have y2:(B.ents.length:Int) <= p.1:=y2
     rw [if_pos (.inr (.inl y2))] at hres;refine ga' τok 34 37 4 (mR 41 37) (mB 41 [34,38,39,40]) rfl rfl rfl rfl rfl (by kernel_rfl) ?_ ?_
     ·refine ⟨.inl kd,?_⟩
      refine nV τok 37 3 (mR 41 38) ?_;refine ⟨.inl kd,?_⟩;refine rV τok [38,39,40] 0 (mR 41 41) kd ?_;refine dV ?_;exact no (k08.dr _) hres.symm
     ·refine ⟨.inl kd,?_⟩
      refine nV τok 34 3 (mR 41 38) ?_;refine ⟨.inl kd,?_⟩;refine rV τok [38,39,40] 0 (mR 41 41) kd ?_;refine dV ?_;exact no (k08.dr _) hres.symm
    have y2:¬ (B.ents.length:Int) <= p.1:=y2;obtain ⟨n,hn⟩:∃ n:Nat,p.1 = (n:Int):=⟨p.1.toNat,by omega⟩
    obtain ⟨be,oe,ce',ae',cc',pe,hc1,hc2⟩:=kK' hS hE (a:=n) (by omega);injection pe with q1 q2 q3
    subst q1 q3;refine lk h1w ?_;refine lk h58 ?_;refine ix n hn (by omega) ?_;refine ldK (hS.tr k08 _ _ _ hc1) ?_;refine ac' (fun y3=>?_) (fun y3=>?_)
    ·have y3:(bm' B (n:Int)).kind ≠ 2:=y3
     rw [if_pos (.inr (.inr (.inl (by rw [hn]; exact y3))))] at hres;refine ga' τok 34 37 4 (mR 41 37) (mB 41 [34,38,39,40]) rfl rfl rfl rfl rfl (by kernel_rfl) ?_ ?_
     ·refine ⟨.inl kd,?_⟩
      refine nV τok 37 3 (mR 41 38) ?_;refine ⟨.inl kd,?_⟩;refine rV τok [38,39,40] 0 (mR 41 41) kd ?_;refine dV ?_;exact no (k08.dr _) hres.symm
     ·refine ⟨.inl kd,?_⟩
      refine nV τok 34 3 (mR 41 38) ?_;refine ⟨.inl kd,?_⟩;refine rV τok [38,39,40] 0 (mR 41 41) kd ?_;refine dV ?_;exact no (k08.dr _) hres.symm
    have y3:¬ (bm' B (n:Int)).kind ≠ 2:=y3;refine lk h58 ?_;refine ac' (fun y4=>?_) (fun y4=>?_)
    ·have y4:p.2 < 1:=y4
     rw [if_pos (.inr (.inr (.inr (.inl y4))))] at hres;refine ga' τok 34 37 4 (mR 41 37) (mB 41 [34,38,39,40]) rfl rfl rfl rfl rfl (by kernel_rfl) ?_ ?_
     ·refine ⟨.inl kd,?_⟩
      refine nV τok 37 3 (mR 41 38) ?_;refine ⟨.inl kd,?_⟩;refine rV τok [38,39,40] 0 (mR 41 41) kd ?_;refine dV ?_;exact no (k08.dr _) hres.symm
     ·refine ⟨.inl kd,?_⟩
      refine nV τok 34 3 (mR 41 38) ?_;refine ⟨.inl kd,?_⟩;refine rV τok [38,39,40] 0 (mR 41 41) kd ?_;refine dV ?_;exact no (k08.dr _) hres.symm
    have y4:¬ p.2 < 1:=y4;refine lk h58 ?_;refine ac' (fun y5=>?_) (fun y5=>?_)
    ·have y5:3 < p.2:=y5
     rw [if_pos (.inr (.inr (.inr (.inr (.inl y5)))))] at hres;refine ga' τok 34 37 4 (mR 41 37) (mB 41 [34,38,39,40]) rfl rfl rfl rfl rfl (by kernel_rfl) ?_ ?_
     ·refine ⟨.inl kd,?_⟩
      refine nV τok 37 3 (mR 41 38) ?_;refine ⟨.inl kd,?_⟩;refine rV τok [38,39,40] 0 (mR 41 41) kd ?_;refine dV ?_;exact no (k08.dr _) hres.symm
     ·refine ⟨.inl kd,?_⟩
      refine nV τok 34 3 (mR 41 38) ?_;refine ⟨.inl kd,?_⟩;refine rV τok [38,39,40] 0 (mR 41 41) kd ?_;refine dV ?_;exact no (k08.dr _) hres.symm
    have y5:¬ 3 < p.2:=y5;rw [<- hn] at y3;refine cB' [iV p.1,iV (-1)] rfl (bZ h68) ?_;refine cB' [iV (-1),iV p.2] rfl (bZ h78) ?_;have hG8d:GrP ((dr w8):World).heap bm gm:=hG8;have bd1:=hones.bd p.1 (-1);have bd2:=hones.bd (-1) p.2;refine ga' τok 34 37 4 (mR 41 37) (mB 41 [34,38,39,40]) rfl rfl rfl rfl rfl (by kernel_rfl) ?_ ?_
    ·refine run (cO' hG8d p.1 (-1) false) ?_
     refine ⟨.inl kd,?_⟩;refine nV τok 37 3 (mR 41 38) ?_;refine run (cO' hG8d (-1) p.2 false) ?_;refine ⟨.inl kd,?_⟩;refine rV τok [38,39,40] 0 (mR 41 41) kd ?_;refine i6 ?_;refine dV ?_;refine ac' (fun y6=>?_) (fun y6=>?_)
     ·have y6:(0:Int) < (gm p.1 (-1)).getD 0 + (gm (-1) p.2).getD 0:=y6
      rw [if_pos (.inr (.inr (.inr (.inr (.inr y6)))))] at hres;exact no (k08.dr _) hres.symm
     have y6:¬ (0:Int) < (gm p.1 (-1)).getD 0 + (gm (-1) p.2).getD 0:=y6;rw [if_neg (by omega)] at hres;have kd0:Kp [] w8 (dr w8):=(Kp.refl [] w8).dr _;have hbmlt:=hG5.lt;have n6:b6 ∉ [bm]:=by simp; omega
     have n7:b7 ∉ [bm]:=by simp; omega
     refine aq' τok (fun z=>Kp [bm] w8 z) ?_;refine rV τok (rg 0 4) 2 (mR 6 4) ((kd0.dr _).weak (by simp)) ?_;refine oi' [iV p.1,iV (-1)] rfl (fun z hz j u hj=>by rw [KW]; exact (h68.kp hz n6).cl hj) ?_;refine oi' [iV (-1),iV p.2] rfl (fun z hz j u hj=>by rw [KW]; exact (h78.kp hz n7).cl hj) ?_;refine nV τok 4 1 (mR 6 5) ?_;have hG8':GrP ({ w8 with drawn:=w8.drawn + 1 + 1 }:World).heap bm gm:=hG8;refine dN' hG8' p.1 (-1) 1 fun w9 hG9 hs9 hk9=>?_;refine ⟨.inl hk9.rd.rd,?_⟩;refine nV τok 5 0 (mR 6 6) ?_;refine dN' hG9 (-1) p.2 1 fun wa hGa hsa hka=>?_;refine ⟨.inr (by kernel_rfl),?_⟩;refine dV ?_;refine i6 ?_;have hk9:Kp [bm] w8 w9:=hk9.rd.rd;have k8a:Kp [bm] w8 wa:=hk9.tq hka;have k0a:Kp [] w wa:=k08.trans k8a fun y hy hl=>by
      obtain rfl:y = bm:=by simpa using hy
      omega
     exact ⟨(i + 1,putG (putG gm p.1 (-1) 1) (-1) p.2 1),by simp only; omega,rfl,⟨rfl,rfl,rfl,rfl,rfl,trivial⟩,by show i + 1 <= _; omega,(hones.put _ _).put _ _,hGa,h1w.kp k8a (by simp; omega),k0a,hres⟩
    ·refine run (cO' hG8d (-1) p.2 false) ?_
     refine ⟨.inl kd,?_⟩;refine nV τok 34 3 (mR 41 38) ?_;refine run (cO' hG8d p.1 (-1) false) ?_;refine ⟨.inl kd,?_⟩;refine rV τok [38,39,40] 0 (mR 41 41) kd ?_;refine i6 ?_;refine dV ?_;refine ac' (fun y6=>?_) (fun y6=>?_)
     ·have y6:(0:Int) < (gm p.1 (-1)).getD 0 + (gm (-1) p.2).getD 0:=y6
      rw [if_pos (.inr (.inr (.inr (.inr (.inr y6)))))] at hres;exact no (k08.dr _) hres.symm
     have y6:¬ (0:Int) < (gm p.1 (-1)).getD 0 + (gm (-1) p.2).getD 0:=y6;rw [if_neg (by omega)] at hres;have kd0:Kp [] w8 (dr w8):=(Kp.refl [] w8).dr _;have hbmlt:=hG5.lt;have n6:b6 ∉ [bm]:=by simp; omega
     have n7:b7 ∉ [bm]:=by simp; omega
     refine aq' τok (fun z=>Kp [bm] w8 z) ?_;refine rV τok (rg 0 4) 2 (mR 6 4) ((kd0.dr _).weak (by simp)) ?_;refine oi' [iV p.1,iV (-1)] rfl (fun z hz j u hj=>by rw [KW]; exact (h68.kp hz n6).cl hj) ?_;refine oi' [iV (-1),iV p.2] rfl (fun z hz j u hj=>by rw [KW]; exact (h78.kp hz n7).cl hj) ?_;refine nV τok 4 1 (mR 6 5) ?_;have hG8':GrP ({ w8 with drawn:=w8.drawn + 1 + 1 }:World).heap bm gm:=hG8;refine dN' hG8' p.1 (-1) 1 fun w9 hG9 hs9 hk9=>?_;refine ⟨.inl hk9.rd.rd,?_⟩;refine nV τok 5 0 (mR 6 6) ?_;refine dN' hG9 (-1) p.2 1 fun wa hGa hsa hka=>?_;refine ⟨.inr (by kernel_rfl),?_⟩;refine dV ?_;refine i6 ?_;have hk9:Kp [bm] w8 w9:=hk9.rd.rd;have k8a:Kp [bm] w8 wa:=hk9.tq hka;have k0a:Kp [] w wa:=k08.trans k8a fun y hy hl=>by
      obtain rfl:y = bm:=by simpa using hy
      omega
     exact ⟨(i + 1,putG (putG gm p.1 (-1) 1) (-1) p.2 1),by simp only; omega,rfl,⟨rfl,rfl,rfl,rfl,rfl,trivial⟩,by show i + 1 <= _; omega,(hones.put _ _).put _ _,hGa,h1w.kp k8a (by simp; omega),k0a,hres⟩
  ·have g:¬ (i:Int) < (B.prims.length:Int):=g
   rw [JY (by omega)] at hres;simp only [nR'] at hres;subst hres;exact ⟨rfl,k04⟩
end
theorem kL' {a b:Int} (h:a ≠ 0):aU' a b = a:=by unfold aU'; rw [if_pos h]
section
variable {C:Mem} {w:World} {B:BoT}
theorem kM' (hS:Sub C w) (hold:∀ b o v,C b o v -> b < w.heap.size) {vb:Value} (hvb:BoV C B vb) :
  CC 36 #[vb] w (fun e w'=>e = .returned (iV (aS' B)) /\ Kp [] w w'):=by
 refine oF Tryz.func36 ?_;obtain ⟨RES,hRES⟩:∃ r,aS' B = r:=⟨_,rfl⟩
 rw [hRES];unfold aS' at hRES;have hvb':=hvb;obtain ⟨v1,v2,v3,rfl,hO,hE,hP⟩:=hvb;obtain ⟨ao,co,rfl,hO1,_⟩:=id hO;obtain ⟨ae,ce,rfl,hE1,_⟩:=id hE;obtain ⟨ap,cp,rfl,hP1,_⟩:=id hP;have lE:=hE1.1;refine cO (args:=[_]) 39 [.tmp 2] τok Tryz.func36 ?_;refine new fun b1 w1 hb1 h1 hs1 hk1=>?_;have h1:Bk w1.heap b1 [iV B.vars,.slice ao B.orders.length co,.slice ae B.ents.length ce,iV B.nat,.slice ap B.prims.length cp] 26:=h1;refine lb h1 ?_;refine lb h1 ?_;refine ab' (ry' B.vars B.orders ao co w1 (Sl.ordV hO1 (hS.tr hk1))) ?_;rintro e w2 ⟨rfl,hk2⟩;have k02:=hk1.tr hk2;have h1:=h1.kp hk2 (by simp);refine ac' (fun g1=>?_) (fun g1=>?_)
 ·have g1:gL' B.vars B.orders ≠ 0:=g1
  rw [if_pos g1] at hRES;subst hRES;exact ⟨rfl,k02⟩
 have g1:¬ gL' B.vars B.orders ≠ 0:=g1;rw [if_neg g1] at hRES;refine lb h1 ?_;refine ac' (fun g2=>?_) (fun g2=>?_)
 ·have g2:(64:Int) < (B.ents.length:Int):=g2
  rw [if_pos (by omega)] at hRES;subst hRES;exact ⟨rfl,k02⟩
 have g2:¬ (64:Int) < (B.ents.length:Int):=g2;rw [if_neg (by omega)] at hRES;refine lb h1 ?_;refine lp τok (σ:=Nat) (fun i=>[(1,pt b1),(20,.slice ae B.ents.length ce),(21,iV (B.ents.length:Int)),(22,iV (i:Int))])
  (fun i w'=>i <= B.ents.length /\ Bk w'.heap b1 [iV B.vars,.slice ao B.orders.length co,.slice ae B.ents.length ce,iV B.nat,.slice ap B.prims.length cp] 26 /\ Kp [] w w' /\ aU' (bS' B (B.ents.drop i) i) (if sf' B = true then 0 else 22) = RES) (fun i=>B.ents.length - i) 0 rfl
  ⟨rfl,rfl,rfl,rfl,trivial⟩ ⟨KV _,h1,k02,hRES⟩ ?_
 clear hRES h1 k02
 rintro i w3 ⟨hi,h1,k03,hres⟩;refine ac' (fun g=>?_) (fun g=>?_)
 ·have g:(i:Int) < (B.ents.length:Int):=g
  obtain ⟨x,hx,hd⟩:=af' (l:=B.ents) (k:=i) (by omega);rw [hd] at hres;simp only [bS'] at hres;obtain ⟨be,oe,ce',pe,hat⟩:=hE.at hx;obtain ⟨w1e,w2e,w3e,w4e,w5e,w6e,hcs,hki,hso,hpa,hin,hct,hty,hbo⟩:=cW' hat;injection pe with q1 q2 q3
  subst q1 q3;have hone:∀ v ∈ [iV x.kind,w1e,w2e,w3e,w4e,w5e,w6e],v.oneCell' = true:=fun v hv=>by
   simp at hv;rcases hv with rfl | rfl | rfl | rfl | rfl | rfl | rfl
   ·rfl
   ·exact hso.one
   ·exact hpa.one
   ·exact hin.one
   ·exact hct.one
   ·exact hty.one
   ·exact hbo.one
  refine ix i rfl (by omega) ?_;refine ldN _ rfl (fun j u hj=>(hS.tr k03) _ _ _ (hcs j u hj)) ?_;refine new fun b5 w4 hb5 h5 hs4 hk4=>?_;refine stN (vs:=[iV x.kind,w1e,w2e,w3e,w4e,w5e,w6e]) h5 rfl hone fun w5 h5 hs5 hk5=>?_;have k35:=hk4.newSt hb5 hk5;have k05:=k03.tr k35;have h1:=h1.kp k35 (by simp);have h5:Bk w5.heap b5 [iV x.kind,w1e,w2e,w3e,w4e,w5e,w6e] 72:=h5;refine ldN [iV B.vars,.slice ao B.orders.length co,.slice _ B.ents.length _,iV B.nat,.slice ap B.prims.length cp] rfl (bZ h1) ?_;refine ldN [iV x.kind,w1e,w2e,w3e,w4e,w5e,w6e] rfl (bZ h5) ?_;refine ab' (nT' (known:=i) (hS.tr k05) (fun b o v h=>KZ (hold b o v h) k05.size) ⟨_,_,_,rfl,hO,hE,hP,by omega⟩ ⟨w1e,w2e,w3e,w4e,w5e,w6e,rfl,hso,hpa,hin,hct,hty,hbo⟩) ?_;rintro e w6 ⟨rfl,hk6⟩;refine ac' (fun g3=>?_) (fun g3=>?_)
  ·have g3:cM' B i x ≠ 0:=g3
   have e:aU' (cM' B i x) (bS' B (B.ents.drop (i + 1)) (i + 1)) = cM' B i x:=by unfold aU'; rw [if_pos g3]
   rw [e] at hres;have e:aU' (cM' B i x) (if sf' B = true then 0 else 22) = cM' B i x:=by unfold aU'; rw [if_pos g3]
   rw [e] at hres;subst hres;exact ⟨rfl,k05.tr hk6⟩
  ·have g3:¬ cM' B i x ≠ 0:=g3
   have e:aU' (cM' B i x) (bS' B (B.ents.drop (i + 1)) (i + 1)) = bS' B (B.ents.drop (i + 1)) (i + 1):=by unfold aU'; rw [if_neg g3]
   rw [e] at hres;refine i6 ?_;exact ⟨i + 1,by omega,rfl,⟨rfl,rfl,rfl,rfl,trivial⟩,by omega,h1.kp hk6 (by simp),k05.tr hk6,hres⟩
 ·have g:¬ (i:Int) < (B.ents.length:Int):=g
  rw [JY (by omega)] at hres;have e:aU' (bS' B [] i) (if sf' B = true then 0 else 22) = if sf' B = true then 0 else 22:=by unfold aU' bS'; rw [if_neg (by simp)]
  rw [e] at hres;refine ldN [iV B.vars,.slice ao B.orders.length co,.slice ae B.ents.length ce,iV B.nat,.slice ap B.prims.length cp] rfl (bZ h1) ?_;refine ab' (jw' (hS.tr k03) hvb') ?_;rintro e w4 ⟨rfl,hk4⟩;cases hg:sf' B with
  | true =>
   rw [hg] at hres;simp only [if_true] at hres;subst hres;exact ⟨rfl,k03.tr hk4⟩
  | false =>
   rw [hg] at hres;simp only [Bool.false_eq_true,if_false] at hres;subst hres;exact ⟨rfl,k03.tr hk4⟩
theorem fc' (hS:Sub C w) (hold:∀ b o v,C b o v -> b < w.heap.size) {vb vt:Value} (hvb:BoV C B vb) {t:List Nd} (hvt:SV rNd C t vt) {below:Int} (hb:I64 below) :
  CC 23 #[vb,iV below,vt] w (fun e w'=>e = .returned (iV (bg' B below t)) /\ Kp [] w w'):=by
 refine oF Tryz.func23 ?_;obtain ⟨RES,hRES⟩:∃ r,bg' B below t = r:=⟨_,rfl⟩
 rw [hRES];unfold bg' at hRES;have hvb':=hvb;obtain ⟨v1,v2,v3,rfl,hO,hE,hP⟩:=hvb;obtain ⟨ae,ce,rfl,hE1,_⟩:=id hE;obtain ⟨at_,ct_,rfl,_,_⟩:=id hvt;refine cO (args:=[_,_,_]) 23 [.tmp 6] τok Tryz.func23 ?_;refine new fun b3 w1 hb1 h3 hs1 hk1=>?_;have h3:Bk w1.heap b3 [iV B.vars,v1,.slice ae B.ents.length ce,iV B.nat,v3] 26:=h3;refine ldN [iV B.vars,v1,.slice ae B.ents.length ce,iV B.nat,v3] rfl (bZ h3) ?_;refine ab' (kM' (hS.tr hk1) (fun b o v h=>KZ (hold b o v h) hk1.size) hvb') ?_;rintro e w2 ⟨rfl,hk2⟩;have k02:=hk1.tr hk2;have h3:=h3.kp hk2 (by simp);refine ac' (fun g1=>?_) (fun g1=>?_)
 ·have g1:aS' B ≠ 0:=g1
  rw [if_pos g1] at hRES;subst hRES;exact ⟨rfl,k02⟩
 have g1:¬ aS' B ≠ 0:=g1;rw [if_neg g1] at hRES;refine ac' (fun g2=>?_) (fun g2=>?_)
 ·have g2:below < 0:=g2
  rw [if_pos g2] at hRES;subst hRES;exact ⟨rfl,k02⟩
 have g2:¬ below < 0:=g2;rw [if_neg g2] at hRES;refine ldN [iV B.vars,v1,.slice ae B.ents.length ce,iV B.nat,v3] rfl (bZ h3) ?_;refine lb h3 ?_;refine ab' (jv' (known:=B.ents.length) (self:=-1) (hS.tr k02) (fun b o v h=>KZ (hold b o v h) k02.size) ⟨_,_,_,rfl,hO,hE,hP,KJ _⟩ hvt hb) ?_;rintro e w3 ⟨rfl,hk3⟩;subst hRES;exact ⟨rfl,k02.tr hk3⟩
theorem sk' (hS:Sub C w) (hold:∀ b o v,C b o v -> b < w.heap.size) {vb vc vt:Value} (hvb:BoV C B vb) {c:List (List Nd × List Nd)} (hvc:SV rBd C c vc) {t:List Nd} (hvt:SV rNd C t vt) :
  CC 19 #[vb,vc,vt] w (fun e w'=>e = .returned (iV (bG' B c t)) /\ Kp [] w w'):=by
 refine oF Tryz.func19 ?_;obtain ⟨RES,hRES⟩:∃ r,bG' B c t = r:=⟨_,rfl⟩
 rw [hRES];unfold bG' at hRES;have hvb':=hvb;obtain ⟨v1,v2,v3,rfl,hO,hE,hP⟩:=hvb;obtain ⟨at_,ct_,rfl,_,_⟩:=id hvt;obtain ⟨ac,cc,rfl,hc1,_⟩:=id hvc;have lC:=hc1.1;refine cO (args:=[_,_,_]) 53 [.tmp 6] τok Tryz.func19 ?_;refine new fun b3 w1 hb1 h3 hs1 hk1=>?_;have h3:Bk w1.heap b3 [iV B.vars,v1,v2,iV B.nat,v3] 26:=h3;refine ldN [iV B.vars,v1,v2,iV B.nat,v3] rfl (bZ h3) ?_;refine ab' (kM' (hS.tr hk1) (fun b o v h=>KZ (hold b o v h) hk1.size) hvb') ?_;rintro e w2 ⟨rfl,hk2⟩;have k02:=hk1.tr hk2;have h3:=h3.kp hk2 (by simp);refine ac' (fun g1=>?_) (fun g1=>?_)
 ·have g1:aS' B ≠ 0:=g1
  rw [if_pos g1] at hRES;subst hRES;exact ⟨rfl,k02⟩
 have g1:¬ aS' B ≠ 0:=g1;rw [if_neg g1] at hRES;refine ac' (fun g2=>?_) (fun g2=>?_)
 ·have g2:(256:Int) < (c.length:Int):=g2
  rw [if_pos (by omega)] at hRES;subst hRES;exact ⟨rfl,k02⟩
 have g2:¬ (256:Int) < (c.length:Int):=g2;rw [if_neg (by omega)] at hRES;refine lp τok (σ:=Nat) (fun i=>[(1,.slice ac c.length cc),(2,.slice at_ t.length ct_),(3,pt b3),(20,.slice ac c.length cc),(21,iV (c.length:Int)),(22,iV (i:Int))])
  (fun i w'=>i <= c.length /\ Bk w'.heap b3 [iV B.vars,v1,v2,iV B.nat,v3] 26 /\ Kp [] w w' /\ aU' (cN' B (c.drop i) i) (bg' B c.length t) = RES) (fun i=>c.length - i) 0 rfl
  ⟨rfl,rfl,rfl,rfl,rfl,rfl,trivial⟩ ⟨KV _,h3,k02,hRES⟩ ?_
 clear hRES h3 k02
 rintro i w3 ⟨hi,h3,k03,hres⟩;refine ac' (fun g=>?_) (fun g=>?_)
 ·have g:(i:Int) < (c.length:Int):=g
  obtain ⟨x,hx,hd⟩:=af' (l:=c) (k:=i) (by omega);rw [hd] at hres;simp only [cN'] at hres;obtain ⟨bc,oc,cc',pc,hat⟩:=hvc.at hx;obtain ⟨vty,vva,hbc,hbt,hbv⟩:=rz' hat;injection pc with q1 q2 q3
  subst q1 q3;obtain ⟨aty,cty,rfl,_,_⟩:=id hbt;obtain ⟨ava,cva,rfl,_,_⟩:=id hbv;refine ix i rfl (by omega) ?_;refine ldN [.slice aty x.1.length cty,.slice ava x.2.length cva] rfl (fun j u hj=>(hS.tr k03) _ _ _ (hbc j u hj)) ?_;refine new fun b9 w4 hb9 h9 hs4 hk4=>?_;refine stN (vs:=[.slice aty x.1.length cty,.slice ava x.2.length cva]) h9 rfl (by simp [Value.oneCell']) fun w5 h9 hs5 hk5=>?_;have k35:=hk4.newSt hb9 hk5;have k05:=k03.tr k35;have h3:=h3.kp k35 (by simp);have h9:Bk w5.heap b9 [.slice aty x.1.length cty,.slice ava x.2.length cva] 82:=h9;refine ldN [iV B.vars,v1,v2,iV B.nat,v3] rfl (bZ h3) ?_;refine lb h9 ?_;refine ab' (fc' (hS.tr k05) (fun b o v h=>KZ (hold b o v h) k05.size) hvb' hbt (by constructor <;> omega)) ?_;rintro e w6 ⟨rfl,hk6⟩;have k06:=k05.tr hk6;have h3:=h3.kp hk6 (by simp);have h9:=h9.kp hk6 (by simp);refine ac' (fun y1=>?_) (fun y1=>?_)
  ·have y1:bg' B (i:Int) x.1 ≠ 0:=y1
   rw [if_pos y1,kL' y1] at hres;subst hres;exact ⟨rfl,k06⟩
  have y1:¬ bg' B (i:Int) x.1 ≠ 0:=y1;rw [if_neg y1] at hres;refine lb h9 ?_;refine ac' (fun y2=>?_) (fun y2=>?_)
  ·have y2:(x.2.length:Int) = 0:=y2
   rw [if_pos (by omega)] at hres;refine i6 ?_;exact ⟨i + 1,by omega,rfl,⟨rfl,rfl,rfl,rfl,rfl,rfl,trivial⟩,by omega,h3,k06,hres⟩
  have y2:¬ (x.2.length:Int) = 0:=y2;rw [if_neg (by omega)] at hres;refine ldN [iV B.vars,v1,v2,iV B.nat,v3] rfl (bZ h3) ?_;refine lb h9 ?_;refine ab' (fc' (hS.tr k06) (fun b o v h=>KZ (hold b o v h) k06.size) hvb' hbv (by constructor <;> omega)) ?_;rintro e w7 ⟨rfl,hk7⟩;refine ac' (fun y3=>?_) (fun y3=>?_)
  ·have y3:bg' B (i:Int) x.2 ≠ 0:=y3
   rw [if_pos y3,kL' y3] at hres;subst hres;exact ⟨rfl,k06.tr hk7⟩
  have y3:¬ bg' B (i:Int) x.2 ≠ 0:=y3;rw [if_neg y3] at hres;refine i6 ?_;exact ⟨i + 1,by omega,rfl,⟨rfl,rfl,rfl,rfl,rfl,rfl,trivial⟩,by omega,h3.kp hk7 (by simp),k06.tr hk7,hres⟩
 ·have g:¬ (i:Int) < (c.length:Int):=g
  rw [JY (by omega)] at hres;simp only [cN'] at hres;have hres:bg' B c.length t = RES:=hres;refine ldN [iV B.vars,v1,v2,iV B.nat,v3] rfl (bZ h3) ?_;refine ab' (fc' (hS.tr k03) (fun b o v h=>KZ (hold b o v h) k03.size) hvb' hvt (by constructor <;> omega)) ?_;rintro e w4 ⟨rfl,hk4⟩;subst hres;exact ⟨rfl,k03.tr hk4⟩
end
abbrev kN' (e:Int):List PanicEntry:=[{ v:=.iface 85 (.agg #[iV e]),recovered:=false }]
theorem uq' (v:Value) (w:World):(Instr.makeInterface 85 v).run Tryz.prog w = .ok (.iface 85 v) w:=by
 simp [Instr.makeInterface,Tryz.underlying85,go_sem]
theorem fe' (w:World) :
  CC 26 #[iV 0] w (fun e w'=>(∃ v,e = .returned v) /\ Kp [] w w'):=by
 refine oF Tryz.func26 ?_;refine cO (args:=[_]) 7 [] τok Tryz.func26 ?_;exact ⟨⟨_,rfl⟩,Kp.refl _ _⟩
theorem gn' (er:Int) (he:er ≠ 0) (w:World) :
  CC 26 #[iV er] w (fun e w'=>e = .panicked (kN' er) /\ Kp [] w w'):=by
 refine oF Tryz.func26 ?_;refine cO (args:=[_]) 7 [] τok Tryz.func26 ?_;refine ar' (p:=er ≠ 0) he ?_;refine run (uq' _ w) ?_;exact ⟨rfl,Kp.refl _ _⟩
section
variable {C:Mem} {w:World}
theorem sl' {α:Type} {R:Rd α} (hR:R.sz = 2) {C:Mem} {w:World} (l:List α) (a:Option Addr) (c:Nat) (hl:Sl R C a l) (hc:l.length <= c) :
  CC 76 #[.slice a l.length c] w (fun e w'=>(∃ a',e = .returned (.slice a' l.length l.length) /\ Sl R C a' l) /\ Kp [] w w'):=by
 refine oF Tryz.func76 ?_;refine cO (args:=[_]) 9 [.tmp 2] τok Tryz.func76 ?_;refine tR' τok rfl l.length l.length rfl rfl (KJ _) hc ?_;rcases hl.2 with h0 | ⟨b,o,rfl,h2⟩
 ·have:l = []:=List.length_eq_zero_iff.1 h0
  subst this;exact ⟨⟨_,rfl,Sl.nil _ _ _⟩,Kp.refl _ _⟩
 ·rw [bT']
  exact ⟨⟨_,rfl,hl⟩,Kp.refl _ _⟩
theorem no' (hS:Sub C w) {l m:List (List Nd × List Nd)} {vl vm:Value} (hl:SV rBd C l vl) (hm:SV rBd C m vm) (h0:0 < m.length) (hll:l.length <= 1000) (hml:m.length <= 1000) :
  CC 42 #[vl,vm] w (fun e w'=>(∃ v,e = .returned v /\ SV rBd (Cn C w w') (l ++ m) v) /\ Kp [] w w'):=by
 refine oF Tryz.func42 ?_;obtain ⟨al,cl,rfl,hl1,hl2⟩:=hl;obtain ⟨am,cm,rfl,hm1,hm2⟩:=hm;refine cO (args:=[_,_]) 9 [.tmp 4] τok Tryz.func42 ?_;refine ab' (sl' (R:=rBd) rfl (C:=C) l al cl hl1 hl2) ?_;rintro e w1 ⟨⟨a1,rfl,hc1⟩,hk1⟩;refine vG' τok rfl rfl ?_;refine pL' τok rfl rfl (by decide) (R:=rBd) (C:=C) (hS.tr hk1) hc1 hm1 h0 (by omega) (by unfold maxLen; omega) (by omega) fun v' w2 hv' hk2=>?_;have hv1:=hv'.one;exact ⟨⟨v',rfl,hv'.mono fun b o v h=>h.elim .inl fun h=>.inr ⟨KQ hk1.size h.1,h.2⟩⟩,hk1.tr hk2⟩
end
def EraC (C:Mem) (w:World) (be:Nat) (B:BoT) (n:Nat) (va:Value):Prop :=
 ∃ v1 v2 v3,Bk w.heap be [iV B.vars,v1,v2,iV B.nat,v3,iV (n:Int),va] 89 /\ SV rOr C B.orders v1 /\ SV rEn C B.ents v2 /\ SV rPr C B.prims v3
theorem EraC.mono {C D:Mem} {w:World} {be:Nat} {B:BoT} {n:Nat} {va:Value} (h:EraC C w be B n va) (hc:∀ b o v,C b o v -> D b o v):EraC D w be B n va:=by
 obtain ⟨v1,v2,v3,h0,h1,h2,h3⟩:=h;exact ⟨v1,v2,v3,h0,h1.mono hc,h2.mono hc,h3.mono hc⟩
theorem EraC.kp {C:Mem} {w w':World} {be:Nat} {B:BoT} {n:Nat} {va:Value} (h:EraC C w be B n va) {Z:List Nat} (k:Kp Z w w') (hb:be ∉ Z):EraC C w' be B n va:=by
 obtain ⟨v1,v2,v3,h0,h1,h2,h3⟩:=h;exact ⟨v1,v2,v3,h0.kp k hb,h1,h2,h3⟩
def ErP {α:Type} (D:World -> α -> Value -> Prop) (X:List Nat) (w:World) (be:Nat) (B:BoT) (va:Value) (r:Except Int (α × Nat)) (e:Ending) (w':World):Prop :=
 (match r with
  | .ok q=>∃ u,e = .returned u /\ D w' q.1 u /\ EraC (Im X w') w' be B q.2 va
  | .error er=>e = .panicked (kN' er)) /\ Kp [be] w w'
theorem ErP.cs {α:Type} {D:World -> α -> Value -> Prop} {X:List Nat} {w:World} {be:Nat} {B:BoT} {va:Value} {r:Except Int (α × Nat)} {e:Ending} {w':World} (h:ErP D X w be B va r e w') :
  (∃ er,r = .error er /\ e = .panicked (kN' er) /\ Kp [be] w w') \/ ∃ q u,r = .ok q /\ e = .returned u /\ D w' q.1 u /\ EraC (Im X w') w' be B q.2 va /\ Kp [be] w w':=by
 obtain ⟨h1,h2⟩:=h;cases r with
 | error er=>exact .inl ⟨er,rfl,h1,h2⟩
 | ok q =>
  obtain ⟨u,h3,h4,h5⟩:=h1;exact .inr ⟨q,u,rfl,h3,h4,h5,h2⟩
theorem bo5 {w:World} {be T:Nat} {a b c d e f g:Value} (h:Bk w.heap be [a,b,c,d,e,f,g] T):∀ j u,[a,b,c,d,e][j]? = some u -> Cl w.heap be (0 + j) u:=fun j u hj=>by
 refine h.cl ?_;rw [KW]
 match j,hj with
 | 0,hj=>exact hj
 | 1,hj=>exact hj
 | 2,hj=>exact hj
 | 3,hj=>exact hj
 | 4,hj=>exact hj
 | j + 5,hj=>cases hj
section
variable {w:World} {X:List Nat} {B:BoT} {cx:Ctx} {be n:Nat} {va:Value}
theorem ql' (hB:GoodB B) (hcx:CxOk B cx) (hcl:cx.length <= 260) (hX:XL X w) (hbe:be ∈ X) (hJ:EraC (Im X w) w be B n va) {x:Tr} (hx:Ft (QB B) (cx.length:Int) x) {vc v:Value} (hc:SV rBd (Im X w) (cx.map bdR) vc) (hv:TmV (Im X w) x v) :
  CC 39 #[pt be,vc,v] w (ErP (fun w' x u=>TmV (Im X w') x u) X w be B va (cz' B cx x (n:Int))):=by
 refine oF Tryz.func39 ?_;obtain ⟨RES,hRES⟩:∃ r,cz' B cx x (n:Int) = r:=⟨_,rfl⟩
 rw [hRES];obtain ⟨v1,v2,v3,hJb,hO,hE,hP⟩:=hJ;obtain ⟨av,cv,rfl,_,_⟩:=id hv;obtain ⟨ac,cc,rfl,_,_⟩:=id hc;refine cO (args:=[_,_,_]) 32 [.tmp 6] τok Tryz.func39 ?_;refine aq' τok (fun z=>Kp [] w z) ?_;refine rV τok (rg 0 10) 8 (mR 18 10) (kQd w) ?_;refine cB' [iV B.vars,v1,v2,iV B.nat,v3] rfl (bo5 hJb) ?_;refine lk hJb ?_;refine nV τok 10 7 (mR 18 11) ?_;refine ab' (ul' (w:=(dr w)) (fuel:=(n:Int)) hB hcx hcl hX hx ⟨v1,v2,v3,rfl,hO,hE,hP⟩ hc hv) ?_;rintro e w2 ⟨he,hk2⟩;have hk2:Kp [] w w2:=hk2.rd;rw [hRES] at he;cases RES with
 | error er =>
  have her:=(aN' hB GJ).er _ _ _ _ hRES;obtain rfl:=he;refine ⟨.inl hk2,?_⟩;refine rV τok (rg 11 7) 0 (mR 18 18) hk2 ?_;refine dV ?_;refine ab' (gn' er her w2) ?_;rintro e w3 ⟨rfl,hk3⟩;exact ⟨rfl,(hk2.tr hk3).weak (by simp)⟩
 | ok q =>
  obtain ⟨u,rfl,hu⟩:=he;obtain ⟨au,cu,rfl,_,_⟩:=id hu;refine ⟨.inl hk2,?_⟩;refine rV τok (rg 11 7) 0 (mR 18 18) hk2 ?_;refine dV ?_;refine ab' (fe' w2) ?_;rintro e w3 ⟨⟨v0,rfl⟩,hk3⟩;have k03:=hk2.tr hk3;refine st (b:=be) (o:=5) (hJb.kp k03 (by simp)) (by simp) rfl fun w4 h4 hs4 hk4=>?_;have k04:Kp [be] w w4:=(k03.weak (by simp)).tq hk4;have up:∀ b o v,Im X w b o v -> Im X w4 b o v:=fun b o v h=>Im.kb k04 hbe b o v h;exact ⟨⟨_,rfl,hu.mono fun b o v h=>Im.kb (bj:=be) ((hk3.weak (by simp)).tq hk4) hbe b o v h,v1,v2,v3,h4,hO.mono up,hE.mono up,hP.mono up⟩,k04⟩
theorem jx' (hB:GoodB B) (hcx:CxOk B cx) (hcl:cx.length <= 1000) (hX:XL X w) (hbe:be ∈ X) (hJ:EraC (Im X w) w be B n va) {x:Tr} (hx:Ft (QB B) (cx.length:Int) x) {vc v:Value} (hc:SV rBd (Im X w) (cx.map bdR) vc) (hv:TmV (Im X w) x v) :
  CC 33 #[pt be,vc,v] w (ErP (fun w' x u=>TmV (Im X w') x u) X w be B va (dj' B cx x n)):=by
 refine oF Tryz.func33 ?_;obtain ⟨RES,hRES⟩:∃ r,dj' B cx x n = r:=⟨_,rfl⟩
 rw [hRES];unfold dj' at hRES;obtain ⟨v1,v2,v3,hJb,hO,hE,hP⟩:=hJ;obtain ⟨av,cv,rfl,_,_⟩:=id hv;obtain ⟨ac,cc,rfl,_,_⟩:=id hc;have hlm:(cx.map bdR).length = cx.length:=by simp
 refine cO (args:=[_,_,_]) 36 [.tmp 6] τok Tryz.func33 ?_
 by_cases g:256 < cx.length
 ·rw [if_pos g] at hRES
  subst hRES;refine ar' (p:=(256:Int) < ((cx.map bdR).length:Int)) (by omega) ?_;refine ab' (gn' 5 (by decide) w) ?_;rintro e w1 ⟨rfl,hk1⟩;exact ⟨rfl,hk1.weak (by simp)⟩
 rw [if_neg g] at hRES;refine bE' (p:=(256:Int) < ((cx.map bdR).length:Int)) (by omega) ?_;refine aq' τok (fun z=>Kp [] w z) ?_;refine rV τok (rg 0 10) 8 (mR 18 10) (kQd w) ?_;refine cB' [iV B.vars,v1,v2,iV B.nat,v3] rfl (bo5 hJb) ?_;refine lk hJb ?_;refine nV τok 10 7 (mR 18 11) ?_;refine ab' (jg' (w:=(dr w)) (fuel:=(n:Int)) hB hcx (by omega) hX hx ⟨v1,v2,v3,rfl,hO,hE,hP⟩ hc hv) ?_;rintro e w2 ⟨he,hk2⟩;have hk2:Kp [] w w2:=hk2.rd;rw [hRES] at he;cases RES with
 | error er =>
  have her:=fu' _ _ _ _ _ hRES;obtain rfl:=he;refine ⟨.inl hk2,?_⟩;refine rV τok (rg 11 7) 0 (mR 18 18) hk2 ?_;refine dV ?_;refine ab' (gn' er (by omega) w2) ?_;rintro e w3 ⟨rfl,hk3⟩;exact ⟨rfl,(hk2.tr hk3).weak (by simp)⟩
 | ok q =>
  obtain ⟨u,rfl,hu⟩:=he;obtain ⟨au,cu,rfl,_,_⟩:=id hu;refine ⟨.inl hk2,?_⟩;refine rV τok (rg 11 7) 0 (mR 18 18) hk2 ?_;refine dV ?_;refine ab' (fe' w2) ?_;rintro e w3 ⟨⟨v0,rfl⟩,hk3⟩;have k03:=hk2.tr hk3;refine st (b:=be) (o:=5) (hJb.kp k03 (by simp)) (by simp) rfl fun w4 h4 hs4 hk4=>?_;have k04:Kp [be] w w4:=(k03.weak (by simp)).tq hk4;have up:∀ b o v,Im X w b o v -> Im X w4 b o v:=fun b o v h=>Im.kb k04 hbe b o v h;exact ⟨⟨_,rfl,hu.mono fun b o v h=>Im.kb (bj:=be) ((hk3.weak (by simp)).tq hk4) hbe b o v h,v1,v2,v3,h4,hO.mono up,hE.mono up,hP.mono up⟩,k04⟩
def jy' (B:BoT) (cx:Ctx) (x:Tr) (n:Nat):Except Int (Bool × Nat):=bdJ (fz' B cx x (n:Int)) fun q n=>.ok (decide (q.1 = 0),n)
theorem qm' (hB:GoodB B) (hcx:CxOk B cx) (hcl:cx.length <= 260) (hX:XL X w) (hbe:be ∈ X) (hJ:EraC (Im X w) w be B n va) {x:Tr} (hx:Ft (QB B) (cx.length:Int) x) {vc v:Value} (hc:SV rBd (Im X w) (cx.map bdR) vc) (hv:TmV (Im X w) x v) :
  CC 72 #[pt be,vc,v] w (ErP (fun w' b u=>u = .bool b) X w be B va (jy' B cx x n)):=by
 refine oF Tryz.func72 ?_;unfold jy';obtain ⟨RES,hRES⟩:∃ r,fz' B cx x (n:Int) = r:=⟨_,rfl⟩
 rw [hRES];obtain ⟨v1,v2,v3,hJb,hO,hE,hP⟩:=hJ;obtain ⟨av,cv,rfl,_,_⟩:=id hv;obtain ⟨ac,cc,rfl,_,_⟩:=id hc;refine cO (args:=[_,_,_]) 35 [.tmp 6] τok Tryz.func72 ?_;refine aq' τok (fun z=>Kp [] w z) ?_;refine rV τok (rg 0 10) 10 (mR 20 10) (kQd w) ?_;refine cB' [iV B.vars,v1,v2,iV B.nat,v3] rfl (bo5 hJb) ?_;refine lk hJb ?_;refine nV τok 10 9 (mR 20 11) ?_;refine ab' (um' (w:=(dr w)) (fuel:=(n:Int)) hB hcx hcl hX hx ⟨v1,v2,v3,rfl,hO,hE,hP⟩ hc hv) ?_;rintro e w2 ⟨he,hk2⟩;have hk2:Kp [] w w2:=hk2.rd;rw [hRES] at he;cases RES with
 | error er =>
  have her:=dl' (aN' hB GJ) hRES;obtain rfl:=he;refine ⟨.inl hk2,?_⟩;refine rV τok (rg 11 9) 0 (mR 20 20) hk2 ?_;refine dV ?_;refine ab' (gn' er her w2) ?_;rintro e w3 ⟨rfl,hk3⟩;exact ⟨rfl,(hk2.tr hk3).weak (by simp)⟩
 | ok q =>
  obtain ⟨al,cl,rfl,_⟩:=he;refine ⟨.inl hk2,?_⟩;refine rV τok (rg 11 9) 0 (mR 20 20) hk2 ?_;refine dV ?_;refine ab' (fe' w2) ?_;rintro e w3 ⟨⟨v0,rfl⟩,hk3⟩;have k03:=hk2.tr hk3;refine st (b:=be) (o:=5) (hJb.kp k03 (by simp)) (by simp) rfl fun w4 h4 hs4 hk4=>?_;have k04:Kp [be] w w4:=(k03.weak (by simp)).tq hk4;have up:∀ b o v,Im X w b o v -> Im X w4 b o v:=fun b o v h=>Im.kb k04 hbe b o v h;exact ⟨⟨_,rfl,rfl,v1,v2,v3,h4,hO.mono up,hE.mono up,hP.mono up⟩,k04⟩
end
end Go.Proofs.YtmlnlmkmpgkekaaGreat
