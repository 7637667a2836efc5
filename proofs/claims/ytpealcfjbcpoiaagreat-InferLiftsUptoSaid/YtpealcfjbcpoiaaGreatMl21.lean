import Derived.Test.YtpealcfjbcpoiaaGreatMl20
set_option linter.unusedVariables false
set_option linter.unusedSimpArgs false
set_option maxRecDepth 100000
set_option maxHeartbeats 4000000
namespace Go.Proofs.YtpealcfjbcpoiaaGreat
open Go.Wx Cd Tm Lv
def Ones (g:G):Prop:=∀ x y v,g x y = some v -> v = 1
theorem Ones.bd {g:G} (h:Ones g) (x y:Int):0 <= (g x y).getD 0 /\ (g x y).getD 0 <= 1:=by
 cases hg:g x y with
 | none=>simp
 | some v=>have:=h x y v hg; simp [this]
theorem Ones.put {g:G} (h:Ones g) (x y:Int):Ones (putG g x y 1):=fun a b v hv=>by
 unfold putG at hv;split at hv
 ·exact (JB hv).symm
 ·exact h a b v hv
section
variable {C:Mem} {w:World} {B:BoT}
theorem jE' (hS:Sub C w) {vb:Value} (hvb:BoV C B vb) :
  CC 20 #[vb] w (fun e w'=>e = .returned (.bool (rK' B)) /\ Kp [] w w'):=by
 refine oF Tryz.func20 ?_;obtain ⟨RES,hRES⟩:∃ r,rK' B = r:=⟨_,rfl⟩
 rw [hRES];unfold rK' at hRES;have hvb':=hvb;obtain ⟨v1,v2,v3,rfl,hO,hE,hP⟩:=hvb;obtain ⟨ae,ce,rfl,hE1,_⟩:=id hE;obtain ⟨ap,cp,rfl,hP1,_⟩:=id hP;have lP:=hP1.1;have no:∀ {w'},Kp [] w w' -> RES = false -> Ending.returned (Go.Wx.one [.bool false]) = .returned (.bool RES) /\ Kp [] w w':=fun k h=>by subst h; exact ⟨rfl,k⟩
 refine ee' (args:=[_]) 89 [.tmp 2] Tryz.func20 rfl rfl rfl (Nat.le_of_ble_eq_true rfl) ?_;refine bi' τok ?_;refine new fun b1 w1 hb1 h1 hs1 hk1=>?_;have h1:Bk w1.heap b1 [iV B.vars,v1,.slice ae B.ents.length ce,iV B.nat,.slice ap B.prims.length cp] 26:=h1;refine fM' τok (σ:=Unit) (fun _=>[(1,pt b1)]) (fun _ w'=>Kp [] w w' /\ Bk w'.heap b1 [iV B.vars,v1,.slice ae B.ents.length ce,iV B.nat,.slice ap B.prims.length cp] 26 /\ nD' B B.prims (fun _ _=>none) = RES) ?_ ?_
 ·refine lb h1 ?_
  refine ac' (fun g1=>?_) (fun g1=>?_)
  ·have g1:B.nat ≠ -1:=g1
   refine ldN [iV B.vars,v1,.slice ae B.ents.length ce,iV B.nat,.slice ap B.prims.length cp] rfl (bZ h1) ?_;refine lb h1 ?_;refine ab' (nG' (hS.tr hk1) hvb' B.nat) ?_;rintro e w2 ⟨rfl,hk2⟩;have k02:=hk1.tr hk2;cases hn:vw' B B.nat with
   | false =>
    rw [if_pos (.inl ⟨g1,hn⟩)] at hRES;exact no k02 hRES.symm
   | true =>
    rw [if_neg (by
     rintro (h | h)
     ·rw [hn] at h
      cases h.2
     ·exact g1 h.1)] at hRES
    have h1:=h1.kp hk2 (by simp);refine lb h1 ?_;refine cj' (p:=B.nat = -1) g1 ?_;exact ⟨(),rfl,⟨rfl,trivial⟩,k02,h1,hRES⟩
  ·have g1:¬ B.nat ≠ -1:=g1
   refine lb h1 ?_;refine au' (p:=B.nat = -1) (by omega) ?_;refine lb h1 ?_;refine ac' (fun g2=>?_) (fun g2=>?_)
   ·have g2:(0:Int) < (B.prims.length:Int):=g2
    rw [if_pos (.inr ⟨by omega,by omega⟩)] at hRES;exact no hk1 hRES.symm
   have g2:¬ (0:Int) < (B.prims.length:Int):=g2;rw [if_neg (by
    rintro (h | h)
    ·exact g1 h.1
    ·omega)] at hRES
   exact ⟨(),rfl,⟨rfl,trivial⟩,hk1,h1,hRES⟩
 ·rintro _ w2 ⟨k02,h1,hRES⟩
  have hb1l:=h1.lt;refine fY' τok ?_;refine tU' fun bm w3 hbm hG hs3 hk3=>?_;have k03:=k02.tr hk3;have h1:=h1.kp hk3 (by simp);have hbml:w.heap.size <= bm /\ b1 < bm:=by
   have q1:=k02.size;have q2:bm = (w2).heap.size:=hbm;have q3:=h1.lt;have q4:=hb1l;omega
  refine lb h1 ?_;refine lp τok (σ:=Nat × G) (fun q=>[(1,pt b1),(3,.map (some bm)),(31,.slice ap B.prims.length cp),(32,iV (B.prims.length:Int)),(33,iV (q.1:Int))])
   (fun q w'=>q.1 <= B.prims.length /\ Ones q.2 /\ GrP w'.heap bm q.2 /\ Bk w'.heap b1 [iV B.vars,v1,.slice ae B.ents.length ce,iV B.nat,.slice ap B.prims.length cp] 26 /\ Kp [] w w' /\ nD' B (B.prims.drop q.1) q.2 = RES) (fun q=>B.prims.length - q.1) (0,fun _ _=>none) rfl
   ⟨rfl,rfl,rfl,rfl,rfl,trivial⟩ ⟨KV _,(fun x y v h=>by cases h),hG,h1,k03,hRES⟩ ?_
  clear hRES hG h1 k03
  rintro ⟨i,gm⟩ w4 ⟨hi,hones,hG4,h14,k04,hres⟩;simp only at hi hones hG4 hres;refine ac' (fun g=>?_) (fun g=>?_)
  ·have g:(i:Int) < (B.prims.length:Int):=g
   obtain ⟨p,hp,hd⟩:=af' (l:=B.prims) (k:=i) (by omega);rw [hd] at hres;simp only [nD'] at hres;obtain ⟨bp,op,cp',pp,hpat⟩:=hP.at hp;obtain ⟨cs,⟨rfl,hi1,hi2⟩,hpc⟩:=hpat;injection pp with q1 q2 q3
   subst q1 q3;refine ix i rfl (by omega) ?_;refine ldN [iV p.1,iV p.2] rfl (fun j u hj=>hS.tr k04 _ _ _ (hpc j u hj)) ?_;refine new fun b5 wb hb5 h5 hs5 hk5=>?_;refine stN (vs:=[iV p.1,iV p.2]) h5 rfl (by simp [Value.oneCell']) fun w5 h5 hs6 hk6=>?_;have k45:=hk5.newSt hb5 hk6;have h5:Bk w5.heap b5 [iV p.1,iV p.2] 86:=h5;have hG5:=hG4.kp k45 (by simp);have h14:=h14.kp k45 (by simp);have k04:=k04.tr k45;have o1:∀ v ∈ [iV p.1,iV (-1)],v.oneCell' = true:=fun v hv=>by simp at hv; rcases hv with rfl | rfl <;> rfl
   have o2:∀ v ∈ [iV (-1),iV p.2],v.oneCell' = true:=fun v hv=>by simp at hv; rcases hv with rfl | rfl <;> rfl
   refine as' τok (fun z=>Kp [] w5 z) ?_;refine rV τok (rg 0 6) 4 (mR 10 6) (kQd w5) ?_;refine lk h5 ?_;refine lk h5 ?_;refine gd' τok 6 7 3 (mR 10 7) (mB 10 [6,8,9]) rfl rfl rfl rfl rfl (by kernel_rfl) ?_ ?_
   ·refine new fun b6 wc hb6 h6 hs7 hk7=>?_
    have hk7:Kp [] w5 wc:=hk7.rd;have lb6:w5.heap.size <= b6:=by
     have:b6 = w5.heap.size:=hb6;omega
    refine ⟨.inl hk7,?_⟩;refine nV τok 7 2 (mR 10 8) ?_;refine new fun b7 wd hb7 h7 hs8 hk8=>?_;have k36:=hk7.tr hk8;have n67:b6 ≠ b7:=by have:=h6.lt; omega
    have lb7:w5.heap.size <= b7:=by have:=hk7.size; omega
    refine ⟨.inl k36,?_⟩;refine nV τok 8 1 (mR 10 9) ?_;refine stN (vs:=[iV p.1,iV (-1)]) (h6.kp hk8 (by simp)) rfl o1 fun we h6' hs9 hk9=>?_;have k37:Kp [] w5 we:=k36.trans hk9 fun y hy hl=>by simp at hy; omega
    refine ⟨.inl k37,?_⟩;refine nV τok 9 0 (mR 10 10) ?_;refine stN (vs:=[iV (-1),iV p.2]) (h7.kp hk9 (by simpa using Ne.symm n67)) rfl o2 fun w8 h7' hs10 hk10=>?_;refine ⟨.inr (by kernel_rfl),?_⟩;refine dV ?_;have k48:Kp [] w5 w8:=k37.trans hk10 fun y hy hl=>by simp at hy; omega
    have k08:=k04.tr k48;have h68:Bk w8.heap b6 [iV p.1,iV (-1)] 86:=(h6'.kp hk10 (by simpa using n67))
    have h78:Bk w8.heap b7 [iV (-1),iV p.2] 86:=h7';have h58:=h5.kp k48 (by simp);have h1w:=h14.kp k48 (by simp);have hG8:=hG5.kp k48 (by simp);have kd:Kp [] w8 (dr w8):=(Kp.refl [] w8).dr _;refine as' τok (fun z=>Kp [] w8 z) ?_;refine rV τok [0,1,2,3,4,5,6,7,8,9,10,11,12,13,14,15,16,17,18,19,20,21,22,23,24,25,26,27,28,29,30,31,32,33,35,36] 5 (mB 41 [34,37,38,39,40]) kd ?_;refine lk h58 ?_;refine ac' (fun y1=>?_) (fun y1=>?_)
    ·have y1:p.1 < 0:=y1
     rw [if_pos (.inl y1)] at hres;refine gd' τok 34 37 4 (mR 41 37) (mB 41 [34,38,39,40]) rfl rfl rfl rfl rfl (by kernel_rfl) ?_ ?_
     ·refine ⟨.inl kd,?_⟩
      refine nV τok 37 3 (mR 41 38) ?_;refine ⟨.inl kd,?_⟩;refine rV τok [38,39,40] 0 (mR 41 41) kd ?_;refine dV ?_;exact no (k08.dr _) hres.symm
     ·refine ⟨.inl kd,?_⟩
      refine nV τok 34 3 (mR 41 38) ?_;refine ⟨.inl kd,?_⟩;refine rV τok [38,39,40] 0 (mR 41 41) kd ?_;refine dV ?_;exact no (k08.dr _) hres.symm
    have y1:¬ p.1 < 0:=y1;refine lk h58 ?_;refine lk h1w ?_;refine ac' (fun y2=>?_) (fun y2=>?_)
    ·have y2:(B.ents.length:Int) <= p.1:=y2
     rw [if_pos (.inr (.inl y2))] at hres;refine gd' τok 34 37 4 (mR 41 37) (mB 41 [34,38,39,40]) rfl rfl rfl rfl rfl (by kernel_rfl) ?_ ?_
     ·refine ⟨.inl kd,?_⟩
      refine nV τok 37 3 (mR 41 38) ?_;refine ⟨.inl kd,?_⟩;refine rV τok [38,39,40] 0 (mR 41 41) kd ?_;refine dV ?_;exact no (k08.dr _) hres.symm
     ·refine ⟨.inl kd,?_⟩
      refine nV τok 34 3 (mR 41 38) ?_;refine ⟨.inl kd,?_⟩;refine rV τok [38,39,40] 0 (mR 41 41) kd ?_;refine dV ?_;exact no (k08.dr _) hres.symm
    have y2:¬ (B.ents.length:Int) <= p.1:=y2;obtain ⟨n,hn⟩:∃ n:Nat,p.1 = (n:Int):=⟨p.1.toNat,by omega⟩
    obtain ⟨be,oe,ce',ae',cc',pe,hc1,hc2⟩:=kL' hS hE (a:=n) (by omega);injection pe with q1 q2 q3
    subst q1 q3;refine lk h1w ?_;refine lk h58 ?_;refine ix n hn (by omega) ?_;refine ldK (hS.tr k08 _ _ _ hc1) ?_;refine ac' (fun y3=>?_) (fun y3=>?_)
    ·have y3:(cr' B (n:Int)).kind ≠ 2:=y3
     rw [if_pos (.inr (.inr (.inl (by rw [hn]; exact y3))))] at hres;refine gd' τok 34 37 4 (mR 41 37) (mB 41 [34,38,39,40]) rfl rfl rfl rfl rfl (by kernel_rfl) ?_ ?_
     ·refine ⟨.inl kd,?_⟩
      refine nV τok 37 3 (mR 41 38) ?_;refine ⟨.inl kd,?_⟩;refine rV τok [38,39,40] 0 (mR 41 41) kd ?_;refine dV ?_;exact no (k08.dr _) hres.symm
     ·refine ⟨.inl kd,?_⟩
      refine nV τok 34 3 (mR 41 38) ?_;refine ⟨.inl kd,?_⟩;refine rV τok [38,39,40] 0 (mR 41 41) kd ?_;refine dV ?_;exact no (k08.dr _) hres.symm
    have y3:¬ (cr' B (n:Int)).kind ≠ 2:=y3;refine lk h58 ?_;refine ac' (fun y4=>?_) (fun y4=>?_)
    ·have y4:p.2 < 1:=y4
     rw [if_pos (.inr (.inr (.inr (.inl y4))))] at hres;refine gd' τok 34 37 4 (mR 41 37) (mB 41 [34,38,39,40]) rfl rfl rfl rfl rfl (by kernel_rfl) ?_ ?_
     ·refine ⟨.inl kd,?_⟩
      refine nV τok 37 3 (mR 41 38) ?_;refine ⟨.inl kd,?_⟩;refine rV τok [38,39,40] 0 (mR 41 41) kd ?_;refine dV ?_;exact no (k08.dr _) hres.symm
     ·refine ⟨.inl kd,?_⟩
      refine nV τok 34 3 (mR 41 38) ?_;refine ⟨.inl kd,?_⟩;refine rV τok [38,39,40] 0 (mR 41 41) kd ?_;refine dV ?_;exact no (k08.dr _) hres.symm
    have y4:¬ p.2 < 1:=y4;refine lk h58 ?_;refine ac' (fun y5=>?_) (fun y5=>?_)
    ·have y5:3 < p.2:=y5
     rw [if_pos (.inr (.inr (.inr (.inr (.inl y5)))))] at hres;refine gd' τok 34 37 4 (mR 41 37) (mB 41 [34,38,39,40]) rfl rfl rfl rfl rfl (by kernel_rfl) ?_ ?_
     ·refine ⟨.inl kd,?_⟩
      refine nV τok 37 3 (mR 41 38) ?_;refine ⟨.inl kd,?_⟩;refine rV τok [38,39,40] 0 (mR 41 41) kd ?_;refine dV ?_;exact no (k08.dr _) hres.symm
     ·refine ⟨.inl kd,?_⟩
      refine nV τok 34 3 (mR 41 38) ?_;refine ⟨.inl kd,?_⟩;refine rV τok [38,39,40] 0 (mR 41 41) kd ?_;refine dV ?_;exact no (k08.dr _) hres.symm
    have y5:¬ 3 < p.2:=y5;rw [<- hn] at y3;refine dP' [iV p.1,iV (-1)] rfl (bZ h68) ?_;refine dP' [iV (-1),iV p.2] rfl (bZ h78) ?_;have hG8d:GrP ((dr w8):World).heap bm gm:=hG8;have bd1:=hones.bd p.1 (-1);have bd2:=hones.bd (-1) p.2;refine gd' τok 34 37 4 (mR 41 37) (mB 41 [34,38,39,40]) rfl rfl rfl rfl rfl (by kernel_rfl) ?_ ?_
    ·refine run (de' hG8d p.1 (-1) false) ?_
     refine ⟨.inl kd,?_⟩;refine nV τok 37 3 (mR 41 38) ?_;refine run (de' hG8d (-1) p.2 false) ?_;refine ⟨.inl kd,?_⟩;refine rV τok [38,39,40] 0 (mR 41 41) kd ?_;refine i6 ?_;refine dV ?_;refine ac' (fun y6=>?_) (fun y6=>?_)
     ·have y6:(0:Int) < (gm p.1 (-1)).getD 0 + (gm (-1) p.2).getD 0:=y6
      rw [if_pos (.inr (.inr (.inr (.inr (.inr y6)))))] at hres;exact no (k08.dr _) hres.symm
     have y6:¬ (0:Int) < (gm p.1 (-1)).getD 0 + (gm (-1) p.2).getD 0:=y6;rw [if_neg (by omega)] at hres;have kd0:Kp [] w8 (dr w8):=(Kp.refl [] w8).dr _;have hbmlt:=hG5.lt;have n6:b6 ∉ [bm]:=by simp; omega
     have n7:b7 ∉ [bm]:=by simp; omega
     refine as' τok (fun z=>Kp [bm] w8 z) ?_;refine rV τok (rg 0 4) 2 (mR 6 4) ((kd0.dr _).weak (by simp)) ?_;refine nO' [iV p.1,iV (-1)] rfl (fun z hz j u hj=>by rw [KW]; exact (h68.kp hz n6).cl hj) ?_;refine nO' [iV (-1),iV p.2] rfl (fun z hz j u hj=>by rw [KW]; exact (h78.kp hz n7).cl hj) ?_;refine nV τok 4 1 (mR 6 5) ?_;have hG8':GrP ({ w8 with drawn:=w8.drawn + 1 + 1 }:World).heap bm gm:=hG8;refine ec' hG8' p.1 (-1) 1 fun w9 hG9 hs9 hk9=>?_;refine ⟨.inl hk9.rd.rd,?_⟩;refine nV τok 5 0 (mR 6 6) ?_;refine ec' hG9 (-1) p.2 1 fun wa hGa hsa hka=>?_;refine ⟨.inr (by kernel_rfl),?_⟩;refine dV ?_;refine i6 ?_;have hk9:Kp [bm] w8 w9:=hk9.rd.rd;have k8a:Kp [bm] w8 wa:=hk9.tq hka;have k0a:Kp [] w wa:=k08.trans k8a fun y hy hl=>by
      obtain rfl:y = bm:=by simpa using hy
      omega
     exact ⟨(i + 1,putG (putG gm p.1 (-1) 1) (-1) p.2 1),by simp only; omega,rfl,⟨rfl,rfl,rfl,rfl,rfl,trivial⟩,by show i + 1 <= _; omega,(hones.put _ _).put _ _,hGa,h1w.kp k8a (by simp; omega),k0a,hres⟩
    ·refine run (de' hG8d (-1) p.2 false) ?_
     refine ⟨.inl kd,?_⟩;refine nV τok 34 3 (mR 41 38) ?_;refine run (de' hG8d p.1 (-1) false) ?_;refine ⟨.inl kd,?_⟩;refine rV τok [38,39,40] 0 (mR 41 41) kd ?_;refine i6 ?_;refine dV ?_;refine ac' (fun y6=>?_) (fun y6=>?_)
     ·have y6:(0:Int) < (gm p.1 (-1)).getD 0 + (gm (-1) p.2).getD 0:=y6
      rw [if_pos (.inr (.inr (.inr (.inr (.inr y6)))))] at hres;exact no (k08.dr _) hres.symm
     have y6:¬ (0:Int) < (gm p.1 (-1)).getD 0 + (gm (-1) p.2).getD 0:=y6;rw [if_neg (by omega)] at hres;have kd0:Kp [] w8 (dr w8):=(Kp.refl [] w8).dr _;have hbmlt:=hG5.lt;have n6:b6 ∉ [bm]:=by simp; omega
     have n7:b7 ∉ [bm]:=by simp; omega
     refine as' τok (fun z=>Kp [bm] w8 z) ?_;refine rV τok (rg 0 4) 2 (mR 6 4) ((kd0.dr _).weak (by simp)) ?_;refine nO' [iV p.1,iV (-1)] rfl (fun z hz j u hj=>by rw [KW]; exact (h68.kp hz n6).cl hj) ?_;refine nO' [iV (-1),iV p.2] rfl (fun z hz j u hj=>by rw [KW]; exact (h78.kp hz n7).cl hj) ?_;refine nV τok 4 1 (mR 6 5) ?_;have hG8':GrP ({ w8 with drawn:=w8.drawn + 1 + 1 }:World).heap bm gm:=hG8;refine ec' hG8' p.1 (-1) 1 fun w9 hG9 hs9 hk9=>?_;refine ⟨.inl hk9.rd.rd,?_⟩;refine nV τok 5 0 (mR 6 6) ?_;refine ec' hG9 (-1) p.2 1 fun wa hGa hsa hka=>?_;refine ⟨.inr (by kernel_rfl),?_⟩;refine dV ?_;refine i6 ?_;have hk9:Kp [bm] w8 w9:=hk9.rd.rd;have k8a:Kp [bm] w8 wa:=hk9.tq hka;have k0a:Kp [] w wa:=k08.trans k8a fun y hy hl=>by
      obtain rfl:y = bm:=by simpa using hy
      omega
     exact ⟨(i + 1,putG (putG gm p.1 (-1) 1) (-1) p.2 1),by simp only; omega,rfl,⟨rfl,rfl,rfl,rfl,rfl,trivial⟩,by show i + 1 <= _; omega,(hones.put _ _).put _ _,hGa,h1w.kp k8a (by simp; omega),k0a,hres⟩
   ·refine new fun b7 wc hb7 h7 hs7 hk7=>?_
    have hk7:Kp [] w5 wc:=hk7.rd;have lb7:w5.heap.size <= b7:=by
     have:b7 = w5.heap.size:=hb7;omega
    refine ⟨.inl hk7,?_⟩;refine nV τok 6 2 (mR 10 8) ?_;refine new fun b6 wd hb6 h6 hs8 hk8=>?_;have k36:=hk7.tr hk8;have n67:b6 ≠ b7:=by have:=h7.lt; omega
    have lb6:w5.heap.size <= b6:=by have:=hk7.size; omega
    refine ⟨.inl k36,?_⟩;refine nV τok 8 1 (mR 10 9) ?_;refine stN (vs:=[iV p.1,iV (-1)]) h6 rfl o1 fun we h6' hs9 hk9=>?_;have k37:Kp [] w5 we:=k36.trans hk9 fun y hy hl=>by simp at hy; omega
    refine ⟨.inl k37,?_⟩;refine nV τok 9 0 (mR 10 10) ?_;refine stN (vs:=[iV (-1),iV p.2]) ((h7.kp hk8 (by simp)).kp hk9 (by simpa using Ne.symm n67)) rfl o2 fun w8 h7' hs10 hk10=>?_;refine ⟨.inr (by kernel_rfl),?_⟩;refine dV ?_;have k48:Kp [] w5 w8:=k37.trans hk10 fun y hy hl=>by simp at hy; omega
    have k08:=k04.tr k48;have h68:Bk w8.heap b6 [iV p.1,iV (-1)] 86:=(h6'.kp hk10 (by simpa using n67))
    have h78:Bk w8.heap b7 [iV (-1),iV p.2] 86:=h7';have h58:=h5.kp k48 (by simp);have h1w:=h14.kp k48 (by simp);have hG8:=hG5.kp k48 (by simp);have kd:Kp [] w8 (dr w8):=(Kp.refl [] w8).dr _;refine as' τok (fun z=>Kp [] w8 z) ?_;refine rV τok [0,1,2,3,4,5,6,7,8,9,10,11,12,13,14,15,16,17,18,19,20,21,22,23,24,25,26,27,28,29,30,31,32,33,35,36] 5 (mB 41 [34,37,38,39,40]) kd ?_;refine lk h58 ?_;refine ac' (fun y1=>?_) (fun y1=>?_)
    ·have y1:p.1 < 0:=y1
     rw [if_pos (.inl y1)] at hres;refine gd' τok 34 37 4 (mR 41 37) (mB 41 [34,38,39,40]) rfl rfl rfl rfl rfl (by kernel_rfl) ?_ ?_
     ·refine ⟨.inl kd,?_⟩
      refine nV τok 37 3 (mR 41 38) ?_;refine ⟨.inl kd,?_⟩;refine rV τok [38,39,40] 0 (mR 41 41) kd ?_;refine dV ?_;exact no (k08.dr _) hres.symm
     ·refine ⟨.inl kd,?_⟩
      refine nV τok 34 3 (mR 41 38) ?_;refine ⟨.inl kd,?_⟩;refine rV τok [38,39,40] 0 (mR 41 41) kd ?_;refine dV ?_;exact no (k08.dr _) hres.symm
    have y1:¬ p.1 < 0:=y1;refine lk h58 ?_;refine lk h1w ?_;refine ac' (fun y2=>?_) (fun y2=>?_)
    ·have y2:(B.ents.length:Int) <= p.1:=y2
     rw [if_pos (.inr (.inl y2))] at hres;refine gd' τok 34 37 4 (mR 41 37) (mB 41 [34,38,39,40]) rfl rfl rfl rfl rfl (by kernel_rfl) ?_ ?_
     ·refine ⟨.inl kd,?_⟩
      refine nV τok 37 3 (mR 41 38) ?_;refine ⟨.inl kd,?_⟩;refine rV τok [38,39,40] 0 (mR 41 41) kd ?_;refine dV ?_;exact no (k08.dr _) hres.symm
     ·refine ⟨.inl kd,?_⟩
      refine nV τok 34 3 (mR 41 38) ?_;refine ⟨.inl kd,?_⟩;refine rV τok [38,39,40] 0 (mR 41 41) kd ?_;refine dV ?_;exact no (k08.dr _) hres.symm
    have y2:¬ (B.ents.length:Int) <= p.1:=y2;obtain ⟨n,hn⟩:∃ n:Nat,p.1 = (n:Int):=⟨p.1.toNat,by omega⟩
    obtain ⟨be,oe,ce',ae',cc',pe,hc1,hc2⟩:=kL' hS hE (a:=n) (by omega);injection pe with q1 q2 q3
    subst q1 q3;refine lk h1w ?_;refine lk h58 ?_;refine ix n hn (by omega) ?_;refine ldK (hS.tr k08 _ _ _ hc1) ?_;refine ac' (fun y3=>?_) (fun y3=>?_)
    ·have y3:(cr' B (n:Int)).kind ≠ 2:=y3
     rw [if_pos (.inr (.inr (.inl (by rw [hn]; exact y3))))] at hres;refine gd' τok 34 37 4 (mR 41 37) (mB 41 [34,38,39,40]) rfl rfl rfl rfl rfl (by kernel_rfl) ?_ ?_
     ·refine ⟨.inl kd,?_⟩
      refine nV τok 37 3 (mR 41 38) ?_;refine ⟨.inl kd,?_⟩;refine rV τok [38,39,40] 0 (mR 41 41) kd ?_;refine dV ?_;exact no (k08.dr _) hres.symm
     ·refine ⟨.inl kd,?_⟩
      refine nV τok 34 3 (mR 41 38) ?_;refine ⟨.inl kd,?_⟩;refine rV τok [38,39,40] 0 (mR 41 41) kd ?_;refine dV ?_;exact no (k08.dr _) hres.symm
    have y3:¬ (cr' B (n:Int)).kind ≠ 2:=y3;refine lk h58 ?_;refine ac' (fun y4=>?_) (fun y4=>?_)
    ·have y4:p.2 < 1:=y4
     rw [if_pos (.inr (.inr (.inr (.inl y4))))] at hres;refine gd' τok 34 37 4 (mR 41 37) (mB 41 [34,38,39,40]) rfl rfl rfl rfl rfl (by kernel_rfl) ?_ ?_
     ·refine ⟨.inl kd,?_⟩
      refine nV τok 37 3 (mR 41 38) ?_;refine ⟨.inl kd,?_⟩;refine rV τok [38,39,40] 0 (mR 41 41) kd ?_;refine dV ?_;exact no (k08.dr _) hres.symm
     ·refine ⟨.inl kd,?_⟩
      refine nV τok 34 3 (mR 41 38) ?_;refine ⟨.inl kd,?_⟩;refine rV τok [38,39,40] 0 (mR 41 41) kd ?_;refine dV ?_;exact no (k08.dr _) hres.symm
    have y4:¬ p.2 < 1:=y4;refine lk h58 ?_;refine ac' (fun y5=>?_) (fun y5=>?_)
    ·have y5:3 < p.2:=y5
     rw [if_pos (.inr (.inr (.inr (.inr (.inl y5)))))] at hres;refine gd' τok 34 37 4 (mR 41 37) (mB 41 [34,38,39,40]) rfl rfl rfl rfl rfl (by kernel_rfl) ?_ ?_
     ·refine ⟨.inl kd,?_⟩
      refine nV τok 37 3 (mR 41 38) ?_;refine ⟨.inl kd,?_⟩;refine rV τok [38,39,40] 0 (mR 41 41) kd ?_;refine dV ?_;exact no (k08.dr _) hres.symm
     ·refine ⟨.inl kd,?_⟩
      refine nV τok 34 3 (mR 41 38) ?_;refine ⟨.inl kd,?_⟩;refine rV τok [38,39,40] 0 (mR 41 41) kd ?_;refine dV ?_;exact no (k08.dr _) hres.symm
    have y5:¬ 3 < p.2:=y5;rw [<- hn] at y3;refine dP' [iV p.1,iV (-1)] rfl (bZ h68) ?_;refine dP' [iV (-1),iV p.2] rfl (bZ h78) ?_;have hG8d:GrP ((dr w8):World).heap bm gm:=hG8;have bd1:=hones.bd p.1 (-1);have bd2:=hones.bd (-1) p.2;refine gd' τok 34 37 4 (mR 41 37) (mB 41 [34,38,39,40]) rfl rfl rfl rfl rfl (by kernel_rfl) ?_ ?_
    ·refine run (de' hG8d p.1 (-1) false) ?_
     refine ⟨.inl kd,?_⟩;refine nV τok 37 3 (mR 41 38) ?_;refine run (de' hG8d (-1) p.2 false) ?_;refine ⟨.inl kd,?_⟩;refine rV τok [38,39,40] 0 (mR 41 41) kd ?_;refine i6 ?_;refine dV ?_;refine ac' (fun y6=>?_) (fun y6=>?_)
     ·have y6:(0:Int) < (gm p.1 (-1)).getD 0 + (gm (-1) p.2).getD 0:=y6
      rw [if_pos (.inr (.inr (.inr (.inr (.inr y6)))))] at hres;exact no (k08.dr _) hres.symm
     have y6:¬ (0:Int) < (gm p.1 (-1)).getD 0 + (gm (-1) p.2).getD 0:=y6;rw [if_neg (by omega)] at hres;have kd0:Kp [] w8 (dr w8):=(Kp.refl [] w8).dr _;have hbmlt:=hG5.lt;have n6:b6 ∉ [bm]:=by simp; omega
     have n7:b7 ∉ [bm]:=by simp; omega
     refine as' τok (fun z=>Kp [bm] w8 z) ?_;refine rV τok (rg 0 4) 2 (mR 6 4) ((kd0.dr _).weak (by simp)) ?_;refine nO' [iV p.1,iV (-1)] rfl (fun z hz j u hj=>by rw [KW]; exact (h68.kp hz n6).cl hj) ?_;refine nO' [iV (-1),iV p.2] rfl (fun z hz j u hj=>by rw [KW]; exact (h78.kp hz n7).cl hj) ?_;refine nV τok 4 1 (mR 6 5) ?_;have hG8':GrP ({ w8 with drawn:=w8.drawn + 1 + 1 }:World).heap bm gm:=hG8;refine ec' hG8' p.1 (-1) 1 fun w9 hG9 hs9 hk9=>?_;refine ⟨.inl hk9.rd.rd,?_⟩;refine nV τok 5 0 (mR 6 6) ?_;refine ec' hG9 (-1) p.2 1 fun wa hGa hsa hka=>?_;refine ⟨.inr (by kernel_rfl),?_⟩;refine dV ?_;refine i6 ?_;have hk9:Kp [bm] w8 w9:=hk9.rd.rd;have k8a:Kp [bm] w8 wa:=hk9.tq hka;have k0a:Kp [] w wa:=k08.trans k8a fun y hy hl=>by
      obtain rfl:y = bm:=by simpa using hy
      omega
     exact ⟨(i + 1,putG (putG gm p.1 (-1) 1) (-1) p.2 1),by simp only; omega,rfl,⟨rfl,rfl,rfl,rfl,rfl,trivial⟩,by show i + 1 <= _; omega,(hones.put _ _).put _ _,hGa,h1w.kp k8a (by simp; omega),k0a,hres⟩
    ·refine run (de' hG8d (-1) p.2 false) ?_
     refine ⟨.inl kd,?_⟩;refine nV τok 34 3 (mR 41 38) ?_;refine run (de' hG8d p.1 (-1) false) ?_;refine ⟨.inl kd,?_⟩;refine rV τok [38,39,40] 0 (mR 41 41) kd ?_;refine i6 ?_;refine dV ?_;refine ac' (fun y6=>?_) (fun y6=>?_)
     ·have y6:(0:Int) < (gm p.1 (-1)).getD 0 + (gm (-1) p.2).getD 0:=y6
      rw [if_pos (.inr (.inr (.inr (.inr (.inr y6)))))] at hres;exact no (k08.dr _) hres.symm
     have y6:¬ (0:Int) < (gm p.1 (-1)).getD 0 + (gm (-1) p.2).getD 0:=y6;rw [if_neg (by omega)] at hres;have kd0:Kp [] w8 (dr w8):=(Kp.refl [] w8).dr _;have hbmlt:=hG5.lt;have n6:b6 ∉ [bm]:=by simp; omega
     have n7:b7 ∉ [bm]:=by simp; omega
     refine as' τok (fun z=>Kp [bm] w8 z) ?_;refine rV τok (rg 0 4) 2 (mR 6 4) ((kd0.dr _).weak (by simp)) ?_;refine nO' [iV p.1,iV (-1)] rfl (fun z hz j u hj=>by rw [KW]; exact (h68.kp hz n6).cl hj) ?_;refine nO' [iV (-1),iV p.2] rfl (fun z hz j u hj=>by rw [KW]; exact (h78.kp hz n7).cl hj) ?_;refine nV τok 4 1 (mR 6 5) ?_;have hG8':GrP ({ w8 with drawn:=w8.drawn + 1 + 1 }:World).heap bm gm:=hG8;refine ec' hG8' p.1 (-1) 1 fun w9 hG9 hs9 hk9=>?_;refine ⟨.inl hk9.rd.rd,?_⟩;refine nV τok 5 0 (mR 6 6) ?_;refine ec' hG9 (-1) p.2 1 fun wa hGa hsa hka=>?_;refine ⟨.inr (by kernel_rfl),?_⟩;refine dV ?_;refine i6 ?_;have hk9:Kp [bm] w8 w9:=hk9.rd.rd;have k8a:Kp [bm] w8 wa:=hk9.tq hka;have k0a:Kp [] w wa:=k08.trans k8a fun y hy hl=>by
      obtain rfl:y = bm:=by simpa using hy
      omega
     exact ⟨(i + 1,putG (putG gm p.1 (-1) 1) (-1) p.2 1),by simp only; omega,rfl,⟨rfl,rfl,rfl,rfl,rfl,trivial⟩,by show i + 1 <= _; omega,(hones.put _ _).put _ _,hGa,h1w.kp k8a (by simp; omega),k0a,hres⟩
  ·have g:¬ (i:Int) < (B.prims.length:Int):=g
   rw [JY (by omega)] at hres;simp only [nD'] at hres;subst hres;exact ⟨rfl,k04⟩
end
theorem kM' {a b:Int} (h:a ≠ 0):bh' a b = a:=by unfold bh'; rw [if_pos h]
section
variable {C:Mem} {w:World} {B:BoT}
theorem kN' (hS:Sub C w) (hold:∀ b o v,C b o v -> b < w.heap.size) {vb:Value} (hvb:BoV C B vb) :
  CC 12 #[vb] w (fun e w'=>e = .returned (iV (be' B)) /\ Kp [] w w'):=by
 refine oF Tryz.func12 ?_;obtain ⟨RES,hRES⟩:∃ r,be' B = r:=⟨_,rfl⟩
 rw [hRES];unfold be' at hRES;have hvb':=hvb;obtain ⟨v1,v2,v3,rfl,hO,hE,hP⟩:=hvb;obtain ⟨ao,co,rfl,hO1,_⟩:=id hO;obtain ⟨ae,ce,rfl,hE1,_⟩:=id hE;obtain ⟨ap,cp,rfl,hP1,_⟩:=id hP;have lE:=hE1.1;refine cO (args:=[_]) 39 [.tmp 2] τok Tryz.func12 ?_;refine new fun b1 w1 hb1 h1 hs1 hk1=>?_;have h1:Bk w1.heap b1 [iV B.vars,.slice ao B.orders.length co,.slice ae B.ents.length ce,iV B.nat,.slice ap B.prims.length cp] 26:=h1;refine lb h1 ?_;refine lb h1 ?_;refine ab' (rd' B.vars B.orders ao co w1 (Sl.ordV hO1 (hS.tr hk1))) ?_;rintro e w2 ⟨rfl,hk2⟩;have k02:=hk1.tr hk2;have h1:=h1.kp hk2 (by simp);refine ac' (fun g1=>?_) (fun g1=>?_)
 ·have g1:gR' B.vars B.orders ≠ 0:=g1
  rw [if_pos g1] at hRES;subst hRES;exact ⟨rfl,k02⟩
 have g1:¬ gR' B.vars B.orders ≠ 0:=g1;rw [if_neg g1] at hRES;refine lb h1 ?_;refine ac' (fun g2=>?_) (fun g2=>?_)
 ·have g2:(64:Int) < (B.ents.length:Int):=g2
  rw [if_pos (by omega)] at hRES;subst hRES;exact ⟨rfl,k02⟩
 have g2:¬ (64:Int) < (B.ents.length:Int):=g2;rw [if_neg (by omega)] at hRES;refine lb h1 ?_;refine lp τok (σ:=Nat) (fun i=>[(1,pt b1),(20,.slice ae B.ents.length ce),(21,iV (B.ents.length:Int)),(22,iV (i:Int))])
  (fun i w'=>i <= B.ents.length /\ Bk w'.heap b1 [iV B.vars,.slice ao B.orders.length co,.slice ae B.ents.length ce,iV B.nat,.slice ap B.prims.length cp] 26 /\ Kp [] w w' /\ bh' (ch' B (B.ents.drop i) i) (if rK' B = true then 0 else 22) = RES) (fun i=>B.ents.length - i) 0 rfl
  ⟨rfl,rfl,rfl,rfl,trivial⟩ ⟨KV _,h1,k02,hRES⟩ ?_
 clear hRES h1 k02
 rintro i w3 ⟨hi,h1,k03,hres⟩;refine ac' (fun g=>?_) (fun g=>?_)
 ·have g:(i:Int) < (B.ents.length:Int):=g
  obtain ⟨x,hx,hd⟩:=af' (l:=B.ents) (k:=i) (by omega);rw [hd] at hres;simp only [ch'] at hres;obtain ⟨be,oe,ce',pe,hat⟩:=hE.at hx;obtain ⟨w1e,w2e,w3e,w4e,w5e,w6e,hcs,hki,hso,hpa,hin,hct,hty,hbo⟩:=eB' hat;injection pe with q1 q2 q3
  subst q1 q3;have hone:∀ v ∈ [iV x.kind,w1e,w2e,w3e,w4e,w5e,w6e],v.oneCell' = true:=fun v hv=>by
   simp at hv;rcases hv with rfl | rfl | rfl | rfl | rfl | rfl | rfl
   ·rfl
   ·exact hso.one
   ·exact hpa.one
   ·exact hin.one
   ·exact hct.one
   ·exact hty.one
   ·exact hbo.one
  refine ix i rfl (by omega) ?_;refine ldN _ rfl (fun j u hj=>(hS.tr k03) _ _ _ (hcs j u hj)) ?_;refine new fun b5 w4 hb5 h5 hs4 hk4=>?_;refine stN (vs:=[iV x.kind,w1e,w2e,w3e,w4e,w5e,w6e]) h5 rfl hone fun w5 h5 hs5 hk5=>?_;have k35:=hk4.newSt hb5 hk5;have k05:=k03.tr k35;have h1:=h1.kp k35 (by simp);have h5:Bk w5.heap b5 [iV x.kind,w1e,w2e,w3e,w4e,w5e,w6e] 55:=h5;refine ldN [iV B.vars,.slice ao B.orders.length co,.slice _ B.ents.length _,iV B.nat,.slice ap B.prims.length cp] rfl (bZ h1) ?_;refine ldN [iV x.kind,w1e,w2e,w3e,w4e,w5e,w6e] rfl (bZ h5) ?_;refine ab' (nF' (known:=i) (hS.tr k05) (fun b o v h=>KZ (hold b o v h) k05.size) ⟨_,_,_,rfl,hO,hE,hP,by omega⟩ ⟨w1e,w2e,w3e,w4e,w5e,w6e,rfl,hso,hpa,hin,hct,hty,hbo⟩) ?_;rintro e w6 ⟨rfl,hk6⟩;refine ac' (fun g3=>?_) (fun g3=>?_)
  ·have g3:dd' B i x ≠ 0:=g3
   have e:bh' (dd' B i x) (ch' B (B.ents.drop (i + 1)) (i + 1)) = dd' B i x:=by unfold bh'; rw [if_pos g3]
   rw [e] at hres;have e:bh' (dd' B i x) (if rK' B = true then 0 else 22) = dd' B i x:=by unfold bh'; rw [if_pos g3]
   rw [e] at hres;subst hres;exact ⟨rfl,k05.tr hk6⟩
  ·have g3:¬ dd' B i x ≠ 0:=g3
   have e:bh' (dd' B i x) (ch' B (B.ents.drop (i + 1)) (i + 1)) = ch' B (B.ents.drop (i + 1)) (i + 1):=by unfold bh'; rw [if_neg g3]
   rw [e] at hres;refine i6 ?_;exact ⟨i + 1,by omega,rfl,⟨rfl,rfl,rfl,rfl,trivial⟩,by omega,h1.kp hk6 (by simp),k05.tr hk6,hres⟩
 ·have g:¬ (i:Int) < (B.ents.length:Int):=g
  rw [JY (by omega)] at hres;have e:bh' (ch' B [] i) (if rK' B = true then 0 else 22) = if rK' B = true then 0 else 22:=by unfold bh' ch'; rw [if_neg (by simp)]
  rw [e] at hres;refine ldN [iV B.vars,.slice ao B.orders.length co,.slice ae B.ents.length ce,iV B.nat,.slice ap B.prims.length cp] rfl (bZ h1) ?_;refine ab' (jE' (hS.tr k03) hvb') ?_;rintro e w4 ⟨rfl,hk4⟩;cases hg:rK' B with
  | true =>
   rw [hg] at hres;simp only [if_true] at hres;subst hres;exact ⟨rfl,k03.tr hk4⟩
  | false =>
   rw [hg] at hres;simp only [Bool.false_eq_true,if_false] at hres;subst hres;exact ⟨rfl,k03.tr hk4⟩
theorem jF' (hS:Sub C w) (hold:∀ b o v,C b o v -> b < w.heap.size) {vb vt:Value} (hvb:BoV C B vb) {t:List Nd} (hvt:SV rNd C t vt) {below:Int} (hb:I64 below) :
  CC 13 #[vb,iV below,vt] w (fun e w'=>e = .returned (iV (bE' B below t)) /\ Kp [] w w'):=by
 refine oF Tryz.func13 ?_;obtain ⟨RES,hRES⟩:∃ r,bE' B below t = r:=⟨_,rfl⟩
 rw [hRES];unfold bE' at hRES;have hvb':=hvb;obtain ⟨v1,v2,v3,rfl,hO,hE,hP⟩:=hvb;obtain ⟨ae,ce,rfl,hE1,_⟩:=id hE;obtain ⟨at_,ct_,rfl,_,_⟩:=id hvt;refine cO (args:=[_,_,_]) 23 [.tmp 6] τok Tryz.func13 ?_;refine new fun b3 w1 hb1 h3 hs1 hk1=>?_;have h3:Bk w1.heap b3 [iV B.vars,v1,.slice ae B.ents.length ce,iV B.nat,v3] 26:=h3;refine ldN [iV B.vars,v1,.slice ae B.ents.length ce,iV B.nat,v3] rfl (bZ h3) ?_;refine ab' (kN' (hS.tr hk1) (fun b o v h=>KZ (hold b o v h) hk1.size) hvb') ?_;rintro e w2 ⟨rfl,hk2⟩;have k02:=hk1.tr hk2;have h3:=h3.kp hk2 (by simp);refine ac' (fun g1=>?_) (fun g1=>?_)
 ·have g1:be' B ≠ 0:=g1
  rw [if_pos g1] at hRES;subst hRES;exact ⟨rfl,k02⟩
 have g1:¬ be' B ≠ 0:=g1;rw [if_neg g1] at hRES;refine ac' (fun g2=>?_) (fun g2=>?_)
 ·have g2:below < 0:=g2
  rw [if_pos g2] at hRES;subst hRES;exact ⟨rfl,k02⟩
 have g2:¬ below < 0:=g2;rw [if_neg g2] at hRES;refine ldN [iV B.vars,v1,.slice ae B.ents.length ce,iV B.nat,v3] rfl (bZ h3) ?_;refine lb h3 ?_;refine ab' (jD' (known:=B.ents.length) (self:=-1) (hS.tr k02) (fun b o v h=>KZ (hold b o v h) k02.size) ⟨_,_,_,rfl,hO,hE,hP,KJ _⟩ hvt hb) ?_;rintro e w3 ⟨rfl,hk3⟩;subst hRES;exact ⟨rfl,k02.tr hk3⟩
theorem jG' (hS:Sub C w) (hold:∀ b o v,C b o v -> b < w.heap.size) {vb vc vt:Value} (hvb:BoV C B vb) {c:List (List Nd × List Nd)} (hvc:SV rBd C c vc) {t:List Nd} (hvt:SV rNd C t vt) :
  CC 6 #[vb,vc,vt] w (fun e w'=>e = .returned (iV (cm' B c t)) /\ Kp [] w w'):=by
 refine oF Tryz.func6 ?_;obtain ⟨RES,hRES⟩:∃ r,cm' B c t = r:=⟨_,rfl⟩
 rw [hRES];unfold cm' at hRES;have hvb':=hvb;obtain ⟨v1,v2,v3,rfl,hO,hE,hP⟩:=hvb;obtain ⟨at_,ct_,rfl,_,_⟩:=id hvt;obtain ⟨ac,cc,rfl,hc1,_⟩:=id hvc;have lC:=hc1.1;refine cO (args:=[_,_,_]) 53 [.tmp 6] τok Tryz.func6 ?_;refine new fun b3 w1 hb1 h3 hs1 hk1=>?_;have h3:Bk w1.heap b3 [iV B.vars,v1,v2,iV B.nat,v3] 26:=h3;refine ldN [iV B.vars,v1,v2,iV B.nat,v3] rfl (bZ h3) ?_;refine ab' (kN' (hS.tr hk1) (fun b o v h=>KZ (hold b o v h) hk1.size) hvb') ?_;rintro e w2 ⟨rfl,hk2⟩;have k02:=hk1.tr hk2;have h3:=h3.kp hk2 (by simp);refine ac' (fun g1=>?_) (fun g1=>?_)
 ·have g1:be' B ≠ 0:=g1
  rw [if_pos g1] at hRES;subst hRES;exact ⟨rfl,k02⟩
 have g1:¬ be' B ≠ 0:=g1;rw [if_neg g1] at hRES;refine ac' (fun g2=>?_) (fun g2=>?_)
 ·have g2:(256:Int) < (c.length:Int):=g2
  rw [if_pos (by omega)] at hRES;subst hRES;exact ⟨rfl,k02⟩
 have g2:¬ (256:Int) < (c.length:Int):=g2;rw [if_neg (by omega)] at hRES;refine lp τok (σ:=Nat) (fun i=>[(1,.slice ac c.length cc),(2,.slice at_ t.length ct_),(3,pt b3),(20,.slice ac c.length cc),(21,iV (c.length:Int)),(22,iV (i:Int))])
  (fun i w'=>i <= c.length /\ Bk w'.heap b3 [iV B.vars,v1,v2,iV B.nat,v3] 26 /\ Kp [] w w' /\ bh' (dK' B (c.drop i) i) (bE' B c.length t) = RES) (fun i=>c.length - i) 0 rfl
  ⟨rfl,rfl,rfl,rfl,rfl,rfl,trivial⟩ ⟨KV _,h3,k02,hRES⟩ ?_
 clear hRES h3 k02
 rintro i w3 ⟨hi,h3,k03,hres⟩;refine ac' (fun g=>?_) (fun g=>?_)
 ·have g:(i:Int) < (c.length:Int):=g
  obtain ⟨x,hx,hd⟩:=af' (l:=c) (k:=i) (by omega);rw [hd] at hres;simp only [dK'] at hres;obtain ⟨bc,oc,cc',pc,hat⟩:=hvc.at hx;obtain ⟨vty,vva,hbc,hbt,hbv⟩:=oX' hat;injection pc with q1 q2 q3
  subst q1 q3;obtain ⟨aty,cty,rfl,_,_⟩:=id hbt;obtain ⟨ava,cva,rfl,_,_⟩:=id hbv;refine ix i rfl (by omega) ?_;refine ldN [.slice aty x.1.length cty,.slice ava x.2.length cva] rfl (fun j u hj=>(hS.tr k03) _ _ _ (hbc j u hj)) ?_;refine new fun b9 w4 hb9 h9 hs4 hk4=>?_;refine stN (vs:=[.slice aty x.1.length cty,.slice ava x.2.length cva]) h9 rfl (by simp [Value.oneCell']) fun w5 h9 hs5 hk5=>?_;have k35:=hk4.newSt hb9 hk5;have k05:=k03.tr k35;have h3:=h3.kp k35 (by simp);have h9:Bk w5.heap b9 [.slice aty x.1.length cty,.slice ava x.2.length cva] 35:=h9;refine ldN [iV B.vars,v1,v2,iV B.nat,v3] rfl (bZ h3) ?_;refine lb h9 ?_;refine ab' (jF' (hS.tr k05) (fun b o v h=>KZ (hold b o v h) k05.size) hvb' hbt (by constructor <;> omega)) ?_;rintro e w6 ⟨rfl,hk6⟩;have k06:=k05.tr hk6;have h3:=h3.kp hk6 (by simp);have h9:=h9.kp hk6 (by simp);refine ac' (fun y1=>?_) (fun y1=>?_)
  ·have y1:bE' B (i:Int) x.1 ≠ 0:=y1
   rw [if_pos y1,kM' y1] at hres;subst hres;exact ⟨rfl,k06⟩
  have y1:¬ bE' B (i:Int) x.1 ≠ 0:=y1;rw [if_neg y1] at hres;refine lb h9 ?_;refine ac' (fun y2=>?_) (fun y2=>?_)
  ·have y2:(x.2.length:Int) = 0:=y2
   rw [if_pos (by omega)] at hres;refine i6 ?_;exact ⟨i + 1,by omega,rfl,⟨rfl,rfl,rfl,rfl,rfl,rfl,trivial⟩,by omega,h3,k06,hres⟩
  have y2:¬ (x.2.length:Int) = 0:=y2;rw [if_neg (by omega)] at hres;refine ldN [iV B.vars,v1,v2,iV B.nat,v3] rfl (bZ h3) ?_;refine lb h9 ?_;refine ab' (jF' (hS.tr k06) (fun b o v h=>KZ (hold b o v h) k06.size) hvb' hbv (by constructor <;> omega)) ?_;rintro e w7 ⟨rfl,hk7⟩;refine ac' (fun y3=>?_) (fun y3=>?_)
  ·have y3:bE' B (i:Int) x.2 ≠ 0:=y3
   rw [if_pos y3,kM' y3] at hres;subst hres;exact ⟨rfl,k06.tr hk7⟩
  have y3:¬ bE' B (i:Int) x.2 ≠ 0:=y3;rw [if_neg y3] at hres;refine i6 ?_;exact ⟨i + 1,by omega,rfl,⟨rfl,rfl,rfl,rfl,rfl,rfl,trivial⟩,by omega,h3.kp hk7 (by simp),k06.tr hk7,hres⟩
 ·have g:¬ (i:Int) < (c.length:Int):=g
  rw [JY (by omega)] at hres;simp only [dK'] at hres;have hres:bE' B c.length t = RES:=hres;refine ldN [iV B.vars,v1,v2,iV B.nat,v3] rfl (bZ h3) ?_;refine ab' (jF' (hS.tr k03) (fun b o v h=>KZ (hold b o v h) k03.size) hvb' hvt (by constructor <;> omega)) ?_;rintro e w4 ⟨rfl,hk4⟩;subst hres;exact ⟨rfl,k03.tr hk4⟩
end
section
variable (f:Int -> Nd -> Tr)
mutual
def mT:Tr -> Int -> Int -> Tr
 | .mk n ks,d,nb=>if n.op = 1 then f d n else .mk n (mK ks n nb 0 d)
def mK:List Tr -> Nd -> Int -> Int -> Int -> List Tr
 | [],_,_,_,_=>[]
 | x :: r,n,nb,k,d=>mT x (d + arC n nb k) n.b :: mK r n nb (k + 1) d
end
end
section
variable {f g f3:Int -> Nd -> Tr} {h:Int -> Nd -> Option Tr}
theorem bU' {n:Nd} {ks:List Tr} {d nb:Int} (h1:n.op = 1):mT f (.mk n ks) d nb = f d n:=by simp [mT,h1]
theorem cL' {n:Nd} {ks:List Tr} {d nb:Int} (h1:n.op ≠ 1):mT f (.mk n ks) d nb = .mk n (mK f ks n nb 0 d):=by simp [mT,h1]
mutual
theorem rO':∀ (x:Tr) (s:Md) (d nb:Int),okT cnt nx x s -> (∀ q ∈ varsT x d nb,∀ n:Nd,n.op = 1 -> ah' n = true -> n.a = q.1 -> h q.2 n = some (f q.2 n)) -> gT h x d nb = some (mT f x d nb)
 | .mk n ks,s,d,nb,hx,H=>by
  have hp:=dp' (.mk n ks) s hx n (by simp [row]);obtain ⟨hc,hk⟩:=hx
  by_cases h1:n.op = 1
  ·simp only [gT,mT,if_pos h1]
   exact H (n.a,d) (by simp [varsT,h1]) n h1 hp rfl
  ·simp only [gT,mT,if_neg h1]
   rw [vx' ks n s nb 0 d 0 hk fun q hq=>H q (by simpa [varsT,h1] using hq)]
theorem vx':∀ (ks:List Tr) (n:Nd) (s:Md) (nb k d:Int) (j:Nat),okL cnt nx ks n s j -> (∀ q ∈ varsK ks n nb k d,∀ n:Nd,n.op = 1 -> ah' n = true -> n.a = q.1 -> h q.2 n = some (f q.2 n)) -> gK h ks n nb k d = some (mK f ks n nb k d)
 | [],n,s,nb,k,d,j,_,_=>rfl
 | x :: r,n,s,nb,k,d,j,hk,H=>by
  obtain ⟨hx,hr⟩:=hk;simp only [gK,mK];rw [rO' x (nx s n j) _ _ hx fun q hq=>H q (by simp [varsK,hq]),vx' r n s nb (k + 1) d (j + 1) hr fun q hq=>H q (by simp [varsK,hq])]
end
variable {e:Int}
mutual
theorem eE':∀ (x:Tr) (s:Md) (d nb:Int),okT cnt nx x s -> (∀ q ∈ varsT x d nb,∀ n:Nd,n.op = 1 -> ah' n = true -> n.a = q.1 -> ∀ nb:Int,mT g (f q.2 n) (q.2 + e) nb = f3 q.2 n) -> mT g (mT f x d nb) (d + e) nb = mT f3 x d nb
 | .mk n ks,s,d,nb,hx,H=>by
  have hp:=dp' (.mk n ks) s hx n (by simp [row]);obtain ⟨hc,hk⟩:=hx
  by_cases h1:n.op = 1
  ·rw [bU' h1,bU' h1]
   exact H (n.a,d) (by simp [varsT,h1]) n h1 hp rfl nb
  ·rw [cL' h1,cL' h1,cL' h1,pR' ks n s nb 0 d 0 hk fun q hq=>H q (by simpa [varsT,h1] using hq)]
theorem pR':∀ (ks:List Tr) (n:Nd) (s:Md) (nb k d:Int) (j:Nat),okL cnt nx ks n s j -> (∀ q ∈ varsK ks n nb k d,∀ n:Nd,n.op = 1 -> ah' n = true -> n.a = q.1 -> ∀ nb:Int,mT g (f q.2 n) (q.2 + e) nb = f3 q.2 n) -> mK g (mK f ks n nb k d) n nb k (d + e) = mK f3 ks n nb k d
 | [],n,s,nb,k,d,j,_,_=>rfl
 | x :: r,n,s,nb,k,d,j,hk,H=>by
  obtain ⟨hx,hr⟩:=hk;simp only [mK];rw [show d + e + arC n nb k = d + arC n nb k + e by omega,eE' x (nx s n j) _ _ hx fun q hq=>H q (by simp [varsK,hq]),pR' r n s nb (k + 1) d (j + 1) hr fun q hq=>H q (by simp [varsK,hq])]
end
mutual
theorem kO':∀ (x:Tr) (s:Md) (d nb:Int),okT cnt nx x s -> (∀ q ∈ varsT x d nb,∀ n:Nd,n.op = 1 -> ah' n = true -> n.a = q.1 -> f (q.2 + e) n = f3 q.2 n) -> mT f x (d + e) nb = mT f3 x d nb
 | .mk n ks,s,d,nb,hx,H=>by
  have hp:=dp' (.mk n ks) s hx n (by simp [row]);obtain ⟨hc,hk⟩:=hx
  by_cases h1:n.op = 1
  ·rw [bU' h1,bU' h1]
   exact H (n.a,d) (by simp [varsT,h1]) n h1 hp rfl
  ·rw [cL' h1,cL' h1,sE' ks n s nb 0 d 0 hk fun q hq=>H q (by simpa [varsT,h1] using hq)]
theorem sE':∀ (ks:List Tr) (n:Nd) (s:Md) (nb k d:Int) (j:Nat),okL cnt nx ks n s j -> (∀ q ∈ varsK ks n nb k d,∀ n:Nd,n.op = 1 -> ah' n = true -> n.a = q.1 -> f (q.2 + e) n = f3 q.2 n) -> mK f ks n nb k (d + e) = mK f3 ks n nb k d
 | [],n,s,nb,k,d,j,_,_=>rfl
 | x :: r,n,s,nb,k,d,j,hk,H=>by
  obtain ⟨hx,hr⟩:=hk;simp only [mK];rw [show d + e + arC n nb k = d + arC n nb k + e by omega,kO' x (nx s n j) _ _ hx fun q hq=>H q (by simp [varsK,hq]),sE' r n s nb (k + 1) d (j + 1) hr fun q hq=>H q (by simp [varsK,hq])]
end
mutual
theorem lN':∀ (x:Tr) (s:Md) (d nb:Int),okT cnt nx x s -> (∀ q ∈ varsT x d nb,∀ n:Nd,n.op = 1 -> ah' n = true -> n.a = q.1 -> f (q.2 + e) n = .mk n []) -> mT f x (d + e) nb = x
 | .mk n ks,s,d,nb,hx,H=>by
  have hp:=dp' (.mk n ks) s hx n (by simp [row]);obtain ⟨hc,hk⟩:=hx
  by_cases h1:n.op = 1
  ·have:ks = []:=List.length_eq_zero_iff.1 (ey' hc h1)
   subst this;rw [bU' h1];exact H (n.a,d) (by simp [varsT,h1]) n h1 hp rfl
  ·rw [cL' h1,pS' ks n s nb 0 d 0 hk fun q hq=>H q (by simpa [varsT,h1] using hq)]
theorem pS':∀ (ks:List Tr) (n:Nd) (s:Md) (nb k d:Int) (j:Nat),okL cnt nx ks n s j -> (∀ q ∈ varsK ks n nb k d,∀ n:Nd,n.op = 1 -> ah' n = true -> n.a = q.1 -> f (q.2 + e) n = .mk n []) -> mK f ks n nb k (d + e) = ks
 | [],n,s,nb,k,d,j,_,_=>rfl
 | x :: r,n,s,nb,k,d,j,hk,H=>by
  obtain ⟨hx,hr⟩:=hk;simp only [mK];rw [show d + e + arC n nb k = d + arC n nb k + e by omega,lN' x (nx s n j) _ _ hx fun q hq=>H q (by simp [varsK,hq]),pS' r n s nb (k + 1) d (j + 1) hr fun q hq=>H q (by simp [varsK,hq])]
end
theorem nH' {x:Tr} (hx:x.n.op ≠ 13) (d nb nb':Int):mT f x d nb = mT f x d nb':=by
 obtain ⟨n,ks⟩:=x;have hx:n.op ≠ 13:=hx;have hk:∀ (ks:List Tr) (k:Int),mK f ks n nb k d = mK f ks n nb' k d:=fun ks=>by
  induction ks with
  | nil=>intro k; rfl
  | cons y r ih=>intro k; simp only [mK,eR' hx,ih]
 simp only [mT,hk]
theorem sF' {n:Nd} {nb d:Int}:∀ (ks:List Tr) (k:Int) (i:Nat),(mK f ks n nb k d)[i]? = (ks[i]?).map fun y=>mT f y (d + arC n nb (k + i)) n.b
 | [],k,i=>by simp [mK]
 | x :: r,k,0=>by simp [mK]
 | x :: r,k,i + 1=>by
  simp only [mK,List.getElem?_cons_succ];rw [sF' r (k + 1) i,show k + 1 + (i:Int) = k + ((i + 1:Nat):Int) by omega]
theorem kP' {n:Nd} {nb d:Int}:∀ (ks:List Tr) (k:Int),(mK f ks n nb k d).length = ks.length
 | [],k=>rfl
 | x :: r,k=>by simp only [mK,JV,kP' r]
theorem mK_n {n n':Nd} {nb d:Int} (h1:n.op = n'.op) (h2:n.b = n'.b):∀ (ks:List Tr) (k:Int),mK f ks n nb k d = mK f ks n' nb k d
 | [],k=>rfl
 | x :: r,k=>by
  have:arC n nb k = arC n' nb k:=by unfold arC aJ'; rw [h1]
  simp only [mK,mK_n h1 h2 r,this,h2]
end
def upN (d:Int) (n:Nd):Nd:={ n with a:=if d <= n.a then n.a + 1 else n.a }
def upF (d:Int) (n:Nd):Tr:=.mk (upN d n) []
def up (k:Int) (x:Tr):Tr:=mT upF x k 0
section
variable {x:Tr} {k:Int}
theorem bF':(up k x).n.op = x.n.op:=by
 obtain ⟨n,ks⟩:=x;unfold up
 by_cases h1:n.op = 1
 ·rw [bU' h1]; rfl
 ·rw [cL' h1]; rfl
theorem gi' (h1:x.n.op ≠ 1):(up k x).n = x.n:=by
 obtain ⟨n,ks⟩:=x;have h1:n.op ≠ 1:=h1;unfold up;rw [cL' h1]
 rfl
theorem tV' (h1:x.n.op ≠ 1):(up k x).ks = mK upF x.ks x.n 0 0 k:=by
 obtain ⟨n,ks⟩:=x;have h1:n.op ≠ 1:=h1;unfold up;rw [cL' h1]
 rfl
mutual
theorem kQ':∀ (x:Tr) (s:Md) (d nb:Int),okT cnt nx x s -> (row (mT upF x d nb)).length = (row x).length
 | .mk n ks,s,d,nb,hx=>by
  obtain ⟨hc,hk⟩:=hx
  by_cases h1:n.op = 1
  ·have:ks = []:=List.length_eq_zero_iff.1 (ey' hc h1)
   subst this;rw [bU' h1]
   rfl
  ·rw [cL' h1]
   simp only [row,JV];rw [iI' ks n s nb 0 d 0 hk]
theorem iI':∀ (ks:List Tr) (n:Nd) (s:Md) (nb k d:Int) (j:Nat),okL cnt nx ks n s j -> (rows (mK upF ks n nb k d)).length = (rows ks).length
 | [],n,s,nb,k,d,j,_=>rfl
 | x :: r,n,s,nb,k,d,j,hk=>by
  obtain ⟨hx,hr⟩:=hk;simp only [mK,rows,JK];rw [kQ' x (nx s n j) _ _ hx,iI' r n s nb (k + 1) d (j + 1) hr]
end
theorem iJ' (hx:Ok .tm x):(row (up k x)).length = (row x).length:=kQ' x .tm k 0 hx.1
mutual
theorem mW' (e:Int):∀ (x:Tr) (s:Md) (d nb:Int),okT cnt nx x s -> varsT (mT upF x (d + e) nb) d nb = (varsT x d nb).map fun q=>(if q.2 + e <= q.1 then q.1 + 1 else q.1,q.2)
 | .mk n ks,s,d,nb,hx=>by
  obtain ⟨hc,hk⟩:=hx
  by_cases h1:n.op = 1
  ·rw [bU' h1]
   simp [upF,upN,varsT,h1]
  ·rw [cL' h1]
   simp only [varsT,if_neg h1];exact mX' e ks n s nb 0 d 0 hk
theorem mX' (e:Int):∀ (ks:List Tr) (n:Nd) (s:Md) (nb k d:Int) (j:Nat),okL cnt nx ks n s j -> varsK (mK upF ks n nb k (d + e)) n nb k d = (varsK ks n nb k d).map fun q=>(if q.2 + e <= q.1 then q.1 + 1 else q.1,q.2)
 | [],n,s,nb,k,d,j,_=>rfl
 | x :: r,n,s,nb,k,d,j,hk=>by
  obtain ⟨hx,hr⟩:=hk;simp only [mK,varsK,List.map_append];rw [show d + e + arC n nb k = d + arC n nb k + e by omega,mW' e x (nx s n j) _ _ hx,mX' e r n s nb (k + 1) d (j + 1) hr]
end
theorem pT' (hx:Ok .tm x):varsT (up k x) 0 0 = (varsT x 0 0).map fun q=>(if q.2 + k <= q.1 then q.1 + 1 else q.1,q.2):=by
 have:=mW' k x .tm 0 0 hx.1
 rwa [Int.zero_add] at this
theorem lO' (hx:Ok .tm x) (hs:dl' x):aq' x 1 k = up k x /\ gc' x 1 k = some (up k x):=by
 have h1:=bj' hx hs (by_:=1) (fr:=k) (by omega);have h2:gc' x 1 k = some (up k x):=by
  unfold gc';rw [rO' (h:=cH' 1 k) (f:=fun d n=>upF (d + k) n) x .tm 0 0 hx.1 fun q hq n h1 hp hn=>by
   have hsq:=hs q hq;unfold cH' upF upN
   by_cases hc:k + q.2 <= n.a
   ·rw [if_pos hc,if_neg (by omega),if_pos (by omega)]
   ·rw [if_neg hc,if_neg (by omega)]]
  have:=kO' (f:=upF) (f3:=fun d n=>upF (d + k) n) (e:=k) x .tm 0 0 hx.1 fun q hq n h1 hp hn=>rfl;rw [Int.zero_add] at this;rw [<- this]
  rfl
 rw [h1] at h2;exact ⟨JB h2,h1.trans h2⟩
def Sm (x:Tr):Prop:=∀ q ∈ varsT x 0 0,q.1 <= 400000 /\ 0 <= q.2 /\ q.2 <= 20000
theorem Ft.sm {Q:Nd -> Prop} {N:Int} (h:Ft Q N x) (hN:N <= 100000):Sm x:=fun q hq=>by
 have h1:=gJ' x .tm 0 0 h.ok.1 (by omega) (by omega) (by omega) q hq;have h2:=h.bl q hq;have:=h.len;omega
theorem Ft.up {Q:Nd -> Prop} (hQ:Qk Q) {N:Int} (h:Ft Q N x) (hN:N <= 100000):Ft Q (N + 1) (up k x):=by
 have e:=(lO' (k:=k) h.ok (h.small hN)).1;refine ⟨?_,?_,fun q hq=>?_,?_⟩
 ·rw [<- e]; exact iY' h.ok (h.small hN) (by omega) (by omega)
 ·rw [iJ' h.ok]; exact h.len
 ·rw [pT' h.ok] at hq
  obtain ⟨p,hp,rfl⟩:=List.mem_map.1 hq;have:=h.bl p hp;simp only;split <;> omega
 ·rw [<- e]; exact jb' hQ.var h.ok (h.small hN) (by omega) h.al
theorem cM' {Q:Nd -> Prop} {N:Int} (h:Ft Q N x) (hk:N <= k):up k x = x:=by
 have:=lN' (f:=upF) (e:=k) x .tm 0 0 h.ok.1 fun q hq n h1 hp hn=>by
  have:=h.bl q hq;unfold upF upN;rw [if_neg (by omega)]
 rwa [Int.zero_add] at this
theorem vy' {y:Tr} (hx:Ok .tm x) (hy:Ok .tm y) (h:up k x = up k y):x = y:=by
 have key:∀ z,Ok .tm z -> mT (fun d n=>.mk { n with a:=if d + k < n.a then n.a - 1 else n.a } []) (up k z) 0 0 = z:=fun z hz=>by
  have e:up k z = mT (fun d n=>upF (d + k) n) z 0 0:=by
   have:=kO' (f:=upF) (f3:=fun d n=>upF (d + k) n) (e:=k) z .tm 0 0 hz.1 fun q hq n h1 hp hn=>rfl;rw [Int.zero_add] at this;exact this
  rw [e];have:=eE' (f:=fun d n=>upF (d + k) n) (g:=fun d n=>.mk { n with a:=if d + k < n.a then n.a - 1 else n.a } []) (f3:=fun d n=>.mk n []) (e:=0) z .tm 0 0 hz.1 fun q hq n h1 hp hn nb=>by
   unfold upF upN;rw [bU' (by simpa using h1)];simp only [Int.add_zero];obtain ⟨o,a,b⟩:=n
   by_cases hc:q.2 + k <= a
   ·simp only [if_pos hc]
    rw [if_pos (by omega)]
    congr 2
    omega
   ·simp only [if_neg hc]
    rw [if_neg (by omega)]
  rw [Int.add_zero] at this;rw [this];have:=lN' (f:=fun d n=>.mk n []) (e:=0) z .tm 0 0 hz.1 fun q hq n h1 hp hn=>rfl
  rwa [Int.add_zero] at this
 rw [<- key x hx,<- key y hy,h]
end
end Go.Proofs.YtpealcfjbcpoiaaGreat
