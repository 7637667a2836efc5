import Derived.Test.YtdfmgkaecdkhnaaGreatMt20
set_option linter.unusedVariables false
set_option linter.unusedSimpArgs false
set_option maxRecDepth 100000
set_option maxHeartbeats 4000000
namespace Go.Proofs.YtdfmgkaecdkhnaaGreat
open Go.Wx Cd Tm Lv
def Ones (g:G):Prop:=∀ x y v,g x y = some v -> v = 1
theorem Ones.bd {g:G} (h:Ones g) (x y:Int):0 <= (g x y).getD 0 /\ (g x y).getD 0 <= 1:=by
 cases hg:g x y with
 | none=>simp
 | some v=>have:=h x y v hg; simp [this]
theorem Ones.put {g:G} (h:Ones g) (x y:Int):Ones (putG g x y 1):=fun a b v hv=>by
 unfold putG at hv;split at hv
 ·exact (JB hv).symm
 ·exact h a b v hv
section
variable {C:Mem} {w:World} {B:BoT}
theorem kh' (hS:Sub C w) {vb:Value} (hvb:BoV C B vb) :
  CC 42 #[vb] w (fun e w'=>e = .returned (.bool (sG' B)) /\ Kp [] w w'):=by
 refine oF Tryz.func42 ?_;obtain ⟨RES,hRES⟩:∃ r,sG' B = r:=⟨_,rfl⟩
 rw [hRES];unfold sG' at hRES;have hvb':=hvb;obtain ⟨v1,v2,v3,rfl,hO,hE,hP⟩:=hvb;obtain ⟨ae,ce,rfl,hE1,_⟩:=id hE;obtain ⟨ap,cp,rfl,hP1,_⟩:=id hP;have lP:=hP1.1;have no:∀ {w'},Kp [] w w' -> RES = false -> Ending.returned (Go.Wx.one [.bool false]) = .returned (.bool RES) /\ Kp [] w w':=fun k h=>by subst h; exact ⟨rfl,k⟩
 refine ek' (args:=[_]) 89 [.tmp 2] Tryz.func42 rfl rfl rfl (Nat.le_of_ble_eq_true rfl) ?_;refine bi' τok ?_;refine new fun b1 w1 hb1 h1 hs1 hk1=>?_;have h1:Bk w1.heap b1 [iV B.vars,v1,.slice ae B.ents.length ce,iV B.nat,.slice ap B.prims.length cp] 26:=h1;refine ga' τok (σ:=Unit) (fun _=>[(1,pt b1)]) (fun _ w'=>Kp [] w w' /\ Bk w'.heap b1 [iV B.vars,v1,.slice ae B.ents.length ce,iV B.nat,.slice ap B.prims.length cp] 26 /\ ox' B B.prims (fun _ _=>none) = RES) ?_ ?_
 ·refine lb h1 ?_
  refine ac' (fun g1=>?_) (fun g1=>?_)
  ·have g1:B.nat ≠ -1:=g1
   refine ldN [iV B.vars,v1,.slice ae B.ents.length ce,iV B.nat,.slice ap B.prims.length cp] rfl (bZ h1) ?_;refine lb h1 ?_;refine ab' (oz' (hS.tr hk1) hvb' B.nat) ?_;rintro e w2 ⟨rfl,hk2⟩;have k02:=hk1.tr hk2;cases hn:wo' B B.nat with
   | false =>
    rw [if_pos (.inl ⟨g1,hn⟩)] at hRES;exact no k02 hRES.symm
   | true =>
    rw [if_neg (by
     rintro (h | h)
     ·rw [hn] at h
      cases h.2
     ·exact g1 h.1)] at hRES
    have h1:=h1.kp hk2 (by simp);refine lb h1 ?_;refine bz' (p:=B.nat = -1) g1 ?_;exact ⟨(),rfl,⟨rfl,trivial⟩,k02,h1,hRES⟩
  ·have g1:¬ B.nat ≠ -1:=g1
   refine lb h1 ?_;refine au' (p:=B.nat = -1) (by omega) ?_;refine lb h1 ?_;refine ac' (fun g2=>?_) (fun g2=>?_)
   ·have g2:(0:Int) < (B.prims.length:Int):=g2
    rw [if_pos (.inr ⟨by omega,by omega⟩)] at hRES;exact no hk1 hRES.symm
   have g2:¬ (0:Int) < (B.prims.length:Int):=g2;rw [if_neg (by
    rintro (h | h)
    ·exact g1 h.1
    ·omega)] at hRES
   exact ⟨(),rfl,⟨rfl,trivial⟩,hk1,h1,hRES⟩
 ·rintro _ w2 ⟨k02,h1,hRES⟩
  have hb1l:=h1.lt;refine gq' τok ?_;refine uL' fun bm w3 hbm hG hs3 hk3=>?_;have k03:=k02.tr hk3;have h1:=h1.kp hk3 (by simp);have hbml:w.heap.size <= bm /\ b1 < bm:=by
   have q1:=k02.size;have q2:bm = (w2).heap.size:=hbm;have q3:=h1.lt;have q4:=hb1l;omega
  refine lb h1 ?_;refine lp τok (σ:=Nat × G) (fun q=>[(1,pt b1),(3,.map (some bm)),(31,.slice ap B.prims.length cp),(32,iV (B.prims.length:Int)),(33,iV (q.1:Int))])
   (fun q w'=>q.1 <= B.prims.length /\ Ones q.2 /\ GrP w'.heap bm q.2 /\ Bk w'.heap b1 [iV B.vars,v1,.slice ae B.ents.length ce,iV B.nat,.slice ap B.prims.length cp] 26 /\ Kp [] w w' /\ ox' B (B.prims.drop q.1) q.2 = RES) (fun q=>B.prims.length - q.1) (0,fun _ _=>none) rfl
   ⟨rfl,rfl,rfl,rfl,rfl,trivial⟩ ⟨KV _,(fun x y v h=>by cases h),hG,h1,k03,hRES⟩ ?_
  clear hRES hG h1 k03
  rintro ⟨i,gm⟩ w4 ⟨hi,hones,hG4,h14,k04,hres⟩;simp only at hi hones hG4 hres;refine ac' (fun g=>?_) (fun g=>?_)
  ·have g:(i:Int) < (B.prims.length:Int):=g
   obtain ⟨p,hp,hd⟩:=af' (l:=B.prims) (k:=i) (by omega);rw [hd] at hres;simp only [ox'] at hres;obtain ⟨bp,op,cp',pp,hpat⟩:=hP.at hp;obtain ⟨cs,⟨rfl,hi1,hi2⟩,hpc⟩:=hpat;injection pp with q1 q2 q3
   subst q1 q3;refine ix i rfl (by omega) ?_;refine ldN [iV p.1,iV p.2] rfl (fun j u hj=>hS.tr k04 _ _ _ (hpc j u hj)) ?_;refine new fun b5 wb hb5 h5 hs5 hk5=>?_;refine stN (vs:=[iV p.1,iV p.2]) h5 rfl (by simp [Value.oneCell']) fun w5 h5 hs6 hk6=>?_;have k45:=hk5.newSt hb5 hk6;have h5:Bk w5.heap b5 [iV p.1,iV p.2] 125:=h5;have hG5:=hG4.kp k45 (by simp);have h14:=h14.kp k45 (by simp);have k04:=k04.tr k45;have o1:∀ v ∈ [iV p.1,iV (-1)],v.oneCell' = true:=fun v hv=>by simp at hv; rcases hv with rfl | rfl <;> rfl
   have o2:∀ v ∈ [iV (-1),iV p.2],v.oneCell' = true:=fun v hv=>by simp at hv; rcases hv with rfl | rfl <;> rfl
   refine aw' τok (fun z=>Kp [] w5 z) ?_;refine rV τok (rg 0 6) 4 (mR 10 6) (kQd w5) ?_;refine lk h5 ?_;refine lk h5 ?_;refine gw' τok 6 7 3 (mR 10 7) (mB 10 [6,8,9]) rfl rfl rfl rfl rfl (by kernel_rfl) ?_ ?_
   ·refine new fun b6 wc hb6 h6 hs7 hk7=>?_
    have hk7:Kp [] w5 wc:=hk7.rd;have lb6:w5.heap.size <= b6:=by
     have:b6 = w5.heap.size:=hb6;omega
    refine ⟨.inl hk7,?_⟩;refine nV τok 7 2 (mR 10 8) ?_;refine new fun b7 wd hb7 h7 hs8 hk8=>?_;have k36:=hk7.tr hk8;have n67:b6 ≠ b7:=by have:=h6.lt; omega
    have lb7:w5.heap.size <= b7:=by have:=hk7.size; omega
    refine ⟨.inl k36,?_⟩;refine nV τok 8 1 (mR 10 9) ?_;refine stN (vs:=[iV p.1,iV (-1)]) (h6.kp hk8 (by simp)) rfl o1 fun we h6' hs9 hk9=>?_;have k37:Kp [] w5 we:=k36.trans hk9 fun y hy hl=>by simp at hy; omega
    refine ⟨.inl k37,?_⟩;refine nV τok 9 0 (mR 10 10) ?_;refine stN (vs:=[iV (-1),iV p.2]) (h7.kp hk9 (by simpa using Ne.symm n67)) rfl o2 fun w8 h7' hs10 hk10=>?_;refine ⟨.inr (by kernel_rfl),?_⟩;refine dV ?_;have k48:Kp [] w5 w8:=k37.trans hk10 fun y hy hl=>by simp at hy; omega
    have k08:=k04.tr k48;have h68:Bk w8.heap b6 [iV p.1,iV (-1)] 125:=(h6'.kp hk10 (by simpa using n67))
    have h78:Bk w8.heap b7 [iV (-1),iV p.2] 125:=h7';have h58:=h5.kp k48 (by simp);have h1w:=h14.kp k48 (by simp);have hG8:=hG5.kp k48 (by simp);have kd:Kp [] w8 (dr w8):=(Kp.refl [] w8).dr _;refine aw' τok (fun z=>Kp [] w8 z) ?_;refine rV τok [0,1,2,3,4,5,6,7,8,9,10,11,12,13,14,15,16,17,18,19,20,21,22,23,24,25,26,27,28,29,30,31,32,33,35,36] 5 (mB 41 [34,37,38,39,40]) kd ?_;refine lk h58 ?_;refine ac' (fun y1=>?_) (fun y1=>?_)
    ·have y1:p.1 < 0:=y1
     rw [if_pos (.inl y1)] at hres;refine gw' τok 34 37 4 (mR 41 37) (mB 41 [34,38,39,40]) rfl rfl rfl rfl rfl (by kernel_rfl) ?_ ?_
     ·refine ⟨.inl kd,?_⟩
      refine nV τok 37 3 (mR 41 38) ?_;refine ⟨.inl kd,?_⟩;refine rV τok [38,39,40] 0 (mR 41 41) kd ?_;refine dV ?_;exact no (k08.dr _) hres.symm
     ·refine ⟨.inl kd,?_⟩
      refine nV τok 34 3 (mR 41 38) ?_;refine ⟨.inl kd,?_⟩;refine rV τok [38,39,40] 0 (mR 41 41) kd ?_;refine dV ?_;exact no (k08.dr _) hres.symm
    have y1:¬ p.1 < 0:=y1;refine lk h58 ?_;refine lk h1w ?_;refine ac' (fun y2=>?_) (fun y2=>?_)
    ·have y2:(B.ents.length:Int) <= p.1:=y2
     rw [if_pos (.inr (.inl y2))] at hres;refine gw' τok 34 37 4 (mR 41 37) (mB 41 [34,38,39,40]) rfl rfl rfl rfl rfl (by kernel_rfl) ?_ ?_
     ·refine ⟨.inl kd,?_⟩
      refine nV τok 37 3 (mR 41 38) ?_;refine ⟨.inl kd,?_⟩;refine rV τok [38,39,40] 0 (mR 41 41) kd ?_;refine dV ?_;exact no (k08.dr _) hres.symm
     ·refine ⟨.inl kd,?_⟩
      refine nV τok 34 3 (mR 41 38) ?_;refine ⟨.inl kd,?_⟩;refine rV τok [38,39,40] 0 (mR 41 41) kd ?_;refine dV ?_;exact no (k08.dr _) hres.symm
    have y2:¬ (B.ents.length:Int) <= p.1:=y2;obtain ⟨n,hn⟩:∃ n:Nat,p.1 = (n:Int):=⟨p.1.toNat,by omega⟩
    obtain ⟨be,oe,ce',ae',cc',pe,hc1,hc2⟩:=lu' hS hE (a:=n) (by omega);injection pe with q1 q2 q3
    subst q1 q3;refine lk h1w ?_;refine lk h58 ?_;refine ix n hn (by omega) ?_;refine ldK (hS.tr k08 _ _ _ hc1) ?_;refine ac' (fun y3=>?_) (fun y3=>?_)
    ·have y3:(entD B (n:Int)).kind ≠ 2:=y3
     rw [if_pos (.inr (.inr (.inl (by rw [hn]; exact y3))))] at hres;refine gw' τok 34 37 4 (mR 41 37) (mB 41 [34,38,39,40]) rfl rfl rfl rfl rfl (by kernel_rfl) ?_ ?_
     ·refine ⟨.inl kd,?_⟩
      refine nV τok 37 3 (mR 41 38) ?_;refine ⟨.inl kd,?_⟩;refine rV τok [38,39,40] 0 (mR 41 41) kd ?_;refine dV ?_;exact no (k08.dr _) hres.symm
     ·refine ⟨.inl kd,?_⟩
      refine nV τok 34 3 (mR 41 38) ?_;refine ⟨.inl kd,?_⟩;refine rV τok [38,39,40] 0 (mR 41 41) kd ?_;refine dV ?_;exact no (k08.dr _) hres.symm
    have y3:¬ (entD B (n:Int)).kind ≠ 2:=y3;refine lk h58 ?_;refine ac' (fun y4=>?_) (fun y4=>?_)
    ·have y4:p.2 < 1:=y4
     rw [if_pos (.inr (.inr (.inr (.inl y4))))] at hres;refine gw' τok 34 37 4 (mR 41 37) (mB 41 [34,38,39,40]) rfl rfl rfl rfl rfl (by kernel_rfl) ?_ ?_
     ·refine ⟨.inl kd,?_⟩
      refine nV τok 37 3 (mR 41 38) ?_;refine ⟨.inl kd,?_⟩;refine rV τok [38,39,40] 0 (mR 41 41) kd ?_;refine dV ?_;exact no (k08.dr _) hres.symm
     ·refine ⟨.inl kd,?_⟩
      refine nV τok 34 3 (mR 41 38) ?_;refine ⟨.inl kd,?_⟩;refine rV τok [38,39,40] 0 (mR 41 41) kd ?_;refine dV ?_;exact no (k08.dr _) hres.symm
    have y4:¬ p.2 < 1:=y4;refine lk h58 ?_;refine ac' (fun y5=>?_) (fun y5=>?_)
    ·have y5:3 < p.2:=y5
     rw [if_pos (.inr (.inr (.inr (.inr (.inl y5)))))] at hres;refine gw' τok 34 37 4 (mR 41 37) (mB 41 [34,38,39,40]) rfl rfl rfl rfl rfl (by kernel_rfl) ?_ ?_
     ·refine ⟨.inl kd,?_⟩
      refine nV τok 37 3 (mR 41 38) ?_;refine ⟨.inl kd,?_⟩;refine rV τok [38,39,40] 0 (mR 41 41) kd ?_;refine dV ?_;exact no (k08.dr _) hres.symm
     ·refine ⟨.inl kd,?_⟩
      refine nV τok 34 3 (mR 41 38) ?_;refine ⟨.inl kd,?_⟩;refine rV τok [38,39,40] 0 (mR 41 41) kd ?_;refine dV ?_;exact no (k08.dr _) hres.symm
    have y5:¬ 3 < p.2:=y5;rw [<- hn] at y3;refine dG' [iV p.1,iV (-1)] rfl (bZ h68) ?_;refine dG' [iV (-1),iV p.2] rfl (bZ h78) ?_;have hG8d:GrP ((dr w8):World).heap bm gm:=hG8;have bd1:=hones.bd p.1 (-1);have bd2:=hones.bd (-1) p.2;refine gw' τok 34 37 4 (mR 41 37) (mB 41 [34,38,39,40]) rfl rfl rfl rfl rfl (by kernel_rfl) ?_ ?_
    ·refine run (dh' hG8d p.1 (-1) false) ?_
     refine ⟨.inl kd,?_⟩;refine nV τok 37 3 (mR 41 38) ?_;refine run (dh' hG8d (-1) p.2 false) ?_;refine ⟨.inl kd,?_⟩;refine rV τok [38,39,40] 0 (mR 41 41) kd ?_;refine i6 ?_;refine dV ?_;refine ac' (fun y6=>?_) (fun y6=>?_)
     ·have y6:(0:Int) < (gm p.1 (-1)).getD 0 + (gm (-1) p.2).getD 0:=y6
      rw [if_pos (.inr (.inr (.inr (.inr (.inr y6)))))] at hres;exact no (k08.dr _) hres.symm
     have y6:¬ (0:Int) < (gm p.1 (-1)).getD 0 + (gm (-1) p.2).getD 0:=y6;rw [if_neg (by omega)] at hres;have kd0:Kp [] w8 (dr w8):=(Kp.refl [] w8).dr _;have hbmlt:=hG5.lt;have n6:b6 ∉ [bm]:=by simp; omega
     have n7:b7 ∉ [bm]:=by simp; omega
     refine aw' τok (fun z=>Kp [bm] w8 z) ?_;refine rV τok (rg 0 4) 2 (mR 6 4) ((kd0.dr _).weak (by simp)) ?_;refine oI' [iV p.1,iV (-1)] rfl (fun z hz j u hj=>by rw [KW]; exact (h68.kp hz n6).cl hj) ?_;refine oI' [iV (-1),iV p.2] rfl (fun z hz j u hj=>by rw [KW]; exact (h78.kp hz n7).cl hj) ?_;refine nV τok 4 1 (mR 6 5) ?_;have hG8':GrP ({ w8 with drawn:=w8.drawn + 1 + 1 }:World).heap bm gm:=hG8;refine ee' hG8' p.1 (-1) 1 fun w9 hG9 hs9 hk9=>?_;refine ⟨.inl hk9.rd.rd,?_⟩;refine nV τok 5 0 (mR 6 6) ?_;refine ee' hG9 (-1) p.2 1 fun wa hGa hsa hka=>?_;refine ⟨.inr (by kernel_rfl),?_⟩;refine dV ?_;refine i6 ?_;have hk9:Kp [bm] w8 w9:=hk9.rd.rd;have k8a:Kp [bm] w8 wa:=hk9.tq hka;have k0a:Kp [] w wa:=k08.trans k8a fun y hy hl=>by
      obtain rfl:y = bm:=by simpa using hy
      omega
     exact ⟨(i + 1,putG (putG gm p.1 (-1) 1) (-1) p.2 1),by simp only; omega,rfl,⟨rfl,rfl,rfl,rfl,rfl,trivial⟩,by show i + 1 <= _; omega,(hones.put _ _).put _ _,hGa,h1w.kp k8a (by simp; omega),k0a,hres⟩
    ·refine run (dh' hG8d (-1) p.2 false) ?_
     refine ⟨.inl kd,?_⟩;refine nV τok 34 3 (mR 41 38) ?_;refine run (dh' hG8d p.1 (-1) false) ?_;refine ⟨.inl kd,?_⟩;refine rV τok [38,39,40] 0 (mR 41 41) kd ?_;refine i6 ?_;refine dV ?_;refine ac' (fun y6=>?_) (fun y6=>?_)
     ·have y6:(0:Int) < (gm p.1 (-1)).getD 0 + (gm (-1) p.2).getD 0:=y6
      rw [if_pos (.inr (.inr (.inr (.inr (.inr y6)))))] at hres;exact no (k08.dr _) hres.symm
     have y6:¬ (0:Int) < (gm p.1 (-1)).getD 0 + (gm (-1) p.2).getD 0:=y6;rw [if_neg (by omega)] at hres;have kd0:Kp [] w8 (dr w8):=(Kp.refl [] w8).dr _;have hbmlt:=hG5.lt;have n6:b6 ∉ [bm]:=by simp; omega
     have n7:b7 ∉ [bm]:=by simp; omega
     refine aw' τok (fun z=>Kp [bm] w8 z) ?_;refine rV τok (rg 0 4) 2 (mR 6 4) ((kd0.dr _).weak (by simp)) ?_;refine oI' [iV p.1,iV (-1)] rfl (fun z hz j u hj=>by rw [KW]; exact (h68.kp hz n6).cl hj) ?_;refine oI' [iV (-1),iV p.2] rfl (fun z hz j u hj=>by rw [KW]; exact (h78.kp hz n7).cl hj) ?_;refine nV τok 4 1 (mR 6 5) ?_;have hG8':GrP ({ w8 with drawn:=w8.drawn + 1 + 1 }:World).heap bm gm:=hG8;refine ee' hG8' p.1 (-1) 1 fun w9 hG9 hs9 hk9=>?_;refine ⟨.inl hk9.rd.rd,?_⟩;refine nV τok 5 0 (mR 6 6) ?_;refine ee' hG9 (-1) p.2 1 fun wa hGa hsa hka=>?_;refine ⟨.inr (by kernel_rfl),?_⟩;refine dV ?_;refine i6 ?_;have hk9:Kp [bm] w8 w9:=hk9.rd.rd;have k8a:Kp [bm] w8 wa:=hk9.tq hka;have k0a:Kp [] w wa:=k08.trans k8a fun y hy hl=>by
      obtain rfl:y = bm:=by simpa using hy
      omega
     exact ⟨(i + 1,putG (putG gm p.1 (-1) 1) (-1) p.2 1),by simp only; omega,rfl,⟨rfl,rfl,rfl,rfl,rfl,trivial⟩,by show i + 1 <= _; omega,(hones.put _ _).put _ _,hGa,h1w.kp k8a (by simp; omega),k0a,hres⟩
   ·refine new fun b7 wc hb7 h7 hs7 hk7=>?_
    have hk7:Kp [] w5 wc:=hk7.rd;have lb7:w5.heap.size <= b7:=by
     have:b7 = w5.heap.size:=hb7;omega
    refine ⟨.inl hk7,?_⟩;refine nV τok 6 2 (mR 10 8) ?_;refine new fun b6 wd hb6 h6 hs8 hk8=>?_;have k36:=hk7.tr hk8;have n67:b6 ≠ b7:=by have:=h7.lt; omega
    have lb6:w5.heap.size <= b6:=by have:=hk7.size; omega
    refine ⟨.inl k36,?_⟩;refine nV τok 8 1 (mR 10 9) ?_;refine stN (vs:=[iV p.1,iV (-1)]) h6 rfl o1 fun we h6' hs9 hk9=>?_;have k37:Kp [] w5 we:=k36.trans hk9 fun y hy hl=>by simp at hy; omega
    refine ⟨.inl k37,?_⟩;refine nV τok 9 0 (mR 10 10) ?_;refine stN (vs:=[iV (-1),iV p.2]) ((h7.kp hk8 (by simp)).kp hk9 (by simpa using Ne.symm n67)) rfl o2 fun w8 h7' hs10 hk10=>?_;refine ⟨.inr (by kernel_rfl),?_⟩;refine dV ?_;have k48:Kp [] w5 w8:=k37.trans hk10 fun y hy hl=>by simp at hy; omega
    have k08:=k04.tr k48;have h68:Bk w8.heap b6 [iV p.1,iV (-1)] 125:=(h6'.kp hk10 (by simpa using n67))
    have h78:Bk w8.heap b7 [iV (-1),iV p.2] 125:=h7';have h58:=h5.kp k48 (by simp);have h1w:=h14.kp k48 (by simp);have hG8:=hG5.kp k48 (by simp);have kd:Kp [] w8 (dr w8):=(Kp.refl [] w8).dr _;refine aw' τok (fun z=>Kp [] w8 z) ?_;refine rV τok [0,1,2,3,4,5,6,7,8,9,10,11,12,13,14,15,16,17,18,19,20,21,22,23,24,25,26,27,28,29,30,31,32,33,35,36] 5 (mB 41 [34,37,38,39,40]) kd ?_;refine lk h58 ?_;refine ac' (fun y1=>?_) (fun y1=>?_)
    ·have y1:p.1 < 0:=y1
     rw [if_pos (.inl y1)] at hres;refine gw' τok 34 37 4 (mR 41 37) (mB 41 [34,38,39,40]) rfl rfl rfl rfl rfl (by kernel_rfl) ?_ ?_
     ·refine ⟨.inl kd,?_⟩
      refine nV τok 37 3 (mR 41 38) ?_;refine ⟨.inl kd,?_⟩;refine rV τok [38,39,40] 0 (mR 41 41) kd ?_;refine dV ?_;exact no (k08.dr _) hres.symm
     ·refine ⟨.inl kd,?_⟩
      refine nV τok 34 3 (mR 41 38) ?_;refine ⟨.inl kd,?_⟩;refine rV τok [38,39,40] 0 (mR 41 41) kd ?_;refine dV ?_;exact no (k08.dr _) hres.symm
    have y1:¬ p.1 < 0:=y1;refine lk h58 ?_;refine lk h1w ?_;refine ac' (fun y2=>?_) (fun y2=>?_)
    ·have y2:(B.ents.length:Int) <= p.1:=y2
     rw [if_pos (.inr (.inl y2))] at hres;refine gw' τok 34 37 4 (mR 41 37) (mB 41 [34,38,39,40]) rfl rfl rfl rfl rfl (by kernel_rfl) ?_ ?_
     ·refine ⟨.inl kd,?_⟩
      refine nV τok 37 3 (mR 41 38) ?_;refine ⟨.inl kd,?_⟩;refine rV τok [38,39,40] 0 (mR 41 41) kd ?_;refine dV ?_;exact no (k08.dr _) hres.symm
     ·refine ⟨.inl kd,?_⟩
      refine nV τok 34 3 (mR 41 38) ?_;refine ⟨.inl kd,?_⟩;refine rV τok [38,39,40] 0 (mR 41 41) kd ?_;refine dV ?_;exact no (k08.dr _) hres.symm
    have y2:¬ (B.ents.length:Int) <= p.1:=y2;obtain ⟨n,hn⟩:∃ n:Nat,p.1 = (n:Int):=⟨p.1.toNat,by omega⟩
    obtain ⟨be,oe,ce',ae',cc',pe,hc1,hc2⟩:=lu' hS hE (a:=n) (by omega);injection pe with q1 q2 q3
    subst q1 q3;refine lk h1w ?_;refine lk h58 ?_;refine ix n hn (by omega) ?_;refine ldK (hS.tr k08 _ _ _ hc1) ?_;refine ac' (fun y3=>?_) (fun y3=>?_)
    ·have y3:(entD B (n:Int)).kind ≠ 2:=y3
     rw [if_pos (.inr (.inr (.inl (by rw [hn]; exact y3))))] at hres;refine gw' τok 34 37 4 (mR 41 37) (mB 41 [34,38,39,40]) rfl rfl rfl rfl rfl (by kernel_rfl) ?_ ?_
     ·refine ⟨.inl kd,?_⟩
      refine nV τok 37 3 (mR 41 38) ?_;refine ⟨.inl kd,?_⟩;refine rV τok [38,39,40] 0 (mR 41 41) kd ?_;refine dV ?_;exact no (k08.dr _) hres.symm
     ·refine ⟨.inl kd,?_⟩
      refine nV τok 34 3 (mR 41 38) ?_;refine ⟨.inl kd,?_⟩;refine rV τok [38,39,40] 0 (mR 41 41) kd ?_;refine dV ?_;exact no (k08.dr _) hres.symm
    have y3:¬ (entD B (n:Int)).kind ≠ 2:=y3;refine lk h58 ?_;refine ac' (fun y4=>?_) (fun y4=>?_)
    ·have y4:p.2 < 1:=y4
     rw [if_pos (.inr (.inr (.inr (.inl y4))))] at hres;refine gw' τok 34 37 4 (mR 41 37) (mB 41 [34,38,39,40]) rfl rfl rfl rfl rfl (by kernel_rfl) ?_ ?_
     ·refine ⟨.inl kd,?_⟩
      refine nV τok 37 3 (mR 41 38) ?_;refine ⟨.inl kd,?_⟩;refine rV τok [38,39,40] 0 (mR 41 41) kd ?_;refine dV ?_;exact no (k08.dr _) hres.symm
     ·refine ⟨.inl kd,?_⟩
      refine nV τok 34 3 (mR 41 38) ?_;refine ⟨.inl kd,?_⟩;refine rV τok [38,39,40] 0 (mR 41 41) kd ?_;refine dV ?_;exact no (k08.dr _) hres.symm
    have y4:¬ p.2 < 1:=y4;refine lk h58 ?_;refine ac' (fun y5=>?_) (fun y5=>?_)
    ·have y5:3 < p.2:=y5
     rw [if_pos (.inr (.inr (.inr (.inr (.inl y5)))))] at hres;refine gw' τok 34 37 4 (mR 41 37) (mB 41 [34,38,39,40]) rfl rfl rfl rfl rfl (by kernel_rfl) ?_ ?_
     ·refine ⟨.inl kd,?_⟩
      refine nV τok 37 3 (mR 41 38) ?_;refine ⟨.inl kd,?_⟩;refine rV τok [38,39,40] 0 (mR 41 41) kd ?_;refine dV ?_;exact no (k08.dr _) hres.symm
     ·refine ⟨.inl kd,?_⟩
      refine nV τok 34 3 (mR 41 38) ?_;refine ⟨.inl kd,?_⟩;refine rV τok [38,39,40] 0 (mR 41 41) kd ?_;refine dV ?_;exact no (k08.dr _) hres.symm
    have y5:¬ 3 < p.2:=y5;rw [<- hn] at y3;refine dG' [iV p.1,iV (-1)] rfl (bZ h68) ?_;refine dG' [iV (-1),iV p.2] rfl (bZ h78) ?_;have hG8d:GrP ((dr w8):World).heap bm gm:=hG8;have bd1:=hones.bd p.1 (-1);have bd2:=hones.bd (-1) p.2;refine gw' τok 34 37 4 (mR 41 37) (mB 41 [34,38,39,40]) rfl rfl rfl rfl rfl (by kernel_rfl) ?_ ?_
    ·refine run (dh' hG8d p.1 (-1) false) ?_
     refine ⟨.inl kd,?_⟩;refine nV τok 37 3 (mR 41 38) ?_;refine run (dh' hG8d (-1) p.2 false) ?_;refine ⟨.inl kd,?_⟩;refine rV τok [38,39,40] 0 (mR 41 41) kd ?_;refine i6 ?_;refine dV ?_;refine ac' (fun y6=>?_) (fun y6=>?_)
     ·have y6:(0:Int) < (gm p.1 (-1)).getD 0 + (gm (-1) p.2).getD 0:=y6
      rw [if_pos (.inr (.inr (.inr (.inr (.inr y6)))))] at hres;exact no (k08.dr _) hres.symm
     have y6:¬ (0:Int) < (gm p.1 (-1)).getD 0 + (gm (-1) p.2).getD 0:=y6;rw [if_neg (by omega)] at hres;have kd0:Kp [] w8 (dr w8):=(Kp.refl [] w8).dr _;have hbmlt:=hG5.lt;have n6:b6 ∉ [bm]:=by simp; omega
     have n7:b7 ∉ [bm]:=by simp; omega
     refine aw' τok (fun z=>Kp [bm] w8 z) ?_;refine rV τok (rg 0 4) 2 (mR 6 4) ((kd0.dr _).weak (by simp)) ?_;refine oI' [iV p.1,iV (-1)] rfl (fun z hz j u hj=>by rw [KW]; exact (h68.kp hz n6).cl hj) ?_;refine oI' [iV (-1),iV p.2] rfl (fun z hz j u hj=>by rw [KW]; exact (h78.kp hz n7).cl hj) ?_;refine nV τok 4 1 (mR 6 5) ?_;have hG8':GrP ({ w8 with drawn:=w8.drawn + 1 + 1 }:World).heap bm gm:=hG8;refine ee' hG8' p.1 (-1) 1 fun w9 hG9 hs9 hk9=>?_;refine ⟨.inl hk9.rd.rd,?_⟩;refine nV τok 5 0 (mR 6 6) ?_;refine ee' hG9 (-1) p.2 1 fun wa hGa hsa hka=>?_;refine ⟨.inr (by kernel_rfl),?_⟩;refine dV ?_;refine i6 ?_;have hk9:Kp [bm] w8 w9:=hk9.rd.rd;have k8a:Kp [bm] w8 wa:=hk9.tq hka;have k0a:Kp [] w wa:=k08.trans k8a fun y hy hl=>by
      obtain rfl:y = bm:=by simpa using hy
      omega
     exact ⟨(i + 1,putG (putG gm p.1 (-1) 1) (-1) p.2 1),by simp only; omega,rfl,⟨rfl,rfl,rfl,rfl,rfl,trivial⟩,by show i + 1 <= _; omega,(hones.put _ _).put _ _,hGa,h1w.kp k8a (by simp; omega),k0a,hres⟩
    ·refine run (dh' hG8d (-1) p.2 false) ?_
     refine ⟨.inl kd,?_⟩;refine nV τok 34 3 (mR 41 38) ?_;refine run (dh' hG8d p.1 (-1) false) ?_;refine ⟨.inl kd,?_⟩;refine rV τok [38,39,40] 0 (mR 41 41) kd ?_;refine i6 ?_;refine dV ?_;refine ac' (fun y6=>?_) (fun y6=>?_)
     ·have y6:(0:Int) < (gm p.1 (-1)).getD 0 + (gm (-1) p.2).getD 0:=y6
      rw [if_pos (.inr (.inr (.inr (.inr (.inr y6)))))] at hres;exact no (k08.dr _) hres.symm
     have y6:¬ (0:Int) < (gm p.1 (-1)).getD 0 + (gm (-1) p.2).getD 0:=y6;rw [if_neg (by omega)] at hres;have kd0:Kp [] w8 (dr w8):=(Kp.refl [] w8).dr _;have hbmlt:=hG5.lt;have n6:b6 ∉ [bm]:=by simp; omega
     have n7:b7 ∉ [bm]:=by simp; omega
     refine aw' τok (fun z=>Kp [bm] w8 z) ?_;refine rV τok (rg 0 4) 2 (mR 6 4) ((kd0.dr _).weak (by simp)) ?_;refine oI' [iV p.1,iV (-1)] rfl (fun z hz j u hj=>by rw [KW]; exact (h68.kp hz n6).cl hj) ?_;refine oI' [iV (-1),iV p.2] rfl (fun z hz j u hj=>by rw [KW]; exact (h78.kp hz n7).cl hj) ?_;refine nV τok 4 1 (mR 6 5) ?_;have hG8':GrP ({ w8 with drawn:=w8.drawn + 1 + 1 }:World).heap bm gm:=hG8;refine ee' hG8' p.1 (-1) 1 fun w9 hG9 hs9 hk9=>?_;refine ⟨.inl hk9.rd.rd,?_⟩;refine nV τok 5 0 (mR 6 6) ?_;refine ee' hG9 (-1) p.2 1 fun wa hGa hsa hka=>?_;refine ⟨.inr (by kernel_rfl),?_⟩;refine dV ?_;refine i6 ?_;have hk9:Kp [bm] w8 w9:=hk9.rd.rd;have k8a:Kp [bm] w8 wa:=hk9.tq hka;have k0a:Kp [] w wa:=k08.trans k8a fun y hy hl=>by
      obtain rfl:y = bm:=by simpa using hy
      omega
     exact ⟨(i + 1,putG (putG gm p.1 (-1) 1) (-1) p.2 1),by simp only; omega,rfl,⟨rfl,rfl,rfl,rfl,rfl,trivial⟩,by show i + 1 <= _; omega,(hones.put _ _).put _ _,hGa,h1w.kp k8a (by simp; omega),k0a,hres⟩
  ·have g:¬ (i:Int) < (B.prims.length:Int):=g
   rw [JY (by omega)] at hres;simp only [ox'] at hres;subst hres;exact ⟨rfl,k04⟩
end
theorem lv' {a b:Int} (h:a ≠ 0):bg' a b = a:=by unfold bg'; rw [if_pos h]
section
variable {C:Mem} {w:World} {B:BoT}
theorem fv' (hS:Sub C w) (hold:∀ b o v,C b o v -> b < w.heap.size) {vb:Value} (hvb:BoV C B vb) :
  CC 23 #[vb] w (fun e w'=>e = .returned (iV (aM' B)) /\ Kp [] w w'):=by
 refine oF Tryz.func23 ?_;obtain ⟨RES,hRES⟩:∃ r,aM' B = r:=⟨_,rfl⟩
 rw [hRES];unfold aM' at hRES;have hvb':=hvb;obtain ⟨v1,v2,v3,rfl,hO,hE,hP⟩:=hvb;obtain ⟨ao,co,rfl,hO1,_⟩:=id hO;obtain ⟨ae,ce,rfl,hE1,_⟩:=id hE;obtain ⟨ap,cp,rfl,hP1,_⟩:=id hP;have lE:=hE1.1;refine cO (args:=[_]) 39 [.tmp 2] τok Tryz.func23 ?_;refine new fun b1 w1 hb1 h1 hs1 hk1=>?_;have h1:Bk w1.heap b1 [iV B.vars,.slice ao B.orders.length co,.slice ae B.ents.length ce,iV B.nat,.slice ap B.prims.length cp] 26:=h1;refine lb h1 ?_;refine lb h1 ?_;refine ab' (sb' B.vars B.orders ao co w1 (Sl.ordV hO1 (hS.tr hk1))) ?_;rintro e w2 ⟨rfl,hk2⟩;have k02:=hk1.tr hk2;have h1:=h1.kp hk2 (by simp);refine ac' (fun g1=>?_) (fun g1=>?_)
 ·have g1:hG' B.vars B.orders ≠ 0:=g1
  rw [if_pos g1] at hRES;subst hRES;exact ⟨rfl,k02⟩
 have g1:¬ hG' B.vars B.orders ≠ 0:=g1;rw [if_neg g1] at hRES;refine lb h1 ?_;refine ac' (fun g2=>?_) (fun g2=>?_)
 ·have g2:(64:Int) < (B.ents.length:Int):=g2
  rw [if_pos (by omega)] at hRES;subst hRES;exact ⟨rfl,k02⟩
 have g2:¬ (64:Int) < (B.ents.length:Int):=g2;rw [if_neg (by omega)] at hRES;refine lb h1 ?_;refine lp τok (σ:=Nat) (fun i=>[(1,pt b1),(20,.slice ae B.ents.length ce),(21,iV (B.ents.length:Int)),(22,iV (i:Int))])
  (fun i w'=>i <= B.ents.length /\ Bk w'.heap b1 [iV B.vars,.slice ao B.orders.length co,.slice ae B.ents.length ce,iV B.nat,.slice ap B.prims.length cp] 26 /\ Kp [] w w' /\ bg' (cg' B (B.ents.drop i) i) (if sG' B = true then 0 else 22) = RES) (fun i=>B.ents.length - i) 0 rfl
  ⟨rfl,rfl,rfl,rfl,trivial⟩ ⟨KV _,h1,k02,hRES⟩ ?_
 clear hRES h1 k02
 rintro i w3 ⟨hi,h1,k03,hres⟩;refine ac' (fun g=>?_) (fun g=>?_)
 ·have g:(i:Int) < (B.ents.length:Int):=g
  obtain ⟨x,hx,hd⟩:=af' (l:=B.ents) (k:=i) (by omega);rw [hd] at hres;simp only [cg'] at hres;obtain ⟨be,oe,ce',pe,hat⟩:=hE.at hx;obtain ⟨w1e,w2e,w3e,w4e,w5e,w6e,hcs,hki,hso,hpa,hin,hct,hty,hbo⟩:=eB' hat;injection pe with q1 q2 q3
  subst q1 q3;have hone:∀ v ∈ [iV x.kind,w1e,w2e,w3e,w4e,w5e,w6e],v.oneCell' = true:=fun v hv=>by
   simp at hv;rcases hv with rfl | rfl | rfl | rfl | rfl | rfl | rfl
   ·rfl
   ·exact hso.one
   ·exact hpa.one
   ·exact hin.one
   ·exact hct.one
   ·exact hty.one
   ·exact hbo.one
  refine ix i rfl (by omega) ?_;refine ldN _ rfl (fun j u hj=>(hS.tr k03) _ _ _ (hcs j u hj)) ?_;refine new fun b5 w4 hb5 h5 hs4 hk4=>?_;refine stN (vs:=[iV x.kind,w1e,w2e,w3e,w4e,w5e,w6e]) h5 rfl hone fun w5 h5 hs5 hk5=>?_;have k35:=hk4.newSt hb5 hk5;have k05:=k03.tr k35;have h1:=h1.kp k35 (by simp);have h5:Bk w5.heap b5 [iV x.kind,w1e,w2e,w3e,w4e,w5e,w6e] 40:=h5;refine ldN [iV B.vars,.slice ao B.orders.length co,.slice _ B.ents.length _,iV B.nat,.slice ap B.prims.length cp] rfl (bZ h1) ?_;refine ldN [iV x.kind,w1e,w2e,w3e,w4e,w5e,w6e] rfl (bZ h5) ?_;refine ab' (oy' (known:=i) (hS.tr k05) (fun b o v h=>KZ (hold b o v h) k05.size) ⟨_,_,_,rfl,hO,hE,hP,by omega⟩ ⟨w1e,w2e,w3e,w4e,w5e,w6e,rfl,hso,hpa,hin,hct,hty,hbo⟩) ?_;rintro e w6 ⟨rfl,hk6⟩;refine ac' (fun g3=>?_) (fun g3=>?_)
  ·have g3:dg' B i x ≠ 0:=g3
   have e:bg' (dg' B i x) (cg' B (B.ents.drop (i + 1)) (i + 1)) = dg' B i x:=by unfold bg'; rw [if_pos g3]
   rw [e] at hres;have e:bg' (dg' B i x) (if sG' B = true then 0 else 22) = dg' B i x:=by unfold bg'; rw [if_pos g3]
   rw [e] at hres;subst hres;exact ⟨rfl,k05.tr hk6⟩
  ·have g3:¬ dg' B i x ≠ 0:=g3
   have e:bg' (dg' B i x) (cg' B (B.ents.drop (i + 1)) (i + 1)) = cg' B (B.ents.drop (i + 1)) (i + 1):=by unfold bg'; rw [if_neg g3]
   rw [e] at hres;refine i6 ?_;exact ⟨i + 1,by omega,rfl,⟨rfl,rfl,rfl,rfl,trivial⟩,by omega,h1.kp hk6 (by simp),k05.tr hk6,hres⟩
 ·have g:¬ (i:Int) < (B.ents.length:Int):=g
  rw [JY (by omega)] at hres;have e:bg' (cg' B [] i) (if sG' B = true then 0 else 22) = if sG' B = true then 0 else 22:=by unfold bg' cg'; rw [if_neg (by simp)]
  rw [e] at hres;refine ldN [iV B.vars,.slice ao B.orders.length co,.slice ae B.ents.length ce,iV B.nat,.slice ap B.prims.length cp] rfl (bZ h1) ?_;refine ab' (kh' (hS.tr k03) hvb') ?_;rintro e w4 ⟨rfl,hk4⟩;cases hg:sG' B with
  | true =>
   rw [hg] at hres;simp only [if_true] at hres;subst hres;exact ⟨rfl,k03.tr hk4⟩
  | false =>
   rw [hg] at hres;simp only [Bool.false_eq_true,if_false] at hres;subst hres;exact ⟨rfl,k03.tr hk4⟩
theorem ki' (hS:Sub C w) (hold:∀ b o v,C b o v -> b < w.heap.size) {vb vt:Value} (hvb:BoV C B vb) {t:List Nd} (hvt:SV rNd C t vt) {below:Int} (hb:I64 below) :
  CC 55 #[vb,iV below,vt] w (fun e w'=>e = .returned (iV (bK' B below t)) /\ Kp [] w w'):=by
 refine oF Tryz.func55 ?_;obtain ⟨RES,hRES⟩:∃ r,bK' B below t = r:=⟨_,rfl⟩
 rw [hRES];unfold bK' at hRES;have hvb':=hvb;obtain ⟨v1,v2,v3,rfl,hO,hE,hP⟩:=hvb;obtain ⟨ae,ce,rfl,hE1,_⟩:=id hE;obtain ⟨at_,ct_,rfl,_,_⟩:=id hvt;refine cO (args:=[_,_,_]) 23 [.tmp 6] τok Tryz.func55 ?_;refine new fun b3 w1 hb1 h3 hs1 hk1=>?_;have h3:Bk w1.heap b3 [iV B.vars,v1,.slice ae B.ents.length ce,iV B.nat,v3] 26:=h3;refine ldN [iV B.vars,v1,.slice ae B.ents.length ce,iV B.nat,v3] rfl (bZ h3) ?_;refine ab' (fv' (hS.tr hk1) (fun b o v h=>KZ (hold b o v h) hk1.size) hvb') ?_;rintro e w2 ⟨rfl,hk2⟩;have k02:=hk1.tr hk2;have h3:=h3.kp hk2 (by simp);refine ac' (fun g1=>?_) (fun g1=>?_)
 ·have g1:aM' B ≠ 0:=g1
  rw [if_pos g1] at hRES;subst hRES;exact ⟨rfl,k02⟩
 have g1:¬ aM' B ≠ 0:=g1;rw [if_neg g1] at hRES;refine ac' (fun g2=>?_) (fun g2=>?_)
 ·have g2:below < 0:=g2
  rw [if_pos g2] at hRES;subst hRES;exact ⟨rfl,k02⟩
 have g2:¬ below < 0:=g2;rw [if_neg g2] at hRES;refine ldN [iV B.vars,v1,.slice ae B.ents.length ce,iV B.nat,v3] rfl (bZ h3) ?_;refine lb h3 ?_;refine ab' (kg' (known:=B.ents.length) (self:=-1) (hS.tr k02) (fun b o v h=>KZ (hold b o v h) k02.size) ⟨_,_,_,rfl,hO,hE,hP,KJ _⟩ hvt hb) ?_;rintro e w3 ⟨rfl,hk3⟩;subst hRES;exact ⟨rfl,k02.tr hk3⟩
theorem sM' (hS:Sub C w) (hold:∀ b o v,C b o v -> b < w.heap.size) {vb vc vt:Value} (hvb:BoV C B vb) {c:List (List Nd × List Nd)} (hvc:SV rBd C c vc) {t:List Nd} (hvt:SV rNd C t vt) :
  CC 30 #[vb,vc,vt] w (fun e w'=>e = .returned (iV (dr' B c t)) /\ Kp [] w w'):=by
 refine oF Tryz.func30 ?_;obtain ⟨RES,hRES⟩:∃ r,dr' B c t = r:=⟨_,rfl⟩
 rw [hRES];unfold dr' at hRES;have hvb':=hvb;obtain ⟨v1,v2,v3,rfl,hO,hE,hP⟩:=hvb;obtain ⟨at_,ct_,rfl,_,_⟩:=id hvt;obtain ⟨ac,cc,rfl,hc1,_⟩:=id hvc;have lC:=hc1.1;refine cO (args:=[_,_,_]) 53 [.tmp 6] τok Tryz.func30 ?_;refine new fun b3 w1 hb1 h3 hs1 hk1=>?_;have h3:Bk w1.heap b3 [iV B.vars,v1,v2,iV B.nat,v3] 26:=h3;refine ldN [iV B.vars,v1,v2,iV B.nat,v3] rfl (bZ h3) ?_;refine ab' (fv' (hS.tr hk1) (fun b o v h=>KZ (hold b o v h) hk1.size) hvb') ?_;rintro e w2 ⟨rfl,hk2⟩;have k02:=hk1.tr hk2;have h3:=h3.kp hk2 (by simp);refine ac' (fun g1=>?_) (fun g1=>?_)
 ·have g1:aM' B ≠ 0:=g1
  rw [if_pos g1] at hRES;subst hRES;exact ⟨rfl,k02⟩
 have g1:¬ aM' B ≠ 0:=g1;rw [if_neg g1] at hRES;refine ac' (fun g2=>?_) (fun g2=>?_)
 ·have g2:(256:Int) < (c.length:Int):=g2
  rw [if_pos (by omega)] at hRES;subst hRES;exact ⟨rfl,k02⟩
 have g2:¬ (256:Int) < (c.length:Int):=g2;rw [if_neg (by omega)] at hRES;refine lp τok (σ:=Nat) (fun i=>[(1,.slice ac c.length cc),(2,.slice at_ t.length ct_),(3,pt b3),(20,.slice ac c.length cc),(21,iV (c.length:Int)),(22,iV (i:Int))])
  (fun i w'=>i <= c.length /\ Bk w'.heap b3 [iV B.vars,v1,v2,iV B.nat,v3] 26 /\ Kp [] w w' /\ bg' (dL' B (c.drop i) i) (bK' B c.length t) = RES) (fun i=>c.length - i) 0 rfl
  ⟨rfl,rfl,rfl,rfl,rfl,rfl,trivial⟩ ⟨KV _,h3,k02,hRES⟩ ?_
 clear hRES h3 k02
 rintro i w3 ⟨hi,h3,k03,hres⟩;refine ac' (fun g=>?_) (fun g=>?_)
 ·have g:(i:Int) < (c.length:Int):=g
  obtain ⟨x,hx,hd⟩:=af' (l:=c) (k:=i) (by omega);rw [hd] at hres;simp only [dL'] at hres;obtain ⟨bc,oc,cc',pc,hat⟩:=hvc.at hx;obtain ⟨vty,vva,hbc,hbt,hbv⟩:=sc' hat;injection pc with q1 q2 q3
  subst q1 q3;obtain ⟨aty,cty,rfl,_,_⟩:=id hbt;obtain ⟨ava,cva,rfl,_,_⟩:=id hbv;refine ix i rfl (by omega) ?_;refine ldN [.slice aty x.1.length cty,.slice ava x.2.length cva] rfl (fun j u hj=>(hS.tr k03) _ _ _ (hbc j u hj)) ?_;refine new fun b9 w4 hb9 h9 hs4 hk4=>?_;refine stN (vs:=[.slice aty x.1.length cty,.slice ava x.2.length cva]) h9 rfl (by simp [Value.oneCell']) fun w5 h9 hs5 hk5=>?_;have k35:=hk4.newSt hb9 hk5;have k05:=k03.tr k35;have h3:=h3.kp k35 (by simp);have h9:Bk w5.heap b9 [.slice aty x.1.length cty,.slice ava x.2.length cva] 100:=h9;refine ldN [iV B.vars,v1,v2,iV B.nat,v3] rfl (bZ h3) ?_;refine lb h9 ?_;refine ab' (ki' (hS.tr k05) (fun b o v h=>KZ (hold b o v h) k05.size) hvb' hbt (by constructor <;> omega)) ?_;rintro e w6 ⟨rfl,hk6⟩;have k06:=k05.tr hk6;have h3:=h3.kp hk6 (by simp);have h9:=h9.kp hk6 (by simp);refine ac' (fun y1=>?_) (fun y1=>?_)
  ·have y1:bK' B (i:Int) x.1 ≠ 0:=y1
   rw [if_pos y1,lv' y1] at hres;subst hres;exact ⟨rfl,k06⟩
  have y1:¬ bK' B (i:Int) x.1 ≠ 0:=y1;rw [if_neg y1] at hres;refine lb h9 ?_;refine ac' (fun y2=>?_) (fun y2=>?_)
  ·have y2:(x.2.length:Int) = 0:=y2
   rw [if_pos (by omega)] at hres;refine i6 ?_;exact ⟨i + 1,by omega,rfl,⟨rfl,rfl,rfl,rfl,rfl,rfl,trivial⟩,by omega,h3,k06,hres⟩
  have y2:¬ (x.2.length:Int) = 0:=y2;rw [if_neg (by omega)] at hres;refine ldN [iV B.vars,v1,v2,iV B.nat,v3] rfl (bZ h3) ?_;refine lb h9 ?_;refine ab' (ki' (hS.tr k06) (fun b o v h=>KZ (hold b o v h) k06.size) hvb' hbv (by constructor <;> omega)) ?_;rintro e w7 ⟨rfl,hk7⟩;refine ac' (fun y3=>?_) (fun y3=>?_)
  ·have y3:bK' B (i:Int) x.2 ≠ 0:=y3
   rw [if_pos y3,lv' y3] at hres;subst hres;exact ⟨rfl,k06.tr hk7⟩
  have y3:¬ bK' B (i:Int) x.2 ≠ 0:=y3;rw [if_neg y3] at hres;refine i6 ?_;exact ⟨i + 1,by omega,rfl,⟨rfl,rfl,rfl,rfl,rfl,rfl,trivial⟩,by omega,h3.kp hk7 (by simp),k06.tr hk7,hres⟩
 ·have g:¬ (i:Int) < (c.length:Int):=g
  rw [JY (by omega)] at hres;simp only [dL'] at hres;have hres:bK' B c.length t = RES:=hres;refine ldN [iV B.vars,v1,v2,iV B.nat,v3] rfl (bZ h3) ?_;refine ab' (ki' (hS.tr k03) (fun b o v h=>KZ (hold b o v h) k03.size) hvb' hvt (by constructor <;> omega)) ?_;rintro e w4 ⟨rfl,hk4⟩;subst hres;exact ⟨rfl,k03.tr hk4⟩
end
def Fue {α:Type} (F:Nat -> Except Int (α × Nat)):Prop:=∀ n a n',n <= 100000 -> F n = .ok (a,n') -> n' <= n /\ ∀ m,m <= 100000 -> (n - n' <= m -> F m = .ok (a,m - (n - n'))) /\ (m < n - n' -> F m = .error 10)
theorem bC' {α:Type} {e:Int}:Fue (α:=α) fun _=>.error e:=fun n a n' hn h=>by cases h
theorem aL' {α:Type} {a:α}:Fue fun n=>.ok (a,n):=fun n b n' hn h=>by
 injection h with h
 injection h with h1 h2
 subst h1 h2;exact ⟨KJ _,fun m hm=>⟨fun _=>by simp,fun h=>by omega⟩⟩
theorem gl' {α:Type} {r:Except Int α}:Fue fun n=>puJ r n:=by
 cases r with
 | error e=>exact bC'
 | ok a=>exact aL'
theorem aE' {α β:Type} {F:Nat -> Except Int (α × Nat)} {K:α -> Nat -> Except Int (β × Nat)} (hF:Fue F) (hK:∀ a,Fue (K a)):Fue fun n=>bdJ (F n) K:=fun n b n' hn h=>by
 obtain ⟨⟨a,n1⟩,h1,h2⟩:=an' h;obtain ⟨l1,f1⟩:=hF n a n1 hn h1;obtain ⟨l2,f2⟩:=hK a n1 b n' (by omega) h2;refine ⟨by omega,fun m hm=>?_⟩;obtain ⟨p1,p2⟩:=f1 m hm;constructor
 ·intro hu
  simp only;rw [p1 (by omega),bT'];have:=(f2 (m - (n - n1)) (by omega)).1 (by omega);simp only;rw [this]
  congr 2
  omega
 ·intro hu
  simp only
  by_cases hq:m < n - n1
  ·rw [p2 hq]
   rfl
  ·rw [p1 (by omega),bT']
   exact (f2 (m - (n - n1)) (by omega)).2 (by omega)
theorem nO' {α:Type} {F:Nat -> Except Int (α × Nat)} (hF:Fue F):Fue fun n=>if n = 0 then .error 10 else F (n - 1):=fun n a n' hn h=>by
 simp only at h;split at h
 ·cases h
 rename_i g;obtain ⟨l1,f1⟩:=hF (n - 1) a n' (by omega) h;refine ⟨by omega,fun m hm=>⟨fun hu=>?_,fun hu=>?_⟩⟩
 ·simp only
  rw [if_neg (by omega),(f1 (m - 1) (by omega)).1 (by omega)]
  congr 2
  omega
 ·simp only
  split
  ·rfl
  ·exact (f1 (m - 1) (by omega)).2 (by omega)
theorem ar' {α:Type} {c:Prop} [Decidable c] {F G:Nat -> Except Int (α × Nat)} (hF:Fue F) (hG:Fue G):Fue fun n=>if c then F n else G n:=by
 by_cases h:c
 ·simpa [h] using hF
 ·simpa [h] using hG
theorem aW' {α:Type} {F G:Nat -> Except Int (α × Nat)} (h:∀ n,F n = G n) (hG:Fue G):Fue F:=by
 have:F = G:=funext h;rw [this];exact hG
theorem lw' {α:Type} {F:Nat -> Except Int (α × Nat)} (hF:Fue F):Fue fun n=>F (aS' (n:Int)):=fun n a n' hn h=>by
 have e:∀ m:Nat,m <= 100000 -> aS' (m:Int) = m:=fun m hm=>by unfold aS'; omega
 simp only at h;rw [e n hn] at h;obtain ⟨l1,f1⟩:=hF n a n' hn h;exact ⟨l1,fun m hm=>by simp only; rw [e m hm]; exact f1 m hm⟩
theorem uM' (m:Except Int (Bool × Nat)) (k:Nat -> Except Int (Bool × Nat)):fO' m k = bdJ m fun b n=>if b = true then k n else .ok (false,n):=by
 cases m with
 | error e=>rfl
 | ok q=>rfl
theorem fT' {F:Nat -> Except Int (Bool × Nat)} {K:Nat -> Except Int (Bool × Nat)} (hF:Fue F) (hK:Fue K):Fue fun n=>fO' (F n) K :=
 aW' (fun n=>uM' _ _) (aE' hF fun b=>ar' hK aL')
section
variable {B:BoT}
theorem lx' (cx:Ctx):∀ (g:Nat) (x:Tr) (room:Int),Fue (whnfG B cx g x room)
 | 0,x,room=>bC'
 | g + 1,x,room=>by
  have ih:=lx' cx g;have hpre:Fue (preW (whnfG B cx g) x room):=by
   unfold preW;cases hp:dX' x with
   | none=>exact aL'
   | some p =>
    exact aW' (G:=fun n=>bdJ (whnfG B cx g p (room - len x + len p) n) fun z n=>.ok (dY' x z,n)) (fun n=>by
     simp only;cases whnfG B cx g p (room - len x + len p) n <;> rfl) (aE' (ih _ _) fun a=>aL')
  have hpost:∀ z,Fue fun n=>fp' B cx (whnfG B cx g) room (z,n):=fun z=>by
   unfold fp';simp only;refine ar' ?_ aL';refine aW' (G:=fun n=>if n = 0 then .error 10 else (fun n=>match ownM B cx z with
    | .error e=>.error e
    | .ok y=>if room < len y then .error 9 else whnfG B cx g y room n) (n - 1)) (fun n=>rfl) (nO' (F:=fun n=>match ownM B cx z with
    | .error e=>.error e
    | .ok y=>if room < len y then .error 9 else whnfG B cx g y room n) ?_)
   cases ownM B cx z with
   | error e=>exact bC'
   | ok y=>exact ar' bC' (ih _ _)
  refine aW' (G:=fun n=>bdJ (preW (whnfG B cx g) x room n) fun z n=>fp' B cx (whnfG B cx g) room (z,n)) (fun n=>?_) (aE' hpre hpost);simp only [whnfG];cases preW (whnfG B cx g) x room n <;> rfl
theorem eN' (cx:Ctx) (x:Tr):Fue fun n=>whnfTop B cx x (n:Int):=lw' (lx' cx GW x 4096)
abbrev wp' (rc:RcC):Prop:=∀ cx x y u,Fue (rc cx x y u)
theorem kj' {rc:RcC} (hr:wp' rc) (cx:Ctx):∀ (xs ys:List Tr),Fue (lc' rc cx xs ys)
 | x :: r,y :: s=>aW' (fun n=>rfl) (fT' (hr cx x y false) (kj' hr cx r s))
 | [],ys=>aW' (G:=fun n=>.ok (true,n)) (fun n=>by simp [lc']) aL'
 | x :: r,[]=>aW' (G:=fun n=>.ok (true,n)) (fun n=>by simp [lc']) aL'
theorem nP' {rc:RcC} (hr:wp' rc) (cx cx':Ctx):∀ (xs ys:List Tr),Fue (iV' rc cx cx' xs ys)
 | x :: a :: r,y :: b :: s=>aW' (fun n=>rfl) (fT' (hr cx x y false) (fT' (hr cx' a b false) (nP' hr cx cx' r s)))
 | [],ys=>aW' (G:=fun n=>.ok (true,n)) (fun n=>by simp [iV']) aL'
 | [x],ys=>aW' (G:=fun n=>.ok (true,n)) (fun n=>by simp [iV']) aL'
 | x :: a :: r,[]=>aW' (G:=fun n=>.ok (true,n)) (fun n=>by simp [iV']) aL'
 | x :: a :: r,[y]=>aW' (G:=fun n=>.ok (true,n)) (fun n=>by simp [iV']) aL'
theorem oA' {rc:RcC} (hr:wp' rc) (cx:Ctx) (f h:Tr) (u:Bool):Fue (dZ' B rc cx f h u):=by
 unfold dZ';refine ar' aL' (ar' (fT' (hr _ _ _ _) (hr _ _ _ _)) (ar' (fT' (hr _ _ _ _) (hr _ _ _ _)) (ar' (ar' ?_ aL') (ar' (kj' hr _ _ _) aL'))));unfold hT';exact ar' (nP' hr _ _ _ _) aL'
theorem qJ' {rc:RcC} (hr:wp' rc) (cx:Ctx) (x y:Tr) (u:Bool):Fue (ld' B rc cx x y u):=by
 unfold ld';exact ar' aL' (fT' (oA' hr _ _ _ _) (kj' hr _ _ _))
theorem nQ':∀ (g:Nat),wp' (mn' B g)
 | 0=>fun cx x y u=>bC'
 | g + 1=>fun cx x y u=>by
  have ih:=nQ' g;obtain ⟨H,hH⟩:∃ H:Nat -> Except Int (Bool × Nat),H = fun (n:Nat)=>if row x = row y then .ok (true,n) else if 256 < cx.length then .error 5 else bdJ (whnfTop B cx x (n:Int)) fun p n=>bdJ (whnfTop B cx y (n:Int)) fun q n=>ld' B (mn' B g) cx p q u n:=⟨_,rfl⟩
  have hf:Fue H:=by
   rw [hH];exact ar' aL' (ar' bC' (aE' (eN' cx x) fun p=>aE' (eN' cx y) fun q=>qJ' ih cx p q u))
  refine aW' (G:=fun n=>if n = 0 then .error 10 else H (n - 1)) (fun n=>?_) (nO' hf);simp only [mn',hH]
  congr 1
  congr 1
  congr 1
  cases whnfTop B cx x ((n - 1:Nat):Int) with
  | error e=>rfl
  | ok p =>
   simp only [bT'];cases whnfTop B cx y (p.2:Int) <;> rfl
theorem ef' (cx:Ctx) (t:Tr):Fue (ea' B cx t):=ar' bC' (eN' cx t)
theorem ly' (cx:Ctx) (x y:Tr) (u:Bool):Fue (eb' B cx x y u):=ar' bC' (lw' (nQ' GC cx x y u))
abbrev RjFu (rc:RcJ):Prop:=∀ cx t,Fue (rc cx t)
variable {rc:RcJ} (hr:RjFu rc)
include hr
theorem cQ' (cx:Ctx) (t:Tr):Fue (bt' B rc cx t):=aE' (hr cx t) fun ty=>aE' (ef' cx ty) fun z=>ar' bC' aL'
theorem dt' (cx:Ctx) (t ty:Tr):Fue (bq' B rc cx t ty):=aE' (hr cx t) fun z=>aE' (ly' cx z ty true) fun b=>ar' aL' bC'
omit hr in
theorem lz' (a:Int) (ps:List Tr) (ni:Nat):∀ (k i:Nat) (cx:Ctx) (m:Tr),Fue (lj' B a ps ni k i cx m)
 | 0,i,cx,m=>aE' (ef' cx m) fun f=>ar' bC' aL'
 | k + 1,i,cx,m=>aE' (ef' cx m) fun f=>ar' bC' (aE' gl' fun w=>aE' (ly' cx _ w false) fun b=>ar' (lz' a ps ni k (i + 1) _ _) bC')
theorem lA':∀ (l:List Tr) (cx:Ctx),Fue (iz' B rc cx l)
 | [],cx=>aL'
 | a :: r,cx=>aE' (cQ' hr cx a) fun q=>ar' aL' (lA' r _)
theorem mB' (a:Int):Fue (cL' B rc a):=ar' aL' (ar' aL' (lA' hr _ _))
theorem fw' (cx:Ctx) (a:Int) (ps:List Tr) (mo:Tr):∀ (l:List Tr) (k:Nat),Fue (aK' B rc cx a ps mo k l)
 | [],k=>aL'
 | b :: r,k=>aE' gl' fun ty=>aE' (dt' hr cx b ty) fun _=>fw' cx a ps mo r (k + 1)
theorem oB' (cx:Ctx) (nd:Nd) (ks:List Tr):Fue (dJ' B rc cx nd ks):=by
 unfold dJ';simp only;exact aE' (hr cx _) fun ty=>aE' (ef' cx ty) fun z=>ar' bC' (ar' bC' (aE' (hr cx _) fun mt=>aE' (lz' _ _ _ _ _ _ _) fun kind=>aE' (ar' (mB' hr _) aL') fun s=>ar' bC' (aE' (fw' hr cx _ _ _ _ _) fun _=>gl')))
theorem jg' (cx:Ctx) (t:Tr):∀ (k i:Nat),Fue (eF' B rc cx t k i)
 | 0,i=>aL'
 | k + 1,i=>aE' (cQ' hr cx _) fun _=>jg' cx t k (i + 1)
theorem im' (cx:Ctx) (t:Tr) (nb:Nat):∀ (k i:Nat),Fue (cM' B rc cx t nb k i)
 | 0,i=>aL'
 | k + 1,i=>aE' (dt' hr cx _ _) fun _=>im' cx t nb k (i + 1)
theorem sN' (cx:Ctx) (t:Tr):Fue (rr' B rc cx t):=aE' (jg' hr cx t _ _) fun _=>ar' bC' (aE' (im' hr _ t _ _ _) fun _=>aL')
theorem oC' (cx:Ctx) (t:Tr):Fue (cN' B rc cx t):=by
 unfold cN';refine ar' aL' (ar' ?_ (ar' aL' (ar' gl' (ar' gl' (ar' ?_ (ar' ?_ (ar' ?_ (ar' ?_ (ar' (oB' hr cx _ _) (sN' hr cx t))))))))))
 ·exact ar' bC' aL'
 ·exact aE' (cQ' hr cx _) fun p=>aE' (cQ' hr _ _) fun q=>ar' bC' aL'
 ·exact aE' (cQ' hr cx _) fun p=>aE' (hr _ _) fun q=>gl'
 ·exact aE' (hr cx _) fun ty=>aE' (ef' cx ty) fun z=>ar' bC' (aE' (dt' hr cx _ _) fun _=>gl')
 ·exact aE' (cQ' hr cx _) fun p=>aE' (dt' hr cx _ _) fun _=>aE' (hr _ _) fun z=>gl'
omit hr in
theorem fU':∀ (g:Nat),RjFu (aj' B g)
 | 0=>fun cx t=>bC'
 | g + 1=>fun cx t=>oC' (fU' g) cx t
end
def cR' (t:List Nd) (e:Int):Bool:=t.any fun m=>decide (m.op = 9 /\ m.a = e)
def nR' (e ar:Int) (np:Nat):List Tr -> Nat -> Bool
 | [],_=>true
 | a :: r,i=>if (i < np /\ row a ≠ [⟨1,ar - 1 - (i:Int),0⟩]) \/ cR' (row a) e = true then false else nR' e ar np r (i + 1)
def mC' (np ni:Nat) (e ar:Int) (x:Tr):Bool:=if row (headT x) ≠ [⟨9,e,0⟩] \/ (argsT x).length ≠ np + ni then false else nR' e ar np (argsT x) 0
def lB' (np ni:Nat) (e:Int):Nat -> Tr -> Int -> Bool
 | 0,_,_=>false
 | g + 1,x,ar=>if x.n.op = 4 then (if cR' (row (kidD x 0)) e = true then false else lB' np ni e g (kidD x 1) (ar + 1)) else mC' np ni e ar x
def iA' (np ni:Nat) (e:Int) (x:Tr) (ar:Int):Bool:=if cR' (row x) e = false then true else lB' np ni e (row x).length x ar
def eg' (np ni:Nat) (e:Int):List Tr -> Nat -> Bool
 | [],_=>true
 | a :: r,i=>if iA' np ni e a ((np + i:Nat):Int) = false then false else eg' np ni e r (i + 1)
def eO' (np ni:Nat) (e:Int) (c:CtT):Bool:=if eg' np ni e (c.args.map tr) 0 = false then false else !(c.out.any fun t=>cR' t e)
def sO' (np ni:Nat) (e:Int):List CtT -> Bool
 | []=>true
 | c :: r=>if eO' np ni e c = false then false else sO' np ni e r
def posM (B:BoT) (e:Int):Bool:=sO' (entD B e).params.length (entD B e).indices.length e (entD B e).ctors
def az' (B:BoT) (e:Int):Int:=if aM' B ≠ 0 then aM' B else if e < 0 then 1 else if (B.ents.length:Int) <= e then 1 else if (entD B e).kind ≠ 1 then 1 else 0
def kk' (B:BoT):List Tr -> Ctx -> Nat -> Except Int (Ctx × Nat)
 | [],cx,n=>.ok (cx,n)
 | x :: r,cx,n=>bdJ (bx' B cx x (n:Int)) fun _ n=>kk' B r (cx ++ [(x,none)]) n
def fV' (B:BoT) (e:Int):List Tr -> Ctx -> Nat -> Except Int (Ctx × Nat)
 | [],cx,n=>.ok (cx,n)
 | a :: r,cx,n=>bdJ (bx' B cx a (n:Int)) fun l n=>if dH' B.vars B.orders l.2 (cA' (tr (entD B e).sort)) = false then .error 21
   else if iA' (entD B e).params.length (entD B e).indices.length e a (cx.length:Int) = false then .error 20 else fV' B e r (cx ++ [(a,none)]) n
def eh' (go:List Tr):Nat -> Tr -> Except Int Tr
 | 0,t=>.ok t
 | i + 1,t=>(aA' t (al' (go.getD i (varX 0)) (i:Int) 0) 0).bind (eh' go i)
def io' (qi go:List Tr) (na j:Nat):Except Int Tr:=eh' go j (al' (qi.getD j (varX 0)) (na:Int) (j:Int))
def oD' (B:BoT) (e:Int) (go:List Tr) (na:Nat) (cx:Ctx):List Tr -> Nat -> Nat -> Except Int (Unit × Nat)
 | [],_,n=>.ok ((),n)
 | o :: r,j,n=>if cR' (row o) e = true then .error 20 else bdJ (puJ (io' (qiM B e) go na j) n) fun want n=>bdJ (bv' B cx o want (n:Int)) fun _ n=>oD' B e go na cx r (j + 1) n
def dM' (B:BoT) (e:Int) (cp:Ctx):List CtT -> Nat -> Except Int (Unit × Nat)
 | [],n=>.ok ((),n)
 | c :: r,n=>bdJ (fV' B e (c.args.map tr) cp n) fun cx n=>bdJ (oD' B e (c.out.map tr) c.args.length cx (c.out.map tr) 0 n) fun _ n=>dM' B e cp r n
def vp' (B:BoT) (e:Int) (n:Nat):Except Int (Unit × Nat) :=
 bdJ (fS' B [] (tr (entD B e).sort) (n:Int)) fun _ n=>bdJ (kk' B (psM B e) [] n) fun cp n=>bdJ (kk' B (qiM B e) cp n) fun _ n=>dM' B e cp (entD B e).ctors n
def cS' (B:BoT) (e:Int) (fuel:Int):Except Int (Unit × Nat):=if az' B e ≠ 0 then .error (az' B e) else vp' B e (aS' fuel)
theorem mD' {B:BoT}:∀ (l:List Tr) (cx:Ctx) (n:Nat) (q:Ctx × Nat),kk' B l cx n = .ok q -> q.1 = cx ++ l.map fun x=>(x,none)
 | [],cx,n,q,h=>by cases h; simp
 | x :: r,cx,n,q,h=>by
  obtain ⟨p,_,h⟩:=an' h;rw [mD' r _ _ _ h];simp
theorem kl' {B:BoT} {e:Int}:∀ (l:List Tr) (cx:Ctx) (n:Nat) (q:Ctx × Nat),fV' B e l cx n = .ok q -> q.1 = cx ++ l.map fun x=>(x,none)
 | [],cx,n,q,h=>by cases h; simp
 | a :: r,cx,n,q,h=>by
  obtain ⟨p,_,h⟩:=an' h;split at h
  ·cases h
  split at h
  ·cases h
  rw [kl' r _ _ _ h];simp
theorem dD' {B:BoT} {e:Int} (h:az' B e = 0):aM' B = 0 /\ GoodB B /\ 0 <= e /\ e < B.ents.length /\ B.ents[e.toNat]? = some (entD B e) /\ ∃ s ps qi,GoodF B e.toNat (entD B e) s ps qi:=by
 unfold az' at h;split at h
 ·rename_i g; exact absurd h g
 rename_i g0;split at h
 ·cases h
 split at h
 ·cases h
 split at h
 ·cases h
 rename_i g1 g2 g3;have hB:=ex' (Decidable.not_not.1 g0);have hx:B.ents[e.toNat]? = some (entD B e):=by
  unfold entD;rw [List.getD_eq_getElem?_getD];have:e.toNat < B.ents.length:=by omega
  simp [this]
 refine ⟨Decidable.not_not.1 g0,hB,by omega,by omega,hx,?_⟩;rcases hB.ent _ _ hx with h | ⟨ty,bo,h⟩
 ·exact h
 ·have:=h.kind
  omega
theorem du' {l:List (List Nd)} {ys:List Tr} (h:l = ys.map row) (hy:∀ y ∈ ys,Ok .tm y):l.map tr = ys:=by
 subst h;rw [List.map_map];have:∀ y ∈ ys,(tr ∘ row) y = y:=fun y hm=>dU' (hy y hm);exact (List.map_congr_left this).trans (List.map_id' ys)
end Go.Proofs.YtdfmgkaecdkhnaaGreat
