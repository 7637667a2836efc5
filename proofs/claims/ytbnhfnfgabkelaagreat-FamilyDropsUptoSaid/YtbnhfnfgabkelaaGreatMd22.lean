import Derived.Test.YtbnhfnfgabkelaaGreatMd21
set_option linter.unusedVariables false
set_option linter.unusedSimpArgs false
set_option maxRecDepth 100000
set_option maxHeartbeats 4000000
namespace Go.Proofs.YtbnhfnfgabkelaaGreat
open Go.Wx Cd Tm Lv
def Ones (g:G):Prop:=∀ x y v,g x y = some v -> v = 1
theorem Ones.bd {g:G} (h:Ones g) (x y:Int):0 <= (g x y).getD 0 /\ (g x y).getD 0 <= 1:=by
 cases hg:g x y with
 | none=>simp
 | some v=>have:=h x y v hg; simp [this]
theorem Ones.put {g:G} (h:Ones g) (x y:Int):Ones (putG g x y 1):=fun a b v hv=>by
 unfold putG at hv;split at hv
 ·exact (JB hv).symm
 ·exact h a b v hv
section
variable {C:Mem} {w:World} {B:BoT}
theorem kf' (hS:Sub C w) {vb:Value} (hvb:BoV C B vb) :
  CC 33 #[vb] w (fun e w'=>e = .returned (.bool (oB' B)) /\ Kp [] w w'):=by
 refine oF Tryz.func33 ?_;obtain ⟨RES,hRES⟩:∃ r,oB' B = r:=⟨_,rfl⟩
 rw [hRES];unfold oB' at hRES;have hvb':=hvb;obtain ⟨v1,v2,v3,rfl,hO,hE,hP⟩:=hvb;obtain ⟨ae,ce,rfl,hE1,_⟩:=id hE;obtain ⟨ap,cp,rfl,hP1,_⟩:=id hP;have lP:=hP1.1;have no:∀ {w'},Kp [] w w' -> RES = false -> Ending.returned (Go.Wx.one [.bool false]) = .returned (.bool RES) /\ Kp [] w w':=fun k h=>by subst h; exact ⟨rfl,k⟩
 refine dD' (args:=[_]) 89 [.tmp 2] Tryz.func33 rfl rfl rfl (Nat.le_of_ble_eq_true rfl) ?_;refine aS' τok ?_;refine new fun b1 w1 hb1 h1 hs1 hk1=>?_;have h1:Bk w1.heap b1 [iV B.vars,v1,.slice ae B.ents.length ce,iV B.nat,.slice ap B.prims.length cp] 26:=h1;refine eO' τok (σ:=Unit) (fun _=>[(1,pt b1)]) (fun _ w'=>Kp [] w w' /\ Bk w'.heap b1 [iV B.vars,v1,.slice ae B.ents.length ce,iV B.nat,.slice ap B.prims.length cp] 26 /\ my' B B.prims (fun _ _=>none) = RES) ?_ ?_
 ·refine lb h1 ?_
  refine ac' (fun g1=>?_) (fun g1=>?_)
  ·have g1:B.nat ≠ -1:=g1
   refine ldN [iV B.vars,v1,.slice ae B.ents.length ce,iV B.nat,.slice ap B.prims.length cp] rfl (bZ h1) ?_;refine lb h1 ?_;refine ab' (oD' (hS.tr hk1) hvb' B.nat) ?_;rintro e w2 ⟨rfl,hk2⟩;have k02:=hk1.tr hk2;cases hn:wt' B B.nat with
   | false =>
    rw [if_pos (.inl ⟨g1,hn⟩)] at hRES;exact no k02 hRES.symm
   | true =>
    rw [if_neg (by
     rintro (h | h)
     ·rw [hn] at h
      cases h.2
     ·exact g1 h.1)] at hRES
    have h1:=h1.kp hk2 (by simp);refine lb h1 ?_;refine cF' (p:=B.nat = -1) g1 ?_;exact ⟨(),rfl,⟨rfl,trivial⟩,k02,h1,hRES⟩
  ·have g1:¬ B.nat ≠ -1:=g1
   refine lb h1 ?_;refine au' (p:=B.nat = -1) (by omega) ?_;refine lb h1 ?_;refine ac' (fun g2=>?_) (fun g2=>?_)
   ·have g2:(0:Int) < (B.prims.length:Int):=g2
    rw [if_pos (.inr ⟨by omega,by omega⟩)] at hRES;exact no hk1 hRES.symm
   have g2:¬ (0:Int) < (B.prims.length:Int):=g2;rw [if_neg (by
    rintro (h | h)
    ·exact g1 h.1
    ·omega)] at hRES
   exact ⟨(),rfl,⟨rfl,trivial⟩,hk1,h1,hRES⟩
 ·rintro _ w2 ⟨k02,h1,hRES⟩
  have hb1l:=h1.lt;refine eT' τok ?_;refine uT' fun bm w3 hbm hG hs3 hk3=>?_;have k03:=k02.tr hk3;have h1:=h1.kp hk3 (by simp);have hbml:w.heap.size <= bm /\ b1 < bm:=by
   have q1:=k02.size;have q2:bm = (w2).heap.size:=hbm;have q3:=h1.lt;have q4:=hb1l;omega
  refine lb h1 ?_;refine lp τok (σ:=Nat × G) (fun q=>[(1,pt b1),(3,.map (some bm)),(31,.slice ap B.prims.length cp),(32,iV (B.prims.length:Int)),(33,iV (q.1:Int))])
   (fun q w'=>q.1 <= B.prims.length /\ Ones q.2 /\ GrP w'.heap bm q.2 /\ Bk w'.heap b1 [iV B.vars,v1,.slice ae B.ents.length ce,iV B.nat,.slice ap B.prims.length cp] 26 /\ Kp [] w w' /\ my' B (B.prims.drop q.1) q.2 = RES) (fun q=>B.prims.length - q.1) (0,fun _ _=>none) rfl
   ⟨rfl,rfl,rfl,rfl,rfl,trivial⟩ ⟨KV _,(fun x y v h=>by cases h),hG,h1,k03,hRES⟩ ?_
  clear hRES hG h1 k03
  rintro ⟨i,gm⟩ w4 ⟨hi,hones,hG4,h14,k04,hres⟩;simp only at hi hones hG4 hres;refine ac' (fun g=>?_) (fun g=>?_)
  ·have g:(i:Int) < (B.prims.length:Int):=g
   obtain ⟨p,hp,hd⟩:=af' (l:=B.prims) (k:=i) (by omega);rw [hd] at hres;simp only [my'] at hres;obtain ⟨bp,op,cp',pp,hpat⟩:=hP.at hp;obtain ⟨cs,⟨rfl,hi1,hi2⟩,hpc⟩:=hpat;injection pp with q1 q2 q3
   subst q1 q3;refine ix i rfl (by omega) ?_;refine ldN [iV p.1,iV p.2] rfl (fun j u hj=>hS.tr k04 _ _ _ (hpc j u hj)) ?_;refine new fun b5 wb hb5 h5 hs5 hk5=>?_;refine stN (vs:=[iV p.1,iV p.2]) h5 rfl (by simp [Value.oneCell']) fun w5 h5 hs6 hk6=>?_;have k45:=hk5.newSt hb5 hk6;have h5:Bk w5.heap b5 [iV p.1,iV p.2] 113:=h5;have hG5:=hG4.kp k45 (by simp);have h14:=h14.kp k45 (by simp);have k04:=k04.tr k45;have o1:∀ v ∈ [iV p.1,iV (-1)],v.oneCell' = true:=fun v hv=>by simp at hv; rcases hv with rfl | rfl <;> rfl
   have o2:∀ v ∈ [iV (-1),iV p.2],v.oneCell' = true:=fun v hv=>by simp at hv; rcases hv with rfl | rfl <;> rfl
   refine aq' τok (fun z=>Kp [] w5 z) ?_;refine rV τok (rg 0 6) 4 (mR 10 6) (kQd w5) ?_;refine lk h5 ?_;refine lk h5 ?_;refine db' τok 6 7 3 (mR 10 7) (mB 10 [6,8,9]) rfl rfl rfl rfl rfl (by kernel_rfl) ?_ ?_
   ·refine new fun b6 wc hb6 h6 hs7 hk7=>?_
    have hk7:Kp [] w5 wc:=hk7.rd;have lb6:w5.heap.size <= b6:=by
     have:b6 = w5.heap.size:=hb6;omega
    refine ⟨.inl hk7,?_⟩;refine nV τok 7 2 (mR 10 8) ?_;refine new fun b7 wd hb7 h7 hs8 hk8=>?_;have k36:=hk7.tr hk8;have n67:b6 ≠ b7:=by have:=h6.lt; omega
    have lb7:w5.heap.size <= b7:=by have:=hk7.size; omega
    refine ⟨.inl k36,?_⟩;refine nV τok 8 1 (mR 10 9) ?_;refine stN (vs:=[iV p.1,iV (-1)]) (h6.kp hk8 (by simp)) rfl o1 fun we h6' hs9 hk9=>?_;have k37:Kp [] w5 we:=k36.trans hk9 fun y hy hl=>by simp at hy; omega
    refine ⟨.inl k37,?_⟩;refine nV τok 9 0 (mR 10 10) ?_;refine stN (vs:=[iV (-1),iV p.2]) (h7.kp hk9 (by simpa using Ne.symm n67)) rfl o2 fun w8 h7' hs10 hk10=>?_;refine ⟨.inr (by kernel_rfl),?_⟩;refine dV ?_;have k48:Kp [] w5 w8:=k37.trans hk10 fun y hy hl=>by simp at hy; omega
    have k08:=k04.tr k48;have h68:Bk w8.heap b6 [iV p.1,iV (-1)] 113:=(h6'.kp hk10 (by simpa using n67))
    have h78:Bk w8.heap b7 [iV (-1),iV p.2] 113:=h7';have h58:=h5.kp k48 (by simp);have h1w:=h14.kp k48 (by simp);have hG8:=hG5.kp k48 (by simp);have kd:Kp [] w8 (dr w8):=(Kp.refl [] w8).dr _;refine aq' τok (fun z=>Kp [] w8 z) ?_;refine rV τok [0,1,2,3,4,5,6,7,8,9,10,11,12,13,14,15,16,17,18,19,20,21,22,23,24,25,26,27,28,29,30,31,32,33,35,36] 5 (mB 41 [34,37,38,39,40]) kd ?_;refine lk h58 ?_;refine ac' (fun y1=>?_) (fun y1=>?_)
    ·have y1:p.1 < 0:=y1
     rw [if_pos (.inl y1)] at hres;refine db' τok 34 37 4 (mR 41 37) (mB 41 [34,38,39,40]) rfl rfl rfl rfl rfl (by kernel_rfl) ?_ ?_
     ·refine ⟨.inl kd,?_⟩
      refine nV τok 37 3 (mR 41 38) ?_;refine ⟨.inl kd,?_⟩;refine rV τok [38,39,40] 0 (mR 41 41) kd ?_;refine dV ?_;exact no (k08.dr _) hres.symm
     ·refine ⟨.inl kd,?_⟩
      refine nV τok 34 3 (mR 41 38) ?_;refine ⟨.inl kd,?_⟩;refine rV τok [38,39,40] 0 (mR 41 41) kd ?_;refine dV ?_;exact no (k08.dr _) hres.symm
    have y1:¬ p.1 < 0:=y1;refine lk h58 ?_;refine lk h1w ?_;refine ac' (fun y2=>?_) (fun y2=>?_)
    ·have y2:(B.ents.length:Int) <= p.1:=y2
     rw [if_pos (.inr (.inl y2))] at hres;refine db' τok 34 37 4 (mR 41 37) (mB 41 [34,38,39,40]) rfl rfl rfl rfl rfl (by kernel_rfl) ?_ ?_
     ·refine ⟨.inl kd,?_⟩
      refine nV τok 37 3 (mR 41 38) ?_;refine ⟨.inl kd,?_⟩;refine rV τok [38,39,40] 0 (mR 41 41) kd ?_;refine dV ?_;exact no (k08.dr _) hres.symm
     ·refine ⟨.inl kd,?_⟩
      refine nV τok 34 3 (mR 41 38) ?_;refine ⟨.inl kd,?_⟩;refine rV τok [38,39,40] 0 (mR 41 41) kd ?_;refine dV ?_;exact no (k08.dr _) hres.symm
    have y2:¬ (B.ents.length:Int) <= p.1:=y2;obtain ⟨n,hn⟩:∃ n:Nat,p.1 = (n:Int):=⟨p.1.toNat,by omega⟩
    obtain ⟨be,oe,ce',ae',cc',pe,hc1,hc2⟩:=lr' hS hE (a:=n) (by omega);injection pe with q1 q2 q3
    subst q1 q3;refine lk h1w ?_;refine lk h58 ?_;refine ix n hn (by omega) ?_;refine ldK (hS.tr k08 _ _ _ hc1) ?_;refine ac' (fun y3=>?_) (fun y3=>?_)
    ·have y3:(entD B (n:Int)).kind ≠ 2:=y3
     rw [if_pos (.inr (.inr (.inl (by rw [hn]; exact y3))))] at hres;refine db' τok 34 37 4 (mR 41 37) (mB 41 [34,38,39,40]) rfl rfl rfl rfl rfl (by kernel_rfl) ?_ ?_
     ·refine ⟨.inl kd,?_⟩
      refine nV τok 37 3 (mR 41 38) ?_;refine ⟨.inl kd,?_⟩;refine rV τok [38,39,40] 0 (mR 41 41) kd ?_;refine dV ?_;exact no (k08.dr _) hres.symm
     ·refine ⟨.inl kd,?_⟩
      refine nV τok 34 3 (mR 41 38) ?_;refine ⟨.inl kd,?_⟩;refine rV τok [38,39,40] 0 (mR 41 41) kd ?_;refine dV ?_;exact no (k08.dr _) hres.symm
    have y3:¬ (entD B (n:Int)).kind ≠ 2:=y3;refine lk h58 ?_;refine ac' (fun y4=>?_) (fun y4=>?_)
    ·have y4:p.2 < 1:=y4
     rw [if_pos (.inr (.inr (.inr (.inl y4))))] at hres;refine db' τok 34 37 4 (mR 41 37) (mB 41 [34,38,39,40]) rfl rfl rfl rfl rfl (by kernel_rfl) ?_ ?_
     ·refine ⟨.inl kd,?_⟩
      refine nV τok 37 3 (mR 41 38) ?_;refine ⟨.inl kd,?_⟩;refine rV τok [38,39,40] 0 (mR 41 41) kd ?_;refine dV ?_;exact no (k08.dr _) hres.symm
     ·refine ⟨.inl kd,?_⟩
      refine nV τok 34 3 (mR 41 38) ?_;refine ⟨.inl kd,?_⟩;refine rV τok [38,39,40] 0 (mR 41 41) kd ?_;refine dV ?_;exact no (k08.dr _) hres.symm
    have y4:¬ p.2 < 1:=y4;refine lk h58 ?_;refine ac' (fun y5=>?_) (fun y5=>?_)
    ·have y5:3 < p.2:=y5
     rw [if_pos (.inr (.inr (.inr (.inr (.inl y5)))))] at hres;refine db' τok 34 37 4 (mR 41 37) (mB 41 [34,38,39,40]) rfl rfl rfl rfl rfl (by kernel_rfl) ?_ ?_
     ·refine ⟨.inl kd,?_⟩
      refine nV τok 37 3 (mR 41 38) ?_;refine ⟨.inl kd,?_⟩;refine rV τok [38,39,40] 0 (mR 41 41) kd ?_;refine dV ?_;exact no (k08.dr _) hres.symm
     ·refine ⟨.inl kd,?_⟩
      refine nV τok 34 3 (mR 41 38) ?_;refine ⟨.inl kd,?_⟩;refine rV τok [38,39,40] 0 (mR 41 41) kd ?_;refine dV ?_;exact no (k08.dr _) hres.symm
    have y5:¬ 3 < p.2:=y5;rw [<- hn] at y3;refine dQ' [iV p.1,iV (-1)] rfl (bZ h68) ?_;refine dQ' [iV (-1),iV p.2] rfl (bZ h78) ?_;have hG8d:GrP ((dr w8):World).heap bm gm:=hG8;have bd1:=hones.bd p.1 (-1);have bd2:=hones.bd (-1) p.2;refine db' τok 34 37 4 (mR 41 37) (mB 41 [34,38,39,40]) rfl rfl rfl rfl rfl (by kernel_rfl) ?_ ?_
    ·refine run (dk' hG8d p.1 (-1) false) ?_
     refine ⟨.inl kd,?_⟩;refine nV τok 37 3 (mR 41 38) ?_;refine run (dk' hG8d (-1) p.2 false) ?_;refine ⟨.inl kd,?_⟩;refine rV τok [38,39,40] 0 (mR 41 41) kd ?_;refine i6 ?_;refine dV ?_;refine ac' (fun y6=>?_) (fun y6=>?_)
     ·have y6:(0:Int) < (gm p.1 (-1)).getD 0 + (gm (-1) p.2).getD 0:=y6
      rw [if_pos (.inr (.inr (.inr (.inr (.inr y6)))))] at hres;exact no (k08.dr _) hres.symm
     have y6:¬ (0:Int) < (gm p.1 (-1)).getD 0 + (gm (-1) p.2).getD 0:=y6;rw [if_neg (by omega)] at hres;have kd0:Kp [] w8 (dr w8):=(Kp.refl [] w8).dr _;have hbmlt:=hG5.lt;have n6:b6 ∉ [bm]:=by simp; omega
     have n7:b7 ∉ [bm]:=by simp; omega
     refine aq' τok (fun z=>Kp [bm] w8 z) ?_;refine rV τok (rg 0 4) 2 (mR 6 4) ((kd0.dr _).weak (by simp)) ?_;refine oL' [iV p.1,iV (-1)] rfl (fun z hz j u hj=>by rw [KW]; exact (h68.kp hz n6).cl hj) ?_;refine oL' [iV (-1),iV p.2] rfl (fun z hz j u hj=>by rw [KW]; exact (h78.kp hz n7).cl hj) ?_;refine nV τok 4 1 (mR 6 5) ?_;have hG8':GrP ({ w8 with drawn:=w8.drawn + 1 + 1 }:World).heap bm gm:=hG8;refine eo' hG8' p.1 (-1) 1 fun w9 hG9 hs9 hk9=>?_;refine ⟨.inl hk9.rd.rd,?_⟩;refine nV τok 5 0 (mR 6 6) ?_;refine eo' hG9 (-1) p.2 1 fun wa hGa hsa hka=>?_;refine ⟨.inr (by kernel_rfl),?_⟩;refine dV ?_;refine i6 ?_;have hk9:Kp [bm] w8 w9:=hk9.rd.rd;have k8a:Kp [bm] w8 wa:=hk9.tq hka;have k0a:Kp [] w wa:=k08.trans k8a fun y hy hl=>by
      obtain rfl:y = bm:=by simpa using hy
      omega
     exact ⟨(i + 1,putG (putG gm p.1 (-1) 1) (-1) p.2 1),by simp only; omega,rfl,⟨rfl,rfl,rfl,rfl,rfl,trivial⟩,by show i + 1 <= _; omega,(hones.put _ _).put _ _,hGa,h1w.kp k8a (by simp; omega),k0a,hres⟩
    ·refine run (dk' hG8d (-1) p.2 false) ?_
     refine ⟨.inl kd,?_⟩;refine nV τok 34 3 (mR 41 38) ?_;refine run (dk' hG8d p.1 (-1) false) ?_;refine ⟨.inl kd,?_⟩;refine rV τok [38,39,40] 0 (mR 41 41) kd ?_;refine i6 ?_;refine dV ?_;refine ac' (fun y6=>?_) (fun y6=>?_)
     ·have y6:(0:Int) < (gm p.1 (-1)).getD 0 + (gm (-1) p.2).getD 0:=y6
      rw [if_pos (.inr (.inr (.inr (.inr (.inr y6)))))] at hres;exact no (k08.dr _) hres.symm
     have y6:¬ (0:Int) < (gm p.1 (-1)).getD 0 + (gm (-1) p.2).getD 0:=y6;rw [if_neg (by omega)] at hres;have kd0:Kp [] w8 (dr w8):=(Kp.refl [] w8).dr _;have hbmlt:=hG5.lt;have n6:b6 ∉ [bm]:=by simp; omega
     have n7:b7 ∉ [bm]:=by simp; omega
     refine aq' τok (fun z=>Kp [bm] w8 z) ?_;refine rV τok (rg 0 4) 2 (mR 6 4) ((kd0.dr _).weak (by simp)) ?_;refine oL' [iV p.1,iV (-1)] rfl (fun z hz j u hj=>by rw [KW]; exact (h68.kp hz n6).cl hj) ?_;refine oL' [iV (-1),iV p.2] rfl (fun z hz j u hj=>by rw [KW]; exact (h78.kp hz n7).cl hj) ?_;refine nV τok 4 1 (mR 6 5) ?_;have hG8':GrP ({ w8 with drawn:=w8.drawn + 1 + 1 }:World).heap bm gm:=hG8;refine eo' hG8' p.1 (-1) 1 fun w9 hG9 hs9 hk9=>?_;refine ⟨.inl hk9.rd.rd,?_⟩;refine nV τok 5 0 (mR 6 6) ?_;refine eo' hG9 (-1) p.2 1 fun wa hGa hsa hka=>?_;refine ⟨.inr (by kernel_rfl),?_⟩;refine dV ?_;refine i6 ?_;have hk9:Kp [bm] w8 w9:=hk9.rd.rd;have k8a:Kp [bm] w8 wa:=hk9.tq hka;have k0a:Kp [] w wa:=k08.trans k8a fun y hy hl=>by
      obtain rfl:y = bm:=by simpa using hy
      omega
     exact ⟨(i + 1,putG (putG gm p.1 (-1) 1) (-1) p.2 1),by simp only; omega,rfl,⟨rfl,rfl,rfl,rfl,rfl,trivial⟩,by show i + 1 <= _; omega,(hones.put _ _).put _ _,hGa,h1w.kp k8a (by simp; omega),k0a,hres⟩
   ·refine new fun b7 wc hb7 h7 hs7 hk7=>?_
    have hk7:Kp [] w5 wc:=hk7.rd;have lb7:w5.heap.size <= b7:=by
     have:b7 = w5.heap.size:=hb7;omega
    refine ⟨.inl hk7,?_⟩;refine nV τok 6 2 (mR 10 8) ?_;refine new fun b6 wd hb6 h6 hs8 hk8=>?_;have k36:=hk7.tr hk8;have n67:b6 ≠ b7:=by have:=h7.lt; omega
    have lb6:w5.heap.size <= b6:=by have:=hk7.size; omega
    refine ⟨.inl k36,?_⟩;refine nV τok 8 1 (mR 10 9) ?_;refine stN (vs:=[iV p.1,iV (-1)]) h6 rfl o1 fun we h6' hs9 hk9=>?_;have k37:Kp [] w5 we:=k36.trans hk9 fun y hy hl=>by simp at hy; omega
    refine ⟨.inl k37,?_⟩;refine nV τok 9 0 (mR 10 10) ?_;refine stN (vs:=[iV (-1),iV p.2]) ((h7.kp hk8 (by simp)).kp hk9 (by simpa using Ne.symm n67)) rfl o2 fun w8 h7' hs10 hk10=>?_;refine ⟨.inr (by kernel_rfl),?_⟩;refine dV ?_;have k48:Kp [] w5 w8:=k37.trans hk10 fun y hy hl=>by simp at hy; omega
    have k08:=k04.tr k48;have h68:Bk w8.heap b6 [iV p.1,iV (-1)] 113:=(h6'.kp hk10 (by simpa using n67))
    have h78:Bk w8.heap b7 [iV (-1),iV p.2] 113:=h7';have h58:=h5.kp k48 (by simp);have h1w:=h14.kp k48 (by simp);have hG8:=hG5.kp k48 (by simp);have kd:Kp [] w8 (dr w8):=(Kp.refl [] w8).dr _;refine aq' τok (fun z=>Kp [] w8 z) ?_;refine rV τok [0,1,2,3,4,5,6,7,8,9,10,11,12,13,14,15,16,17,18,19,20,21,22,23,24,25,26,27,28,29,30,31,32,33,35,36] 5 (mB 41 [34,37,38,39,40]) kd ?_;refine lk h58 ?_;refine ac' (fun y1=>?_) (fun y1=>?_)
    ·have y1:p.1 < 0:=y1
     rw [if_pos (.inl y1)] at hres;refine db' τok 34 37 4 (mR 41 37) (mB 41 [34,38,39,40]) rfl rfl rfl rfl rfl (by kernel_rfl) ?_ ?_
     ·refine ⟨.inl kd,?_⟩
      refine nV τok 37 3 (mR 41 38) ?_;refine ⟨.inl kd,?_⟩;refine rV τok [38,39,40] 0 (mR 41 41) kd ?_;refine dV ?_;exact no (k08.dr _) hres.symm
     ·refine ⟨.inl kd,?_⟩
      refine nV τok 34 3 (mR 41 38) ?_;refine ⟨.inl kd,?_⟩;refine rV τok [38,39,40] 0 (mR 41 41) kd ?_;refine dV ?_;exact no (k08.dr _) hres.symm
    have y1:¬ p.1 < 0:=y1;refine lk h58 ?_;refine lk h1w ?_;refine ac' (fun y2=>?_) (fun y2=>?_)
    ·have y2:(B.ents.length:Int) <= p.1:=y2
     rw [if_pos (.inr (.inl y2))] at hres;refine db' τok 34 37 4 (mR 41 37) (mB 41 [34,38,39,40]) rfl rfl rfl rfl rfl (by kernel_rfl) ?_ ?_
     ·refine ⟨.inl kd,?_⟩
      refine nV τok 37 3 (mR 41 38) ?_;refine ⟨.inl kd,?_⟩;refine rV τok [38,39,40] 0 (mR 41 41) kd ?_;refine dV ?_;exact no (k08.dr _) hres.symm
     ·refine ⟨.inl kd,?_⟩
      refine nV τok 34 3 (mR 41 38) ?_;refine ⟨.inl kd,?_⟩;refine rV τok [38,39,40] 0 (mR 41 41) kd ?_;refine dV ?_;exact no (k08.dr _) hres.symm
    have y2:¬ (B.ents.length:Int) <= p.1:=y2;obtain ⟨n,hn⟩:∃ n:Nat,p.1 = (n:Int):=⟨p.1.toNat,by omega⟩
    obtain ⟨be,oe,ce',ae',cc',pe,hc1,hc2⟩:=lr' hS hE (a:=n) (by omega);injection pe with q1 q2 q3
    subst q1 q3;refine lk h1w ?_;refine lk h58 ?_;refine ix n hn (by omega) ?_;refine ldK (hS.tr k08 _ _ _ hc1) ?_;refine ac' (fun y3=>?_) (fun y3=>?_)
    ·have y3:(entD B (n:Int)).kind ≠ 2:=y3
     rw [if_pos (.inr (.inr (.inl (by rw [hn]; exact y3))))] at hres;refine db' τok 34 37 4 (mR 41 37) (mB 41 [34,38,39,40]) rfl rfl rfl rfl rfl (by kernel_rfl) ?_ ?_
     ·refine ⟨.inl kd,?_⟩
      refine nV τok 37 3 (mR 41 38) ?_;refine ⟨.inl kd,?_⟩;refine rV τok [38,39,40] 0 (mR 41 41) kd ?_;refine dV ?_;exact no (k08.dr _) hres.symm
     ·refine ⟨.inl kd,?_⟩
      refine nV τok 34 3 (mR 41 38) ?_;refine ⟨.inl kd,?_⟩;refine rV τok [38,39,40] 0 (mR 41 41) kd ?_;refine dV ?_;exact no (k08.dr _) hres.symm
    have y3:¬ (entD B (n:Int)).kind ≠ 2:=y3;refine lk h58 ?_;refine ac' (fun y4=>?_) (fun y4=>?_)
    ·have y4:p.2 < 1:=y4
     rw [if_pos (.inr (.inr (.inr (.inl y4))))] at hres;refine db' τok 34 37 4 (mR 41 37) (mB 41 [34,38,39,40]) rfl rfl rfl rfl rfl (by kernel_rfl) ?_ ?_
     ·refine ⟨.inl kd,?_⟩
      refine nV τok 37 3 (mR 41 38) ?_;refine ⟨.inl kd,?_⟩;refine rV τok [38,39,40] 0 (mR 41 41) kd ?_;refine dV ?_;exact no (k08.dr _) hres.symm
     ·refine ⟨.inl kd,?_⟩
      refine nV τok 34 3 (mR 41 38) ?_;refine ⟨.inl kd,?_⟩;refine rV τok [38,39,40] 0 (mR 41 41) kd ?_;refine dV ?_;exact no (k08.dr _) hres.symm
    have y4:¬ p.2 < 1:=y4;refine lk h58 ?_;refine ac' (fun y5=>?_) (fun y5=>?_)
    ·have y5:3 < p.2:=y5
     rw [if_pos (.inr (.inr (.inr (.inr (.inl y5)))))] at hres;refine db' τok 34 37 4 (mR 41 37) (mB 41 [34,38,39,40]) rfl rfl rfl rfl rfl (by kernel_rfl) ?_ ?_
     ·refine ⟨.inl kd,?_⟩
      refine nV τok 37 3 (mR 41 38) ?_;refine ⟨.inl kd,?_⟩;refine rV τok [38,39,40] 0 (mR 41 41) kd ?_;refine dV ?_;exact no (k08.dr _) hres.symm
     ·refine ⟨.inl kd,?_⟩
      refine nV τok 34 3 (mR 41 38) ?_;refine ⟨.inl kd,?_⟩;refine rV τok [38,39,40] 0 (mR 41 41) kd ?_;refine dV ?_;exact no (k08.dr _) hres.symm
    have y5:¬ 3 < p.2:=y5;rw [<- hn] at y3;refine dQ' [iV p.1,iV (-1)] rfl (bZ h68) ?_;refine dQ' [iV (-1),iV p.2] rfl (bZ h78) ?_;have hG8d:GrP ((dr w8):World).heap bm gm:=hG8;have bd1:=hones.bd p.1 (-1);have bd2:=hones.bd (-1) p.2;refine db' τok 34 37 4 (mR 41 37) (mB 41 [34,38,39,40]) rfl rfl rfl rfl rfl (by kernel_rfl) ?_ ?_
    ·refine run (dk' hG8d p.1 (-1) false) ?_
     refine ⟨.inl kd,?_⟩;refine nV τok 37 3 (mR 41 38) ?_;refine run (dk' hG8d (-1) p.2 false) ?_;refine ⟨.inl kd,?_⟩;refine rV τok [38,39,40] 0 (mR 41 41) kd ?_;refine i6 ?_;refine dV ?_;refine ac' (fun y6=>?_) (fun y6=>?_)
     ·have y6:(0:Int) < (gm p.1 (-1)).getD 0 + (gm (-1) p.2).getD 0:=y6
      rw [if_pos (.inr (.inr (.inr (.inr (.inr y6)))))] at hres;exact no (k08.dr _) hres.symm
     have y6:¬ (0:Int) < (gm p.1 (-1)).getD 0 + (gm (-1) p.2).getD 0:=y6;rw [if_neg (by omega)] at hres;have kd0:Kp [] w8 (dr w8):=(Kp.refl [] w8).dr _;have hbmlt:=hG5.lt;have n6:b6 ∉ [bm]:=by simp; omega
     have n7:b7 ∉ [bm]:=by simp; omega
     refine aq' τok (fun z=>Kp [bm] w8 z) ?_;refine rV τok (rg 0 4) 2 (mR 6 4) ((kd0.dr _).weak (by simp)) ?_;refine oL' [iV p.1,iV (-1)] rfl (fun z hz j u hj=>by rw [KW]; exact (h68.kp hz n6).cl hj) ?_;refine oL' [iV (-1),iV p.2] rfl (fun z hz j u hj=>by rw [KW]; exact (h78.kp hz n7).cl hj) ?_;refine nV τok 4 1 (mR 6 5) ?_;have hG8':GrP ({ w8 with drawn:=w8.drawn + 1 + 1 }:World).heap bm gm:=hG8;refine eo' hG8' p.1 (-1) 1 fun w9 hG9 hs9 hk9=>?_;refine ⟨.inl hk9.rd.rd,?_⟩;refine nV τok 5 0 (mR 6 6) ?_;refine eo' hG9 (-1) p.2 1 fun wa hGa hsa hka=>?_;refine ⟨.inr (by kernel_rfl),?_⟩;refine dV ?_;refine i6 ?_;have hk9:Kp [bm] w8 w9:=hk9.rd.rd;have k8a:Kp [bm] w8 wa:=hk9.tq hka;have k0a:Kp [] w wa:=k08.trans k8a fun y hy hl=>by
      obtain rfl:y = bm:=by simpa using hy
      omega
     exact ⟨(i + 1,putG (putG gm p.1 (-1) 1) (-1) p.2 1),by simp only; omega,rfl,⟨rfl,rfl,rfl,rfl,rfl,trivial⟩,by show i + 1 <= _; omega,(hones.put _ _).put _ _,hGa,h1w.kp k8a (by simp; omega),k0a,hres⟩
    ·refine run (dk' hG8d (-1) p.2 false) ?_
     refine ⟨.inl kd,?_⟩;refine nV τok 34 3 (mR 41 38) ?_;refine run (dk' hG8d p.1 (-1) false) ?_;refine ⟨.inl kd,?_⟩;refine rV τok [38,39,40] 0 (mR 41 41) kd ?_;refine i6 ?_;refine dV ?_;refine ac' (fun y6=>?_) (fun y6=>?_)
     ·have y6:(0:Int) < (gm p.1 (-1)).getD 0 + (gm (-1) p.2).getD 0:=y6
      rw [if_pos (.inr (.inr (.inr (.inr (.inr y6)))))] at hres;exact no (k08.dr _) hres.symm
     have y6:¬ (0:Int) < (gm p.1 (-1)).getD 0 + (gm (-1) p.2).getD 0:=y6;rw [if_neg (by omega)] at hres;have kd0:Kp [] w8 (dr w8):=(Kp.refl [] w8).dr _;have hbmlt:=hG5.lt;have n6:b6 ∉ [bm]:=by simp; omega
     have n7:b7 ∉ [bm]:=by simp; omega
     refine aq' τok (fun z=>Kp [bm] w8 z) ?_;refine rV τok (rg 0 4) 2 (mR 6 4) ((kd0.dr _).weak (by simp)) ?_;refine oL' [iV p.1,iV (-1)] rfl (fun z hz j u hj=>by rw [KW]; exact (h68.kp hz n6).cl hj) ?_;refine oL' [iV (-1),iV p.2] rfl (fun z hz j u hj=>by rw [KW]; exact (h78.kp hz n7).cl hj) ?_;refine nV τok 4 1 (mR 6 5) ?_;have hG8':GrP ({ w8 with drawn:=w8.drawn + 1 + 1 }:World).heap bm gm:=hG8;refine eo' hG8' p.1 (-1) 1 fun w9 hG9 hs9 hk9=>?_;refine ⟨.inl hk9.rd.rd,?_⟩;refine nV τok 5 0 (mR 6 6) ?_;refine eo' hG9 (-1) p.2 1 fun wa hGa hsa hka=>?_;refine ⟨.inr (by kernel_rfl),?_⟩;refine dV ?_;refine i6 ?_;have hk9:Kp [bm] w8 w9:=hk9.rd.rd;have k8a:Kp [bm] w8 wa:=hk9.tq hka;have k0a:Kp [] w wa:=k08.trans k8a fun y hy hl=>by
      obtain rfl:y = bm:=by simpa using hy
      omega
     exact ⟨(i + 1,putG (putG gm p.1 (-1) 1) (-1) p.2 1),by simp only; omega,rfl,⟨rfl,rfl,rfl,rfl,rfl,trivial⟩,by show i + 1 <= _; omega,(hones.put _ _).put _ _,hGa,h1w.kp k8a (by simp; omega),k0a,hres⟩
  ·have g:¬ (i:Int) < (B.prims.length:Int):=g
   rw [JY (by omega)] at hres;simp only [my'] at hres;subst hres;exact ⟨rfl,k04⟩
end
section
variable {C:Mem} {w:World} {B:BoT}
theorem qR' (hS:Sub C w) (hold:∀ b o v,C b o v -> b < w.heap.size) {vb:Value} (hvb:BoV C B vb) :
  CC 19 #[vb] w (fun e w'=>e = .returned (iV (aJ' B)) /\ Kp [] w w'):=by
 refine oF Tryz.func19 ?_;obtain ⟨RES,hRES⟩:∃ r,aJ' B = r:=⟨_,rfl⟩
 rw [hRES];unfold aJ' at hRES;have hvb':=hvb;obtain ⟨v1,v2,v3,rfl,hO,hE,hP⟩:=hvb;obtain ⟨ao,co,rfl,hO1,_⟩:=id hO;obtain ⟨ae,ce,rfl,hE1,_⟩:=id hE;obtain ⟨ap,cp,rfl,hP1,_⟩:=id hP;have lE:=hE1.1;refine cO (args:=[_]) 39 [.tmp 2] τok Tryz.func19 ?_;refine new fun b1 w1 hb1 h1 hs1 hk1=>?_;have h1:Bk w1.heap b1 [iV B.vars,.slice ao B.orders.length co,.slice ae B.ents.length ce,iV B.nat,.slice ap B.prims.length cp] 26:=h1;refine lb h1 ?_;refine lb h1 ?_;refine ab' (sc' B.vars B.orders ao co w1 (Sl.ordV hO1 (hS.tr hk1))) ?_;rintro e w2 ⟨rfl,hk2⟩;have k02:=hk1.tr hk2;have h1:=h1.kp hk2 (by simp);refine ac' (fun g1=>?_) (fun g1=>?_)
 ·have g1:fw' B.vars B.orders ≠ 0:=g1
  rw [if_pos g1] at hRES;subst hRES;exact ⟨rfl,k02⟩
 have g1:¬ fw' B.vars B.orders ≠ 0:=g1;rw [if_neg g1] at hRES;refine lb h1 ?_;refine ac' (fun g2=>?_) (fun g2=>?_)
 ·have g2:(64:Int) < (B.ents.length:Int):=g2
  rw [if_pos (by omega)] at hRES;subst hRES;exact ⟨rfl,k02⟩
 have g2:¬ (64:Int) < (B.ents.length:Int):=g2;rw [if_neg (by omega)] at hRES;refine lb h1 ?_;refine lp τok (σ:=Nat) (fun i=>[(1,pt b1),(20,.slice ae B.ents.length ce),(21,iV (B.ents.length:Int)),(22,iV (i:Int))])
  (fun i w'=>i <= B.ents.length /\ Bk w'.heap b1 [iV B.vars,.slice ao B.orders.length co,.slice ae B.ents.length ce,iV B.nat,.slice ap B.prims.length cp] 26 /\ Kp [] w w' /\ bx' (bt' B (B.ents.drop i) i) (if oB' B = true then 0 else 22) = RES) (fun i=>B.ents.length - i) 0 rfl
  ⟨rfl,rfl,rfl,rfl,trivial⟩ ⟨KV _,h1,k02,hRES⟩ ?_
 clear hRES h1 k02
 rintro i w3 ⟨hi,h1,k03,hres⟩;refine ac' (fun g=>?_) (fun g=>?_)
 ·have g:(i:Int) < (B.ents.length:Int):=g
  obtain ⟨x,hx,hd⟩:=af' (l:=B.ents) (k:=i) (by omega);rw [hd] at hres;simp only [bt'] at hres;obtain ⟨be,oe,ce',pe,hat⟩:=hE.at hx;obtain ⟨w1e,w2e,w3e,w4e,w5e,w6e,hcs,hki,hso,hpa,hin,hct,hty,hbo⟩:=eL' hat;injection pe with q1 q2 q3
  subst q1 q3;have hone:∀ v ∈ [iV x.kind,w1e,w2e,w3e,w4e,w5e,w6e],v.oneCell' = true:=fun v hv=>by
   simp at hv;rcases hv with rfl | rfl | rfl | rfl | rfl | rfl | rfl
   ·rfl
   ·exact hso.one
   ·exact hpa.one
   ·exact hin.one
   ·exact hct.one
   ·exact hty.one
   ·exact hbo.one
  refine ix i rfl (by omega) ?_;refine ldN _ rfl (fun j u hj=>(hS.tr k03) _ _ _ (hcs j u hj)) ?_;refine new fun b5 w4 hb5 h5 hs4 hk4=>?_;refine stN (vs:=[iV x.kind,w1e,w2e,w3e,w4e,w5e,w6e]) h5 rfl hone fun w5 h5 hs5 hk5=>?_;have k35:=hk4.newSt hb5 hk5;have k05:=k03.tr k35;have h1:=h1.kp k35 (by simp);have h5:Bk w5.heap b5 [iV x.kind,w1e,w2e,w3e,w4e,w5e,w6e] 37:=h5;refine ldN [iV B.vars,.slice ao B.orders.length co,.slice _ B.ents.length _,iV B.nat,.slice ap B.prims.length cp] rfl (bZ h1) ?_;refine ldN [iV x.kind,w1e,w2e,w3e,w4e,w5e,w6e] rfl (bZ h5) ?_;refine ab' (oC' (known:=i) (hS.tr k05) (fun b o v h=>KZ (hold b o v h) k05.size) ⟨_,_,_,rfl,hO,hE,hP,by omega⟩ ⟨w1e,w2e,w3e,w4e,w5e,w6e,rfl,hso,hpa,hin,hct,hty,hbo⟩) ?_;rintro e w6 ⟨rfl,hk6⟩;refine ac' (fun g3=>?_) (fun g3=>?_)
  ·have g3:bF' B i x ≠ 0:=g3
   have e:bx' (bF' B i x) (bt' B (B.ents.drop (i + 1)) (i + 1)) = bF' B i x:=by unfold bx'; rw [if_pos g3]
   rw [e] at hres;have e:bx' (bF' B i x) (if oB' B = true then 0 else 22) = bF' B i x:=by unfold bx'; rw [if_pos g3]
   rw [e] at hres;subst hres;exact ⟨rfl,k05.tr hk6⟩
  ·have g3:¬ bF' B i x ≠ 0:=g3
   have e:bx' (bF' B i x) (bt' B (B.ents.drop (i + 1)) (i + 1)) = bt' B (B.ents.drop (i + 1)) (i + 1):=by unfold bx'; rw [if_neg g3]
   rw [e] at hres;refine i6 ?_;exact ⟨i + 1,by omega,rfl,⟨rfl,rfl,rfl,rfl,trivial⟩,by omega,h1.kp hk6 (by simp),k05.tr hk6,hres⟩
 ·have g:¬ (i:Int) < (B.ents.length:Int):=g
  rw [JY (by omega)] at hres;have e:bx' (bt' B [] i) (if oB' B = true then 0 else 22) = if oB' B = true then 0 else 22:=by unfold bx' bt'; rw [if_neg (by simp)]
  rw [e] at hres;refine ldN [iV B.vars,.slice ao B.orders.length co,.slice ae B.ents.length ce,iV B.nat,.slice ap B.prims.length cp] rfl (bZ h1) ?_;refine ab' (kf' (hS.tr k03) hvb') ?_;rintro e w4 ⟨rfl,hk4⟩;cases hg:oB' B with
  | true =>
   rw [hg] at hres;simp only [if_true] at hres;subst hres;exact ⟨rfl,k03.tr hk4⟩
  | false =>
   rw [hg] at hres;simp only [Bool.false_eq_true,if_false] at hres;subst hres;exact ⟨rfl,k03.tr hk4⟩
end
def Fue {α:Type} (F:Nat -> Except Int (α × Nat)):Prop:=∀ n a n',n <= 100000 -> F n = .ok (a,n') -> n' <= n /\ ∀ m,m <= 100000 -> (n - n' <= m -> F m = .ok (a,m - (n - n'))) /\ (m < n - n' -> F m = .error 10)
theorem bm' {α:Type} {e:Int}:Fue (α:=α) fun _=>.error e:=fun n a n' hn h=>by cases h
theorem aA' {α:Type} {a:α}:Fue fun n=>.ok (a,n):=fun n b n' hn h=>by
 injection h with h
 injection h with h1 h2
 subst h1 h2;exact ⟨KJ _,fun m hm=>⟨fun _=>by simp,fun h=>by omega⟩⟩
theorem fD' {α:Type} {r:Except Int α}:Fue fun n=>puJ r n:=by
 cases r with
 | error e=>exact bm'
 | ok a=>exact aA'
theorem ay' {α β:Type} {F:Nat -> Except Int (α × Nat)} {K:α -> Nat -> Except Int (β × Nat)} (hF:Fue F) (hK:∀ a,Fue (K a)):Fue fun n=>bdJ (F n) K:=fun n b n' hn h=>by
 obtain ⟨⟨a,n1⟩,h1,h2⟩:=an' h;obtain ⟨l1,f1⟩:=hF n a n1 hn h1;obtain ⟨l2,f2⟩:=hK a n1 b n' (by omega) h2;refine ⟨by omega,fun m hm=>?_⟩;obtain ⟨p1,p2⟩:=f1 m hm;constructor
 ·intro hu
  simp only;rw [p1 (by omega),bN'];have:=(f2 (m - (n - n1)) (by omega)).1 (by omega);simp only;rw [this]
  congr 2
  omega
 ·intro hu
  simp only
  by_cases hq:m < n - n1
  ·rw [p2 hq]
   rfl
  ·rw [p1 (by omega),bN']
   exact (f2 (m - (n - n1)) (by omega)).2 (by omega)
theorem nK' {α:Type} {F:Nat -> Except Int (α × Nat)} (hF:Fue F):Fue fun n=>if n = 0 then .error 10 else F (n - 1):=fun n a n' hn h=>by
 simp only at h;split at h
 ·cases h
 rename_i g;obtain ⟨l1,f1⟩:=hF (n - 1) a n' (by omega) h;refine ⟨by omega,fun m hm=>⟨fun hu=>?_,fun hu=>?_⟩⟩
 ·simp only
  rw [if_neg (by omega),(f1 (m - 1) (by omega)).1 (by omega)]
  congr 2
  omega
 ·simp only
  split
  ·rfl
  ·exact (f1 (m - 1) (by omega)).2 (by omega)
theorem am' {α:Type} {c:Prop} [Decidable c] {F G:Nat -> Except Int (α × Nat)} (hF:Fue F) (hG:Fue G):Fue fun n=>if c then F n else G n:=by
 by_cases h:c
 ·simpa [h] using hF
 ·simpa [h] using hG
theorem aY' {α:Type} {F G:Nat -> Except Int (α × Nat)} (h:∀ n,F n = G n) (hG:Fue G):Fue F:=by
 have:F = G:=funext h;rw [this];exact hG
theorem ep' {α:Type} {F:Nat -> Except Int (α × Nat)} (hF:Fue F):Fue fun n=>F (aX' (n:Int)):=fun n a n' hn h=>by
 have e:∀ m:Nat,m <= 100000 -> aX' (m:Int) = m:=fun m hm=>by unfold aX'; omega
 simp only at h;rw [e n hn] at h;obtain ⟨l1,f1⟩:=hF n a n' hn h;exact ⟨l1,fun m hm=>by simp only; rw [e m hm]; exact f1 m hm⟩
theorem uU' (m:Except Int (Bool × Nat)) (k:Nat -> Except Int (Bool × Nat)):fe' m k = bdJ m fun b n=>if b = true then k n else .ok (false,n):=by
 cases m with
 | error e=>rfl
 | ok q=>rfl
theorem fW' {F:Nat -> Except Int (Bool × Nat)} {K:Nat -> Except Int (Bool × Nat)} (hF:Fue F) (hK:Fue K):Fue fun n=>fe' (F n) K :=
 aY' (fun n=>uU' _ _) (ay' hF fun b=>am' hK aA')
section
variable {B:BoT}
theorem ls' (cx:Ctx):∀ (g:Nat) (x:Tr) (room:Int),Fue (whnfG B cx g x room)
 | 0,x,room=>bm'
 | g + 1,x,room=>by
  have ih:=ls' cx g;have hpre:Fue (preW (whnfG B cx g) x room):=by
   unfold preW;cases hp:eM' x with
   | none=>exact aA'
   | some p =>
    exact aY' (G:=fun n=>bdJ (whnfG B cx g p (room - len x + len p) n) fun z n=>.ok (ed' x z,n)) (fun n=>by
     simp only;cases whnfG B cx g p (room - len x + len p) n <;> rfl) (ay' (ih _ _) fun a=>aA')
  have hpost:∀ z,Fue fun n=>fx' B cx (whnfG B cx g) room (z,n):=fun z=>by
   unfold fx';simp only;refine am' ?_ aA';refine aY' (G:=fun n=>if n = 0 then .error 10 else (fun n=>match ownM B cx z with
    | .error e=>.error e
    | .ok y=>if room < len y then .error 9 else whnfG B cx g y room n) (n - 1)) (fun n=>rfl) (nK' (F:=fun n=>match ownM B cx z with
    | .error e=>.error e
    | .ok y=>if room < len y then .error 9 else whnfG B cx g y room n) ?_)
   cases ownM B cx z with
   | error e=>exact bm'
   | ok y=>exact am' bm' (ih _ _)
  refine aY' (G:=fun n=>bdJ (preW (whnfG B cx g) x room n) fun z n=>fx' B cx (whnfG B cx g) room (z,n)) (fun n=>?_) (ay' hpre hpost);simp only [whnfG];cases preW (whnfG B cx g) x room n <;> rfl
theorem eZ' (cx:Ctx) (x:Tr):Fue fun n=>whnfTop B cx x (n:Int):=ep' (ls' cx GW x 4096)
abbrev wu' (rc:RcC):Prop:=∀ cx x y u,Fue (rc cx x y u)
theorem kg' {rc:RcC} (hr:wu' rc) (cx:Ctx):∀ (xs ys:List Tr),Fue (ix' rc cx xs ys)
 | x :: r,y :: s=>aY' (fun n=>rfl) (fW' (hr cx x y false) (kg' hr cx r s))
 | [],ys=>aY' (G:=fun n=>.ok (true,n)) (fun n=>by simp [ix']) aA'
 | x :: r,[]=>aY' (G:=fun n=>.ok (true,n)) (fun n=>by simp [ix']) aA'
theorem nL' {rc:RcC} (hr:wu' rc) (cx cx':Ctx):∀ (xs ys:List Tr),Fue (fR' rc cx cx' xs ys)
 | x :: a :: r,y :: b :: s=>aY' (fun n=>rfl) (fW' (hr cx x y false) (fW' (hr cx' a b false) (nL' hr cx cx' r s)))
 | [],ys=>aY' (G:=fun n=>.ok (true,n)) (fun n=>by simp [fR']) aA'
 | [x],ys=>aY' (G:=fun n=>.ok (true,n)) (fun n=>by simp [fR']) aA'
 | x :: a :: r,[]=>aY' (G:=fun n=>.ok (true,n)) (fun n=>by simp [fR']) aA'
 | x :: a :: r,[y]=>aY' (G:=fun n=>.ok (true,n)) (fun n=>by simp [fR']) aA'
theorem oE' {rc:RcC} (hr:wu' rc) (cx:Ctx) (f h:Tr) (u:Bool):Fue (de' B rc cx f h u):=by
 unfold de';refine am' aA' (am' (fW' (hr _ _ _ _) (hr _ _ _ _)) (am' (fW' (hr _ _ _ _) (hr _ _ _ _)) (am' (am' ?_ aA') (am' (kg' hr _ _ _) aA'))));unfold gf';exact am' (nL' hr _ _ _ _) aA'
theorem qS' {rc:RcC} (hr:wu' rc) (cx:Ctx) (x y:Tr) (u:Bool):Fue (jW' B rc cx x y u):=by
 unfold jW';exact am' aA' (fW' (oE' hr _ _ _ _) (kg' hr _ _ _))
theorem nM':∀ (g:Nat),wu' (kY' B g)
 | 0=>fun cx x y u=>bm'
 | g + 1=>fun cx x y u=>by
  have ih:=nM' g;obtain ⟨H,hH⟩:∃ H:Nat -> Except Int (Bool × Nat),H = fun (n:Nat)=>if row x = row y then .ok (true,n) else if 256 < cx.length then .error 5 else bdJ (whnfTop B cx x (n:Int)) fun p n=>bdJ (whnfTop B cx y (n:Int)) fun q n=>jW' B (kY' B g) cx p q u n:=⟨_,rfl⟩
  have hf:Fue H:=by
   rw [hH];exact am' aA' (am' bm' (ay' (eZ' cx x) fun p=>ay' (eZ' cx y) fun q=>qS' ih cx p q u))
  refine aY' (G:=fun n=>if n = 0 then .error 10 else H (n - 1)) (fun n=>?_) (nK' hf);simp only [kY',hH]
  congr 1
  congr 1
  congr 1
  cases whnfTop B cx x ((n - 1:Nat):Int) with
  | error e=>rfl
  | ok p =>
   simp only [bN'];cases whnfTop B cx y (p.2:Int) <;> rfl
theorem eq' (cx:Ctx) (t:Tr):Fue (eg' B cx t):=am' bm' (eZ' cx t)
theorem lt' (cx:Ctx) (x y:Tr) (u:Bool):Fue (dv' B cx x y u):=am' bm' (ep' (nM' GC cx x y u))
abbrev RjFu (rc:RcJ):Prop:=∀ cx t,Fue (rc cx t)
variable {rc:RcJ} (hr:RjFu rc)
include hr
theorem cT' (cx:Ctx) (t:Tr):Fue (dJ' B rc cx t):=ay' (hr cx t) fun ty=>ay' (eq' cx ty) fun z=>am' bm' aA'
theorem dw' (cx:Ctx) (t ty:Tr):Fue (ct' B rc cx t ty):=ay' (hr cx t) fun z=>ay' (lt' cx z ty true) fun b=>am' aA' bm'
omit hr in
theorem lu' (a:Int) (ps:List Tr) (ni:Nat):∀ (k i:Nat) (cx:Ctx) (m:Tr),Fue (gw' B a ps ni k i cx m)
 | 0,i,cx,m=>ay' (eq' cx m) fun f=>am' bm' aA'
 | k + 1,i,cx,m=>ay' (eq' cx m) fun f=>am' bm' (ay' fD' fun w=>ay' (lt' cx _ w false) fun b=>am' (lu' a ps ni k (i + 1) _ _) bm')
theorem lv':∀ (l:List Tr) (cx:Ctx),Fue (ie' B rc cx l)
 | [],cx=>aA'
 | a :: r,cx=>ay' (cT' hr cx a) fun q=>am' aA' (lv' r _)
theorem mA' (a:Int):Fue (cC' B rc a):=am' aA' (am' aA' (lv' hr _ _))
theorem fE' (cx:Ctx) (a:Int) (ps:List Tr) (mo:Tr):∀ (l:List Tr) (k:Nat),Fue (aD' B rc cx a ps mo k l)
 | [],k=>aA'
 | b :: r,k=>ay' fD' fun ty=>ay' (dw' hr cx b ty) fun _=>fE' cx a ps mo r (k + 1)
theorem oF' (cx:Ctx) (nd:Nd) (ks:List Tr):Fue (dT' B rc cx nd ks):=by
 unfold dT';simp only;exact ay' (hr cx _) fun ty=>ay' (eq' cx ty) fun z=>am' bm' (am' bm' (ay' (hr cx _) fun mt=>ay' (lu' _ _ _ _ _ _ _) fun kind=>ay' (am' (mA' hr _) aA') fun s=>am' bm' (ay' (fE' hr cx _ _ _ _ _) fun _=>fD')))
theorem jl' (cx:Ctx) (t:Tr):∀ (k i:Nat),Fue (eh' B rc cx t k i)
 | 0,i=>aA'
 | k + 1,i=>ay' (cT' hr cx _) fun _=>jl' cx t k (i + 1)
theorem iq' (cx:Ctx) (t:Tr) (nb:Nat):∀ (k i:Nat),Fue (cD' B rc cx t nb k i)
 | 0,i=>aA'
 | k + 1,i=>ay' (dw' hr cx _ _) fun _=>iq' cx t nb k (i + 1)
theorem sR' (cx:Ctx) (t:Tr):Fue (sw' B rc cx t):=ay' (jl' hr cx t _ _) fun _=>am' bm' (ay' (iq' hr _ t _ _ _) fun _=>aA')
theorem oG' (cx:Ctx) (t:Tr):Fue (dg' B rc cx t):=by
 unfold dg';refine am' aA' (am' ?_ (am' aA' (am' fD' (am' fD' (am' ?_ (am' ?_ (am' ?_ (am' ?_ (am' (oF' hr cx _ _) (sR' hr cx t))))))))))
 ·exact am' bm' aA'
 ·exact ay' (cT' hr cx _) fun p=>ay' (cT' hr _ _) fun q=>am' bm' aA'
 ·exact ay' (cT' hr cx _) fun p=>ay' (hr _ _) fun q=>fD'
 ·exact ay' (hr cx _) fun ty=>ay' (eq' cx ty) fun z=>am' bm' (ay' (dw' hr cx _ _) fun _=>fD')
 ·exact ay' (cT' hr cx _) fun p=>ay' (dw' hr cx _ _) fun _=>ay' (hr _ _) fun z=>fD'
omit hr in
theorem eI':∀ (g:Nat),RjFu (bL' B g)
 | 0=>fun cx t=>bm'
 | g + 1=>fun cx t=>oG' (eI' g) cx t
end
def cU' (t:List Nd) (e:Int):Bool:=t.any fun m=>decide (m.op = 9 /\ m.a = e)
def nN' (e ar:Int) (np:Nat):List Tr -> Nat -> Bool
 | [],_=>true
 | a :: r,i=>if (i < np /\ row a ≠ [⟨1,ar - 1 - (i:Int),0⟩]) \/ cU' (row a) e = true then false else nN' e ar np r (i + 1)
def mB' (np ni:Nat) (e ar:Int) (x:Tr):Bool:=if row (headT x) ≠ [⟨9,e,0⟩] \/ (argsT x).length ≠ np + ni then false else nN' e ar np (argsT x) 0
def lw' (np ni:Nat) (e:Int):Nat -> Tr -> Int -> Bool
 | 0,_,_=>false
 | g + 1,x,ar=>if x.n.op = 4 then (if cU' (row (kidD x 0)) e = true then false else lw' np ni e g (kidD x 1) (ar + 1)) else mB' np ni e ar x
def iB' (np ni:Nat) (e:Int) (x:Tr) (ar:Int):Bool:=if cU' (row x) e = false then true else lw' np ni e (row x).length x ar
def et' (np ni:Nat) (e:Int):List Tr -> Nat -> Bool
 | [],_=>true
 | a :: r,i=>if iB' np ni e a ((np + i:Nat):Int) = false then false else et' np ni e r (i + 1)
def fa' (np ni:Nat) (e:Int) (c:CtT):Bool:=if et' np ni e (c.args.map tr) 0 = false then false else !(c.out.any fun t=>cU' t e)
def sS' (np ni:Nat) (e:Int):List CtT -> Bool
 | []=>true
 | c :: r=>if fa' np ni e c = false then false else sS' np ni e r
def posM (B:BoT) (e:Int):Bool:=sS' (entD B e).params.length (entD B e).indices.length e (entD B e).ctors
def bd' (B:BoT) (e:Int):Int:=if aJ' B ≠ 0 then aJ' B else if e < 0 then 1 else if (B.ents.length:Int) <= e then 1 else if (entD B e).kind ≠ 1 then 1 else 0
def iC' (B:BoT):List Tr -> Ctx -> Nat -> Except Int (Ctx × Nat)
 | [],cx,n=>.ok (cx,n)
 | x :: r,cx,n=>bdJ (bZ' B cx x (n:Int)) fun _ n=>iC' B r (cx ++ [(x,none)]) n
def fb' (B:BoT) (e:Int):List Tr -> Ctx -> Nat -> Except Int (Ctx × Nat)
 | [],cx,n=>.ok (cx,n)
 | a :: r,cx,n=>bdJ (bZ' B cx a (n:Int)) fun l n=>if dR' B.vars B.orders l.2 (cH' (tr (entD B e).sort)) = false then .error 21
   else if iB' (entD B e).params.length (entD B e).indices.length e a (cx.length:Int) = false then .error 20 else fb' B e r (cx ++ [(a,none)]) n
def gn' (go:List Tr):Nat -> Tr -> Except Int Tr
 | 0,t=>.ok t
 | i + 1,t=>(az' t (ax' (go.getD i (varX 0)) (i:Int) 0) 0).bind (gn' go i)
def mC' (qi go:List Tr) (na j:Nat):Except Int Tr:=gn' go j (ax' (qi.getD j (varX 0)) (na:Int) (j:Int))
def mD' (B:BoT) (e:Int) (go:List Tr) (na:Nat) (cx:Ctx):List Tr -> Nat -> Nat -> Except Int (Unit × Nat)
 | [],_,n=>.ok ((),n)
 | o :: r,j,n=>if cU' (row o) e = true then .error 20 else bdJ (puJ (mC' (qiM B e) go na j) n) fun want n=>bdJ (bO' B cx o want (n:Int)) fun _ n=>mD' B e go na cx r (j + 1) n
def bU' (B:BoT) (e:Int) (cp:Ctx):List CtT -> Nat -> Except Int (Unit × Nat)
 | [],n=>.ok ((),n)
 | c :: r,n=>bdJ (fb' B e (c.args.map tr) cp n) fun cx n=>bdJ (mD' B e (c.out.map tr) c.args.length cx (c.out.map tr) 0 n) fun _ n=>bU' B e cp r n
def vG' (B:BoT) (e:Int) (n:Nat):Except Int (Unit × Nat) :=
 bdJ (ek' B [] (tr (entD B e).sort) (n:Int)) fun _ n=>bdJ (iC' B (psM B e) [] n) fun cp n=>bdJ (iC' B (qiM B e) cp n) fun _ n=>bU' B e cp (entD B e).ctors n
def dx' (B:BoT) (e:Int) (fuel:Int):Except Int (Unit × Nat):=if bd' B e ≠ 0 then .error (bd' B e) else vG' B e (aX' fuel)
theorem qT' {B:BoT}:∀ (l:List Tr) (cx:Ctx) (n:Nat) (q:Ctx × Nat),iC' B l cx n = .ok q -> q.1 = cx ++ l.map fun x=>(x,none)
 | [],cx,n,q,h=>by cases h; simp
 | x :: r,cx,n,q,h=>by
  obtain ⟨p,_,h⟩:=an' h;rw [qT' r _ _ _ h];simp
theorem nO' {B:BoT} {e:Int}:∀ (l:List Tr) (cx:Ctx) (n:Nat) (q:Ctx × Nat),fb' B e l cx n = .ok q -> q.1 = cx ++ l.map fun x=>(x,none)
 | [],cx,n,q,h=>by cases h; simp
 | a :: r,cx,n,q,h=>by
  obtain ⟨p,_,h⟩:=an' h;split at h
  ·cases h
  split at h
  ·cases h
  rw [nO' r _ _ _ h];simp
theorem nP' {B:BoT} {e:Int} (h:bd' B e = 0):aJ' B = 0 /\ GoodB B /\ 0 <= e /\ e < B.ents.length /\ B.ents[e.toNat]? = some (entD B e) /\ ∃ s ps qi,GoodF B e.toNat (entD B e) s ps qi:=by
 unfold bd' at h;split at h
 ·rename_i g; exact absurd h g
 rename_i g0;split at h
 ·cases h
 split at h
 ·cases h
 split at h
 ·cases h
 rename_i g1 g2 g3;have hB:=jk' (Decidable.not_not.1 g0);have hx:B.ents[e.toNat]? = some (entD B e):=by
  unfold entD;rw [List.getD_eq_getElem?_getD];have:e.toNat < B.ents.length:=by omega
  simp [this]
 refine ⟨Decidable.not_not.1 g0,hB,by omega,by omega,hx,?_⟩;rcases hB.ent _ _ hx with h | ⟨ty,bo,h⟩
 ·exact h
 ·have:=h.kind
  omega
theorem dy' {l:List (List Nd)} {ys:List Tr} (h:l = ys.map row) (hy:∀ y ∈ ys,Ok .tm y):l.map tr = ys:=by
 subst h;rw [List.map_map];have:∀ y ∈ ys,(tr ∘ row) y = y:=fun y hm=>eb' (hy y hm);exact (List.map_congr_left this).trans (List.map_id' ys)
theorem ir' (B:BoT) (cx:Ctx) (x:Tr):Fue fun n=>bZ' B cx x (n:Int):=ep' (cT' (eI' GJ) cx x)
theorem lx' (B:BoT) (cx:Ctx) (x y:Tr):Fue fun n=>bO' B cx x y (n:Int):=ep' (dw' (eI' GJ) cx x y)
theorem kh' (B:BoT):∀ (l:List Tr) (cx:Ctx),Fue (iC' B l cx)
 | [],cx=>aA'
 | x :: r,cx=>ay' (ir' B cx x) fun _=>kh' B r _
theorem ly' (B:BoT) (e:Int):∀ (l:List Tr) (cx:Ctx),Fue (fb' B e l cx)
 | [],cx=>aA'
 | x :: r,cx=>ay' (ir' B cx x) fun _=>am' bm' (am' bm' (ly' B e r _))
theorem nQ' (B:BoT) (e:Int) (go:List Tr) (na:Nat) (cx:Ctx):∀ (l:List Tr) (j:Nat),Fue (mD' B e go na cx l j)
 | [],j=>aA'
 | o :: r,j=>am' bm' (ay' fD' fun want=>ay' (lx' B cx o want) fun _=>nQ' B e go na cx r _)
theorem fX' (B:BoT) (e:Int) (cp:Ctx):∀ (l:List CtT),Fue (bU' B e cp l)
 | []=>aA'
 | c :: r=>ay' (ly' B e _ cp) fun cx=>ay' (nQ' B e _ _ cx _ 0) fun _=>fX' B e cp r
end Go.Proofs.YtbnhfnfgabkelaaGreat
