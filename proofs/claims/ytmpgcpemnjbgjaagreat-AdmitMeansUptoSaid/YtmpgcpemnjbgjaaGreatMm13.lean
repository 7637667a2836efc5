import Derived.Test.YtmpgcpemnjbgjaaGreatMm12
set_option linter.unusedVariables false
set_option linter.unusedSimpArgs false
set_option maxRecDepth 100000
set_option maxHeartbeats 4000000
namespace Go.Proofs.YtmpgcpemnjbgjaaGreat
open Go.Wx Cd Tm Lv
theorem CxOk.app {B:BoT} {c mo:Ctx} (h:CxOk B c) (hm:∀ (i:Nat) q,mo[i]? = some q -> Ft (QB B) ((c.length + i:Nat):Int) q.1 /\ ∀ x,q.2 = some x -> Ft (QB B) ((c.length + i:Nat):Int) x):CxOk B (c ++ mo):=fun i q hq=>by
 by_cases hi:i < c.length
 ·rw [List.getElem?_append_left hi] at hq
  exact h i q hq
 ·rw [List.getElem?_append_right (by omega)] at hq
  have:=hm _ q hq
  rwa [show c.length + (i - c.length) = i by omega] at this
theorem cW' {Q:Nd -> Prop} {N:Int} {x:Tr} (h:Ft Q N x) (h12:x.n.op = 12) {i:Nat} (hi:i < x.n.b.toNat) :
  (kidsT x)[2 * i]? = some (kidD x (2 * i)) /\ (kidsT x)[2 * i + 1]? = some (kidD x (2 * i + 1)) /\ Ft Q N (kidD x (2 * i)) /\ Ft Q (N + x.n.b) (kidD x (2 * i + 1)):=by
 have hk:=cL' h.ok h12;obtain ⟨h1,h2⟩:=h.kidD (k:=2 * i) (by omega);obtain ⟨h3,h4⟩:=h.kidD (k:=2 * i + 1) (by omega);have e1:kb x.n (2 * i) = 0:=by unfold kb; rw [if_pos h12,if_neg (by omega)]
 have e2:kb x.n (2 * i + 1) = x.n.b:=by unfold kb; rw [if_pos h12,if_pos (by omega)]
 rw [e1,Int.add_zero] at h2;rw [e2] at h4;exact ⟨h1,h3,h2,h4⟩
theorem fp' {f:Tr} {i:Nat} (hi:i < f.n.b.toNat):(aQ' f)[i]? = some (au' (kidD f (2 * i)) i 0,none):=by
 unfold aQ';rw [List.getElem?_map,List.getElem?_range hi]
 rfl
theorem bP' (f:Tr):(aQ' f).length = f.n.b.toNat:=by simp [aQ']
theorem ky' {B:BoT} {cx:Ctx} {f:Tr} (h:CxOk B cx) (hN:cx.length <= 90000) (hf:Ft (QB B) (cx.length:Int) f) (h12:f.n.op = 12):CxOk B (cx ++ aQ' f):=by
 have hl:=br' hf.ok h12;refine h.app fun i q hq=>?_;have hi:=ai' hq;rw [bP'] at hi;rw [fp' hi] at hq;obtain rfl:=Option.some.inj hq;obtain ⟨_,_,h3,_⟩:=cW' hf h12 hi;have:=h3.lift (qk B) (b:=(i:Int)) (by omega) (by omega) (by omega);exact ⟨by simpa using this,fun x hx=>by cases hx⟩
section
variable {B:BoT} {g:Nat} {rc:RcC} {cx:Ctx} {X:List Nat} {w:World} {bj:Nat} {n:Nat}
theorem rA' (hrc:pz' B g rc) (hle:sr' rc) (hX:XL X w) (hbj:bj ∈ X) (hcx:CxOk B cx) (hcl:cx.length <= 256) (hJ:CmpC (Im X w) w bj B cx n 0) (hn:n <= g) (hn1:n <= 100000) {f h:Tr} (hf:Ft (QB B) (cx.length:Int) f) (hh:Ft (QB B) (cx.length:Int) h) (f12:f.n.op = 12) (hfh:f.n = h.n)
  {vf vh va vb:Value} (hvf:TmV (Im X w) f vf) (hvh:TmV (Im X w) h vh) (hva:TmsV (Im X w) (kidsT f) va) (hvb:TmsV (Im X w) (kidsT h) vb) :
  CC 223 #[pt bj,vf,vh,va,vb] w (uj' X w bj B cx (ih' rc cx f h n)):=by
 refine oF Tryz.func223 ?_;obtain ⟨RES,hRES⟩:∃ r,ih' rc cx f h n = r:=⟨_,rfl⟩
 rw [hRES];unfold ih' at hRES;have h12:h.n.op = 12:=by rw [<- hfh]; exact f12
 have hl:=br' hf.ok f12;have hkf:=cL' hf.ok f12;have hkh:=cL' hh.ok h12;rw [<- hfh] at hkh;obtain ⟨nb,hnb⟩:∃ nb:Nat,f.n.b = (nb:Int):=⟨f.n.b.toNat,by omega⟩
 have hnb':f.n.b.toNat = nb:=by omega
 have hva':=hva;have hvb':=hvb;obtain ⟨aa,ca,rfl,_,_⟩:=hva;obtain ⟨ab,cb,rfl,_,_⟩:=hvb;have hvf':=hvf;have hvh':=hvh;obtain ⟨af,cf,rfl,_,_⟩:=hvf;obtain ⟨ah,ch,rfl,_,_⟩:=hvh;have hcx':=ky' hcx (by omega) hf f12;have hcl':(cx ++ aQ' f).length <= 260:=by rw [List.length_append,bP']; omega
 have hcl'':(cx ++ aQ' f).length = cx.length + nb:=by rw [List.length_append,bP']; omega
 refine cO (args:=[_,_,_,_,_]) 76 [.tmp 10] τok Tryz.func223 ?_;refine ab' (kw' (Im.sub X w) hf f12 hvf') ?_;rintro e w1 ⟨ap,cp,rfl,hp1,hk1⟩;have tr1:∀ b o v,Im X w b o v -> Im X w1 b o v:=fun b o v h=>h.tr hk1;refine ab' (kw' (Im.sub X w1) hh h12 (hvh'.mono tr1)) ?_;rintro e w2 ⟨aq,cq,rfl,hq1,hk2⟩;have k02:=hk1.tr hk2;refine ab' (pr' (C:=New w.heap.size w2) (D:=New w1.heap.size w2) (New.sub _ _) (New.sub _ _) (placesM f) (placesM h) ap aq cp cq (hp1.mono fun b o v h=>⟨h.1,h.2.kp hk2 (by simp)⟩) hq1) ?_;rintro e w3 ⟨rfl,hk3⟩;have k03:=k02.tr hk3;have up0:∀ b o v,Im X w b o v -> Im X w3 b o v:=fun b o v h=>h.tr k03;have hJ3:CmpC (Im X w3) w3 bj B cx n 0:=(hJ.mono up0).kp k03 (by simp);have kw:∀ {w'},Kp [] w w' -> Kp [bj] w w':=fun k=>k.weak (by simp);refine cS' (fun g1=>?_) (fun g1=>?_);rotate_left
 ·have g1:¬ placesM f = placesM h:=g1
  rw [if_neg g1] at hRES;subst hRES;exact ⟨⟨rfl,hJ3⟩,kw k03⟩
 have g1:placesM f = placesM h:=g1;rw [if_pos g1] at hRES;have hX3:=xU hX k03;refine lp τok (σ:=Nat × Value) (fun q=>[(0,pt bj),(3,.slice aa (kidsT f).length ca),(4,.slice ab (kidsT h).length cb),(11,q.2),(12,iV ((2 * q.1:Nat):Int))])
  (fun q w'=>q.1 <= nb /\ Own rBd 142 w3.heap.size w' q.2 (((aQ' f).map bdR).take q.1) /\ Kp [] w3 w') (fun q=>nb - q.1) (0,.slice none 0 0) rfl
  ⟨rfl,rfl,rfl,rfl,rfl,trivial⟩ ⟨Nat.zero_le _,Own.nil _ _ (Nat.le_refl _),Kp.refl _ _⟩ ?_
 rintro ⟨i,v1⟩ w4 ⟨hi,hO,hk4⟩;simp only at hi hO;have k04:=k03.tr hk4;refine ac' (fun g2=>?_) (fun g2=>?_)
 ·have g2:((2 * i:Nat):Int) < (kidsT f).length:=g2
  have hi2:i < nb:=by omega
  obtain ⟨e1,e2,h1,h2⟩:=cW' hf f12 (i:=i) (by omega);have tr4:∀ b o v,Im X w b o v -> Im X w4 b o v:=fun b o v h=>h.tr k04;obtain ⟨bk,ok,ck,e3,z,hz,hzT⟩:=(hva'.mono tr4).get e1;injection e3 with q1 q2 q3
  subst q1 q3;refine ix (2 * i) rfl (by omega) ?_;refine ldC (Im.sub X w4) hz ?_;refine vB' (by omega) (by omega) (by omega) ?_;have hq:((2 * i:Nat):Int) / 2 = (i:Int):=by omega
  rw [hq];refine ab' (dG' (Im.sub X w4) (fun _ _ _ h=>h.hold) h1 (by omega) hzT (b:=(i:Int)) (by omega)) ?_;rintro e w5 ⟨u5,rfl,hT5,hk5⟩;obtain ⟨t,ht⟩:∃ t,au' (kidD f (2 * i)) i 0 = t:=⟨_,rfl⟩
  rw [ht] at hT5;have hu5:=hT5;obtain ⟨a5,c5,rfl,hT5',hT5c⟩:=hu5;refine fill [.slice a5 (row t).length c5,.slice none 0 0] rfl ?_;refine new fun b6 w6 hb6 h6 hs6 hk6=>?_;have hO6:=(hO.kp hk5).kp hk6;have hty:((aQ' f).map bdR)[i]? = some (row t,[]):=by rw [List.getElem?_map,fp' (by omega),ht]; rfl
  have hll:(((aQ' f).map bdR).take i).length = i:=by
   rw [List.length_take,List.length_map,bP'];omega
  refine hO6.ap1 τok rfl rfl (by decide) (row t,[]) [.slice a5 (row t).length c5,.slice none 0 0] ⟨_,_,rfl,⟨a5,c5,rfl,hT5'.mono (us' hO hk6),hT5c⟩,SV.nil _ _⟩ (bZ h6) (by rw [hll]; omega) (by rw [hll]; unfold maxLen; omega) fun v7 w7 hO7 hk7 _=>?_;refine i6 ?_;refine ⟨(i + 1,v7),by simp only; omega,rfl,⟨rfl,rfl,rfl,rfl,?_,trivial⟩,by show i + 1 <= _; omega,?_,((hk4.tr hk5).tr hk6).own hk7 hO6⟩
  ·show some (iV _) = some (iV ((2 * (i + 1):Nat):Int))
   congr 3
  ·rw [al' hty]
   exact hO7
 have g2:¬ ((2 * i:Nat):Int) < (kidsT f).length:=g2;have hi3:i = nb:=by omega
 subst hi3;have hbl:((aQ' f).map bdR).length = i:=by rw [List.length_map,bP',hnb']
 rw [List.take_of_length_le (by omega)] at hO;have hX4:=xU hX k04;have hty:SV rBd (Im X w4) ((aQ' f).map bdR) v1:=by
  obtain ⟨a,c,rfl,hc⟩:=hO.cap;obtain ⟨a',c',e,hs⟩:=hO.den (by omega);injection e with q1 q2 q3
  subst q1 q3;exact ⟨a,c,rfl,hs.mono fun _ _ _ h=>Im.of_new hX3 h,hc⟩
 have hJ4:CmpC (Im X w4) w4 bj B cx n 0:=(hJ3.mono fun _ _ _ h=>h.tr hk4).kp hk4 (by simp);have tr4:∀ b o v,Im X w b o v -> Im X w4 b o v:=fun b o v h=>h.tr k04;have hva4:=hva'.mono tr4;have hvb4:=hvb'.mono tr4
 clear hva' hvb' hO
 refine lp τok (σ:=Nat × Nat) (fun q=>[(0,pt bj),(3,.slice aa (kidsT f).length ca),(4,.slice ab (kidsT h).length cb),(11,v1),(15,iV ((2 * q.1:Nat):Int))])
  (fun q w'=>q.1 <= i /\ q.2 <= n /\ CmpC (Im X w') w' bj B cx q.2 0 /\ Kp [bj] w4 w' /\ lF' rc cx (cx ++ aQ' f) ((kidsT f).drop (2 * q.1)) ((kidsT h).drop (2 * q.1)) q.2 = RES) (fun q=>i - q.1) (0,n) rfl
  ⟨rfl,rfl,rfl,rfl,rfl,trivial⟩ ⟨Nat.zero_le _,Nat.le_refl _,hJ4,Kp.refl _ _,hRES⟩ ?_
 rintro ⟨j,m⟩ w5 ⟨hj,hm,hJ5,hk5,hres⟩;simp only at hj hm hJ5 hres;have k05:Kp [bj] w w5:=(kw k04).tq hk5;refine ac' (fun g3=>?_) (fun g3=>?_)
 ·have g3:((2 * j:Nat):Int) < (kidsT f).length:=g3
  have hj2:j < i:=by omega
  obtain ⟨e1,e2,f1,f2⟩:=cW' hf f12 (i:=j) (by omega);obtain ⟨e3,e4,f3,f4⟩:=cW' hh h12 (i:=j) (by rw [<- hfh]; omega);rw [<- hfh] at f4;have hd1:(kidsT f).drop (2 * j) = kidD f (2 * j) :: kidD f (2 * j + 1) :: (kidsT f).drop (2 * (j + 1)):=by
   obtain ⟨x,hx,hd⟩:=af' (ai' e1);obtain ⟨y,hy,hd'⟩:=af' (ai' e2);rw [e1] at hx;rw [e2] at hy;obtain rfl:=Option.some.inj hx;obtain rfl:=Option.some.inj hy;rw [hd,hd']
   rfl
  have hd2:(kidsT h).drop (2 * j) = kidD h (2 * j) :: kidD h (2 * j + 1) :: (kidsT h).drop (2 * (j + 1)):=by
   obtain ⟨x,hx,hd⟩:=af' (ai' e3);obtain ⟨y,hy,hd'⟩:=af' (ai' e4);rw [e3] at hx;rw [e4] at hy;obtain rfl:=Option.some.inj hx;obtain rfl:=Option.some.inj hy;rw [hd,hd']
   rfl
  rw [hd1,hd2] at hres;simp only [lF'] at hres;have tr5:=Im.kb hk5 hbj;have hX5:=xU hX k05;obtain ⟨b1,o1,c1,p1,z1,hz1,hzT1⟩:=(hva4.mono tr5).get e1;obtain ⟨b2,o2,c2,p2,z2,hz2,hzT2⟩:=(hva4.mono tr5).get e2;obtain ⟨b3,o3,c3,p3,z3,hz3,hzT3⟩:=(hvb4.mono tr5).get e3;obtain ⟨b4,o4,c4,p4,z4,hz4,hzT4⟩:=(hvb4.mono tr5).get e4;injection p1 with q1 q2 q3
  subst q1 q3;injection p2 with q1 q2 q3
  injection q1 with q1
  injection q1 with q1 q4
  subst q1 q4;injection p3 with q1 q2 q3
  subst q1 q3;injection p4 with q1 q2 q3
  injection q1 with q1
  injection q1 with q1 q4
  subst q1 q4;obtain ⟨av1,cv1,rfl,hty1,hty2⟩:=id hty;refine am' τok (fun z=>Kp [bj] w5 z) ?_;refine rV τok (rg 0 9) 18 (mR 27 9) ((Kp.refl [bj] w5).dr _) ?_;refine ix (2 * j) rfl (by omega) ?_;refine ldI hbj hz1 ?_;refine ix (2 * j) rfl (by omega) ?_;refine ldI hbj hz3 ?_;refine nV τok 9 17 (mR 27 10) ?_;refine ab' (hrc X (dr w5) bj cx _ _ false m z1 z3 hX5 hbj hcx (by omega) hJ5 f1 f3 (by omega) (by omega) hzT1 hzT3) ?_;rintro e w6 ⟨he,hk6⟩;have hk6:Kp [bj] w5 w6:=hk6.rd;have k06:Kp [bj] w w6:=k05.tq hk6;cases hr:rc cx (kidD f (2 * j)) (kidD h (2 * j)) false m with
  | error er =>
   rw [hr] at he hres;obtain ⟨rfl,her,y,hJ6⟩:=he;refine ⟨.inl hk6,?_⟩;refine rV τok (rg 10 14) 3 (mR 27 24) hk6 ?_;refine nV τok 24 2 (mR 27 25) ?_;refine ⟨.inl hk6,?_⟩;refine rV τok [25,26] 0 (mR 27 27) hk6 ?_;refine dV ?_;simp only [fU'] at hres;subst hres;exact ⟨⟨rfl,her,y,hJ6⟩,k06⟩
  | ok q =>
   obtain ⟨b,m2⟩:=q;rw [hr] at he hres;obtain ⟨rfl,hJ6⟩:=he;have hm2:=hle _ _ _ _ _ _ hr;simp only at hm2 hJ6;refine ⟨.inl hk6,?_⟩;cases b with
   | false =>
    refine rV τok (rg 10 14) 3 (mR 27 24) hk6 ?_;refine nV τok 24 2 (mR 27 25) ?_;refine ⟨.inl hk6,?_⟩;refine rV τok [25,26] 0 (mR 27 27) hk6 ?_;refine dV ?_;simp only [fU'] at hres;rw [if_neg (by decide)] at hres;subst hres;exact ⟨⟨rfl,hJ6⟩,k06⟩
   | true =>
    simp only [fU',if_true] at hres;refine rV τok (rg 10 14) 3 (mR 27 24) hk6 ?_;refine i6 ?_;refine ix (2 * j + 1) (by omega) (by omega) ?_;refine ldI hbj hz2 ?_;refine i6 ?_;refine ix (2 * j + 1) (by omega) (by omega) ?_;refine ldI hbj hz4 ?_;have tr6:=Im.kb hk6 hbj;have hX6:=xU hX k06;have hN:cx.length + i = (cx ++ aQ' f).length:=by omega
    rw [hnb] at f2 f4;have f2':Ft (QB B) ((cx ++ aQ' f).length:Int) (kidD f (2 * j + 1)):=by rw [<- hN]; exact f2.mono (by omega)
    have f4':Ft (QB B) ((cx ++ aQ' f).length:Int) (kidD h (2 * j + 1)):=by rw [<- hN]; exact f4.mono (by omega)
    have hmo:0 < (aQ' f).length:=by rw [bP']; omega
    refine nV τok 24 2 (mR 27 25) ?_;refine ab' (gF' hrc hX6 hbj hJ6 (by omega) (by omega) hmo hcx' hcl' f2' f4' (hty.mono fun _ _ _ h=>tr6 _ _ _ (tr5 _ _ _ h)) (hzT2.mono tr6) (hzT4.mono tr6) false) ?_;rintro e w7 ⟨he,hk7⟩;have k57:Kp [bj] w5 w7:=hk6.tq hk7;have k07:Kp [bj] w w7:=k06.tq hk7;cases hr2:rc (cx ++ aQ' f) (kidD f (2 * j + 1)) (kidD h (2 * j + 1)) false m2 with
    | error er =>
     rw [hr2] at he hres;obtain ⟨rfl,her,y,hJ7⟩:=he;refine ⟨.inl k57,?_⟩;refine rV τok [25,26] 0 (mR 27 27) k57 ?_;refine dV ?_;simp only at hres;subst hres;exact ⟨⟨rfl,her,y,hJ7⟩,k07⟩
    | ok q =>
     obtain ⟨b,m3⟩:=q;rw [hr2] at he hres;obtain ⟨rfl,hJ7⟩:=he;have hm3:=hle _ _ _ _ _ _ hr2;simp only at hm3 hJ7;refine ⟨.inl k57,?_⟩;refine rV τok [25,26] 0 (mR 27 27) k57 ?_;refine dV ?_;cases b with
     | false =>
      simp only at hres;rw [if_neg (by decide)] at hres;subst hres;exact ⟨⟨rfl,hJ7⟩,k07⟩
     | true =>
      simp only [if_true] at hres;refine i6 ?_;refine ⟨(j + 1,m3),by simp only; omega,rfl,⟨rfl,rfl,rfl,rfl,?_,trivial⟩,by show j + 1 <= _; omega,by simp only; omega,hJ7,hk5.tq k57,hres⟩;show some (iV _) = some (iV ((2 * (j + 1):Nat):Int))
      congr 3
 ·have g3:¬ ((2 * j:Nat):Int) < (kidsT f).length:=g3
  rw [List.drop_eq_nil_of_le (by omega),List.drop_eq_nil_of_le (by omega)] at hres;simp only [lF'] at hres;subst hres;exact ⟨⟨rfl,hJ5⟩,k05⟩
end
theorem jk' {Q:Nd -> Prop} {N:Int} {x:Tr} (h:Ft Q N x) (h1:x.n.op ≠ 4 /\ x.n.op ≠ 5 /\ x.n.op ≠ 7 /\ x.n.op ≠ 12):∀ y ∈ kidsT x,Ft Q N y:=by
 intro y hy;obtain ⟨i,hi⟩:=List.getElem?_of_mem hy;obtain ⟨n,ks⟩:=x;have:=h.kid hi;simp only [Tr.n] at h1;have e:kb n i = 0:=by simp [kb,bb',h1]
 rwa [e,Int.add_zero] at this
theorem nP' {S:World -> Prop} {b o n:Nat} {k:Value -> Prop} (cs:List Value) (hn:cs.length = n) (h:∀ w,S w -> ∀ j v,cs[j]? = some v -> Cl w.heap b (o + j) v) (hk:k (.agg cs.toArray)):EvLdNQ S ⟨b,o,none⟩ n k:=by
 unfold EvLdNQ;refine ⟨cs,hn,fun w hw j v hv=>?_,hk⟩;rw [eg'];exact (h w hw j v hv).cell
theorem st' {X:List Nat} {w:World} {b T:Nat} {z:Value} {x:Tr} (hB:Bk w.heap b [z,.slice none 0 0] T) (hb:b ∉ X) (hz:TmV (Im X w) x z):SV rBd (Im X w) (List.map bdR [(x,none)]) (.slice (some ⟨b,0,none⟩) 1 1):=by
 refine ⟨some ⟨b,0,none⟩,1,rfl,⟨by simp,.inr ⟨b,0,rfl,fun i q hq=>?_⟩⟩,by simp⟩
 match i,hq with
 | 0,hq =>
  obtain rfl:(row x,[]) = q:=by simpa [bdR,oZ'] using hq
  refine ⟨[z,.slice none 0 0],⟨z,_,rfl,hz,SV.nil _ _⟩,fun j u hj=>⟨?_,hb⟩⟩;rw [Nat.zero_mul,Nat.add_zero,Nat.zero_add];exact hB.cl hj
 | i + 1,hq=>simp at hq
section
variable {B:BoT} {g:Nat} {rc:RcC} {cx:Ctx} {X:List Nat} {w:World} {bj:Nat} {n:Nat}
theorem rB' (hrc:pz' B g rc) (hle:sr' rc) (hX:XL X w) (hbj:bj ∈ X) (hcx:CxOk B cx) (hcl:cx.length <= 256) (hJ:CmpC (Im X w) w bj B cx n 0) (hn:n <= g) (hn1:n <= 100000) {f h:Tr} (hf:Ft (QB B) (cx.length:Int) f) (hh:Ft (QB B) (cx.length:Int) h) (hfh:f.n.op = h.n.op) (h7:f.n.op ≠ 7)
  {vf vh:Value} (hvf:TmV (Im X w) f vf) (hvh:TmV (Im X w) h vh) (u:Bool) :
  CC 204 #[pt bj,vf,vh,.bool u] w (uj' X w bj B cx (eR' B rc cx f h u n)):=by
 refine oF Tryz.func204 ?_;obtain ⟨RES,hRES⟩:∃ r,eR' B rc cx f h u n = r:=⟨_,rfl⟩
 rw [hRES];unfold eR' at hRES;have hvf':=hvf;have hvh':=hvh;obtain ⟨bf,of,cf,rfl,_,_,_,hcf⟩:=hvf.hd;obtain ⟨bh,oh,ch,rfl,_,_,_,hch⟩:=hvh.hd;refine cO (args:=[_,_,_,_]) 107 [.tmp 8] τok Tryz.func204 ?_;refine ab' (dv' (Im.sub X w) (fun _ _ _ h=>h.hold) hf hvf') ?_;rintro e w1 ⟨va,rfl,hka,hk1⟩;have tr1:∀ b o v,Im X w b o v -> Im X w1 b o v:=fun b o v h=>h.tr hk1;refine ab' (dv' (Im.sub X w1) (fun _ _ _ h=>h.hold) hh (hvh'.mono tr1)) ?_;rintro e w2 ⟨vb,rfl,hkb,hk2⟩;have k02:=hk1.tr hk2;have hX1:=xU hX hk1;have hX2:=xU hX k02;have hka2:TmsV (Im X w2) (kidsT f) va:=(hka.tv hX).mono fun _ _ _ h=>h.tr hk2;have hkb2:TmsV (Im X w2) (kidsT h) vb:=hkb.tv hX1;have tr2:∀ b o v,Im X w b o v -> Im X w2 b o v:=fun b o v h=>h.tr k02;have hJ2:CmpC (Im X w2) w2 bj B cx n 0:=(hJ.mono tr2).kp k02 (by simp);have kw:∀ {w'},Kp [] w w' -> Kp [bj] w w':=fun k=>k.weak (by simp);have hka3:=hka2;have hkb3:=hkb2;obtain ⟨aa,ca,rfl,_,_⟩:=hka3;obtain ⟨ab,cb,rfl,_,_⟩:=hkb3;refine ix 0 rfl (ag' _) ?_;refine ldC (Im.sub X w2) (tr2 _ _ _ (by simpa using hcf 0 _ rfl)) ?_;refine ac' (fun g1=>?_) (fun g1=>?_)
 ·have g1:f.n.op = 2:=g1
  rw [if_pos g1] at hRES;refine ab' (rz' (Im.sub X w2) hJ2 hf hh g1 (by omega) (hvf'.mono tr2) (hvh'.mono tr2) u) ?_;rintro e w3 ⟨rfl,hk3⟩;subst hRES;exact ⟨⟨rfl,(hJ2.mono fun _ _ _ h=>h.tr hk3).kp hk3 (by simp)⟩,kw (k02.tr hk3)⟩
 have g1:¬ f.n.op = 2:=g1;rw [if_neg g1] at hRES;refine ac' (fun g2=>?_) (fun g2=>?_)
 ·have g2:f.n.op = 4:=g2
  rw [if_pos g2] at hRES;obtain ⟨hkk,hkl⟩:=be' hf.ok (by omega) (by omega);obtain ⟨hkk',hkl'⟩:=be' hh.ok (by omega) (by omega);have hkc:aw' f.n = 2:=by simp [aw',g2]
  have hkc':aw' h.n = 2:=by simp [aw',<- hfh,g2]
  obtain ⟨e1,_⟩:=hf.kidD (k:=0) (by rw [hkk]; omega);obtain ⟨e2,_⟩:=hf.kidD (k:=1) (by rw [hkk]; omega);obtain ⟨e3,_⟩:=hh.kidD (k:=0) (by rw [hkk']; omega);obtain ⟨e4,_⟩:=hh.kidD (k:=1) (by rw [hkk']; omega);have f1:=hf.kidN 0 (by rw [hkk]; omega) (b:=0) (by simp [kb,bb',g2]);have f2:=hf.kidN 1 (by rw [hkk]; omega) (b:=1) (by simp [kb,bb',g2]);have f3:=hh.kidN 0 (by rw [hkk']; omega) (b:=0) (by simp [kb,bb',<- hfh,g2]);have f4:=hh.kidN 1 (by rw [hkk']; omega) (b:=1) (by simp [kb,bb',<- hfh,g2]);rw [Int.add_zero] at f1 f3;have hcx':CxOk B (cx ++ [(kidD f 0,none)]):=hcx.snoc f1 fun x hx=>by cases hx
  have hcl1:(cx ++ [(kidD f 0,none)]).length = cx.length + 1:=by simp
  have f2':Ft (QB B) ((cx ++ [(kidD f 0,none)]).length:Int) (kidD f 1):=by rw [hcl1]; exact f2.mono (by omega)
  have f4':Ft (QB B) ((cx ++ [(kidD f 0,none)]).length:Int) (kidD h 1):=by rw [hcl1]; exact f4.mono (by omega)
  obtain ⟨b1,o1,c1,p1,z1,hz1,hzT1⟩:=hka2.get e1;obtain ⟨b2,o2,c2,p2,z2,hz2,hzT2⟩:=hka2.get e2;obtain ⟨b3,o3,c3,p3,z3,hz3,hzT3⟩:=hkb2.get e3;obtain ⟨b4,o4,c4,p4,z4,hz4,hzT4⟩:=hkb2.get e4;injection p1 with q1 q2 q3
  subst q1 q3;injection p2 with q1 q2 q3
  injection q1 with q1
  injection q1 with q1 q4
  subst q1 q4;injection p3 with q1 q2 q3
  subst q1 q3;injection p4 with q1 q2 q3
  injection q1 with q1
  injection q1 with q1 q4
  subst q1 q4;obtain ⟨az1,cz1,rfl,_,_⟩:=id hzT1;refine am' τok (fun z=>Kp [bj] w2 z) ?_;refine rV τok (rg 0 7) 18 (mR 25 7) ((Kp.refl [bj] w2).dr _) ?_;refine ix 0 rfl (by rw [hkk]; omega) ?_;refine ldI hbj hz1 ?_;refine ix 0 rfl (by rw [hkk']; omega) ?_;refine ldI hbj hz3 ?_;refine nV τok 7 17 (mR 25 8) ?_;refine ab' (hrc X (dr w2) bj cx _ _ false n _ z3 hX2 hbj hcx (by omega) hJ2 f1 f3 hn hn1 hzT1 hzT3) ?_;rintro e w3 ⟨he,hk3⟩;have hk3:Kp [bj] w2 w3:=hk3.rd;have k03:Kp [bj] w w3:=(kw k02).tq hk3;cases hr:rc cx (kidD f 0) (kidD h 0) false n with
  | error er =>
   rw [hr] at he hRES;obtain ⟨rfl,her,y,hJ3⟩:=he;refine ⟨.inl hk3,?_⟩;refine rV τok [8,9,10,11,12,13,15,16,17,18,19,20,21] 4 (mB 25 [14,22,23,24]) hk3 ?_;refine nV τok 14 3 (mR 25 22) ?_;refine ⟨.inl hk3,?_⟩;refine nV τok 22 2 (mR 25 23) ?_;refine ⟨.inl hk3,?_⟩;refine rV τok [23,24] 0 (mR 25 25) hk3 ?_;refine dV ?_;simp only [fU'] at hRES;subst hRES;exact ⟨⟨rfl,her,y,hJ3⟩,k03⟩
  | ok q =>
   obtain ⟨b,m2⟩:=q;rw [hr] at he hRES;obtain ⟨rfl,hJ3⟩:=he;have hm2:=hle _ _ _ _ _ _ hr;simp only at hm2 hJ3;refine ⟨.inl hk3,?_⟩;cases b with
   | false =>
    refine rV τok [8,9,10,11,12,13,15,16,17,18,19,20,21] 4 (mB 25 [14,22,23,24]) hk3 ?_;refine nV τok 14 3 (mR 25 22) ?_;refine ⟨.inl hk3,?_⟩;refine nV τok 22 2 (mR 25 23) ?_;refine ⟨.inl hk3,?_⟩;refine rV τok [23,24] 0 (mR 25 25) hk3 ?_;refine dV ?_;simp only [fU'] at hRES;rw [if_neg (by decide)] at hRES;subst hRES;exact ⟨⟨rfl,hJ3⟩,k03⟩
   | true =>
    simp only [fU',if_true] at hRES;refine rV τok [8,9,10,11,12,13,15,16,17,18,19,20,21] 4 (mB 25 [14,22,23,24]) hk3 ?_;refine ix 0 rfl (by rw [hkk]; omega) ?_;refine ldI hbj hz1 ?_;refine ix 1 rfl (by rw [hkk]; omega) ?_;refine ldI hbj hz2 ?_;refine ix 1 rfl (by rw [hkk']; omega) ?_;refine ldI hbj hz4 ?_;refine nV τok 14 3 (mR 25 22) ?_;refine fill [.slice az1 (row (kidD f 0)).length cz1,.slice none 0 0] rfl ?_;refine new fun b5 w4 hb5 h5 hs4 hk4=>?_;have k24:Kp [bj] w2 w4:=hk3.tr hk4;have k04:Kp [bj] w w4:=k03.tr hk4;refine ⟨.inl k24,?_⟩;have hX4:=xU hX k04;have hb5n:b5 ∉ X:=fun hm=>by
     have:=Nat.lt_of_lt_of_le (hX _ hm) k03.size;omega
    have tr4:=Im.kb k24 hbj;refine nV τok 22 2 (mR 25 23) ?_;refine ab' (gF' (mo:=[(kidD f 0,none)]) hrc hX4 hbj ((hJ3.mono fun _ _ _ h=>h.tr hk4).kp hk4 (by simp)) (by omega) (by omega) (by simp) hcx' (by omega) f2' f4' (st' h5 hb5n (hzT1.mono tr4)) (hzT2.mono tr4) (hzT4.mono tr4) u) ?_;rintro e w5 ⟨he,hk5⟩;have k25:Kp [bj] w2 w5:=k24.tq hk5;have k05:Kp [bj] w w5:=k04.tq hk5;rw [hRES] at he;cases RES with
    | error er =>
     obtain ⟨rfl,her,y,hJ5⟩:=he;refine ⟨.inl k25,?_⟩;refine rV τok [23,24] 0 (mR 25 25) k25 ?_;refine dV ?_;exact ⟨⟨rfl,her,y,hJ5⟩,k05⟩
    | ok q =>
     obtain ⟨rfl,hJ5⟩:=he;refine ⟨.inl k25,?_⟩;refine rV τok [23,24] 0 (mR 25 25) k25 ?_;refine dV ?_;exact ⟨⟨rfl,hJ5⟩,k05⟩
 have g2:¬ f.n.op = 4:=g2;rw [if_neg g2] at hRES;refine ac' (fun g3=>?_) (fun g3=>?_)
 ·have g3:f.n.op = 5:=g3
  rw [if_pos g3] at hRES;obtain ⟨hkk,hkl⟩:=be' hf.ok (by omega) (by omega);obtain ⟨hkk',hkl'⟩:=be' hh.ok (by omega) (by omega);have hkc:aw' f.n = 2:=by simp [aw',g3]
  have hkc':aw' h.n = 2:=by simp [aw',<- hfh,g3]
  obtain ⟨e1,_⟩:=hf.kidD (k:=0) (by rw [hkk]; omega);obtain ⟨e2,_⟩:=hf.kidD (k:=1) (by rw [hkk]; omega);obtain ⟨e3,_⟩:=hh.kidD (k:=0) (by rw [hkk']; omega);obtain ⟨e4,_⟩:=hh.kidD (k:=1) (by rw [hkk']; omega);have f1:=hf.kidN 0 (by rw [hkk]; omega) (b:=0) (by simp [kb,bb',g3]);have f2:=hf.kidN 1 (by rw [hkk]; omega) (b:=1) (by simp [kb,bb',g3]);have f3:=hh.kidN 0 (by rw [hkk']; omega) (b:=0) (by simp [kb,bb',<- hfh,g3]);have f4:=hh.kidN 1 (by rw [hkk']; omega) (b:=1) (by simp [kb,bb',<- hfh,g3]);rw [Int.add_zero] at f1 f3;have hcx':CxOk B (cx ++ [(kidD f 0,none)]):=hcx.snoc f1 fun x hx=>by cases hx
  have hcl1:(cx ++ [(kidD f 0,none)]).length = cx.length + 1:=by simp
  have f2':Ft (QB B) ((cx ++ [(kidD f 0,none)]).length:Int) (kidD f 1):=by rw [hcl1]; exact f2.mono (by omega)
  have f4':Ft (QB B) ((cx ++ [(kidD f 0,none)]).length:Int) (kidD h 1):=by rw [hcl1]; exact f4.mono (by omega)
  obtain ⟨b1,o1,c1,p1,z1,hz1,hzT1⟩:=hka2.get e1;obtain ⟨b2,o2,c2,p2,z2,hz2,hzT2⟩:=hka2.get e2;obtain ⟨b3,o3,c3,p3,z3,hz3,hzT3⟩:=hkb2.get e3;obtain ⟨b4,o4,c4,p4,z4,hz4,hzT4⟩:=hkb2.get e4;injection p1 with q1 q2 q3
  subst q1 q3;injection p2 with q1 q2 q3
  injection q1 with q1
  injection q1 with q1 q4
  subst q1 q4;injection p3 with q1 q2 q3
  subst q1 q3;injection p4 with q1 q2 q3
  injection q1 with q1
  injection q1 with q1 q4
  subst q1 q4;obtain ⟨az1,cz1,rfl,_,_⟩:=id hzT1;refine am' τok (fun z=>Kp [bj] w2 z) ?_;refine rV τok (rg 0 7) 17 (mR 24 7) ((Kp.refl [bj] w2).dr _) ?_;refine ix 0 rfl (by rw [hkk]; omega) ?_;refine ldI hbj hz1 ?_;refine ix 0 rfl (by rw [hkk']; omega) ?_;refine ldI hbj hz3 ?_;refine nV τok 7 16 (mR 24 8) ?_;refine ab' (hrc X (dr w2) bj cx _ _ false n _ z3 hX2 hbj hcx (by omega) hJ2 f1 f3 hn hn1 hzT1 hzT3) ?_;rintro e w3 ⟨he,hk3⟩;have hk3:Kp [bj] w2 w3:=hk3.rd;have k03:Kp [bj] w w3:=(kw k02).tq hk3;cases hr:rc cx (kidD f 0) (kidD h 0) false n with
  | error er =>
   rw [hr] at he hRES;obtain ⟨rfl,her,y,hJ3⟩:=he;refine ⟨.inl hk3,?_⟩;refine rV τok [8,9,10,11,12,13,15,16,17,18,19,20] 4 (mB 24 [14,21,22,23]) hk3 ?_;refine nV τok 14 3 (mR 24 21) ?_;refine ⟨.inl hk3,?_⟩;refine nV τok 21 2 (mR 24 22) ?_;refine ⟨.inl hk3,?_⟩;refine rV τok [22,23] 0 (mR 24 24) hk3 ?_;refine dV ?_;simp only [fU'] at hRES;subst hRES;exact ⟨⟨rfl,her,y,hJ3⟩,k03⟩
  | ok q =>
   obtain ⟨b,m2⟩:=q;rw [hr] at he hRES;obtain ⟨rfl,hJ3⟩:=he;have hm2:=hle _ _ _ _ _ _ hr;simp only at hm2 hJ3;refine ⟨.inl hk3,?_⟩;cases b with
   | false =>
    refine rV τok [8,9,10,11,12,13,15,16,17,18,19,20] 4 (mB 24 [14,21,22,23]) hk3 ?_;refine nV τok 14 3 (mR 24 21) ?_;refine ⟨.inl hk3,?_⟩;refine nV τok 21 2 (mR 24 22) ?_;refine ⟨.inl hk3,?_⟩;refine rV τok [22,23] 0 (mR 24 24) hk3 ?_;refine dV ?_;simp only [fU'] at hRES;rw [if_neg (by decide)] at hRES;subst hRES;exact ⟨⟨rfl,hJ3⟩,k03⟩
   | true =>
    simp only [fU',if_true] at hRES;refine rV τok [8,9,10,11,12,13,15,16,17,18,19,20] 4 (mB 24 [14,21,22,23]) hk3 ?_;refine ix 0 rfl (by rw [hkk]; omega) ?_;refine ldI hbj hz1 ?_;refine ix 1 rfl (by rw [hkk]; omega) ?_;refine ldI hbj hz2 ?_;refine ix 1 rfl (by rw [hkk']; omega) ?_;refine ldI hbj hz4 ?_;refine nV τok 14 3 (mR 24 21) ?_;refine fill [.slice az1 (row (kidD f 0)).length cz1,.slice none 0 0] rfl ?_;refine new fun b5 w4 hb5 h5 hs4 hk4=>?_;have k24:Kp [bj] w2 w4:=hk3.tr hk4;have k04:Kp [bj] w w4:=k03.tr hk4;refine ⟨.inl k24,?_⟩;have hX4:=xU hX k04;have hb5n:b5 ∉ X:=fun hm=>by
     have:=Nat.lt_of_lt_of_le (hX _ hm) k03.size;omega
    have tr4:=Im.kb k24 hbj;refine nV τok 21 2 (mR 24 22) ?_;refine ab' (gF' (mo:=[(kidD f 0,none)]) hrc hX4 hbj ((hJ3.mono fun _ _ _ h=>h.tr hk4).kp hk4 (by simp)) (by omega) (by omega) (by simp) hcx' (by omega) f2' f4' (st' h5 hb5n (hzT1.mono tr4)) (hzT2.mono tr4) (hzT4.mono tr4) false) ?_;rintro e w5 ⟨he,hk5⟩;have k25:Kp [bj] w2 w5:=k24.tq hk5;have k05:Kp [bj] w w5:=k04.tq hk5;rw [hRES] at he;cases RES with
    | error er =>
     obtain ⟨rfl,her,y,hJ5⟩:=he;refine ⟨.inl k25,?_⟩;refine rV τok [22,23] 0 (mR 24 24) k25 ?_;refine dV ?_;exact ⟨⟨rfl,her,y,hJ5⟩,k05⟩
    | ok q =>
     obtain ⟨rfl,hJ5⟩:=he;refine ⟨.inl k25,?_⟩;refine rV τok [22,23] 0 (mR 24 24) k25 ?_;refine dV ?_;exact ⟨⟨rfl,hJ5⟩,k05⟩
 have g3:¬ f.n.op = 5:=g3;rw [if_neg g3] at hRES;refine ac' (fun g4=>?_) (fun g4=>?_)
 ·have g4:f.n.op = 12:=g4
  rw [if_pos g4] at hRES;refine am' τok (fun z=>Kp [bj] w2 z) ?_;refine rV τok (rg 0 13) 3 (mR 16 13) ((Kp.refl [bj] w2).dr _) ?_;refine ix 0 rfl (ag' _) ?_;refine nP' [iV f.n.op,iV f.n.a,iV f.n.b] rfl (fun z hz j v hj=>(Im.kb hz hbj _ _ _ (tr2 _ _ _ (by simpa using hcf j v hj))).1) ?_;refine ix 0 rfl (ag' _) ?_;refine nP' [iV h.n.op,iV h.n.a,iV h.n.b] rfl (fun z hz j v hj=>(Im.kb hz hbj _ _ _ (tr2 _ _ _ (by simpa using hch j v hj))).1) ?_;refine sM' (v:=.bool (decide (f.n = h.n))) (fun w _=>gc' _ _ f.n h.n w) ?_;refine ac' (fun g5=>?_) (fun g5=>?_)
  ·rw [if_pos g5] at hRES
   refine nV τok 13 2 (mR 16 14) ?_;refine ab' (rA' (w:=(dr w2)) hrc hle hX2 hbj hcx hcl hJ2 hn hn1 hf hh g4 g5 (hvf'.mono tr2) (hvh'.mono tr2) hka2 hkb2) ?_;rintro e w3 ⟨he,hk3⟩;have hk3:Kp [bj] w2 w3:=hk3.rd;rw [hRES] at he;cases RES with
   | error er =>
    obtain ⟨rfl,her,y,hJ3⟩:=he;refine ⟨.inl hk3,?_⟩;refine rV τok [14,15] 0 (mR 16 16) hk3 ?_;refine dV ?_;exact ⟨⟨rfl,her,y,hJ3⟩,(kw k02).tq hk3⟩
   | ok q =>
    obtain ⟨rfl,hJ3⟩:=he;refine ⟨.inl hk3,?_⟩;refine rV τok [14,15] 0 (mR 16 16) hk3 ?_;refine dV ?_;exact ⟨⟨rfl,hJ3⟩,(kw k02).tq hk3⟩
  ·rw [if_neg g5] at hRES
   have hk3:Kp [bj] w2 (dr w2):=(Kp.refl [bj] w2).dr _;refine nV τok 13 2 (mR 16 14) ?_;refine ⟨.inl hk3,?_⟩;refine rV τok [14,15] 0 (mR 16 16) hk3 ?_;refine dV ?_;subst hRES;exact ⟨⟨rfl,hJ2⟩,(kw k02).tq hk3⟩
 have g4:¬ f.n.op = 12:=g4;rw [if_neg g4] at hRES;refine am' τok (fun z=>Kp [bj] w2 z) ?_;refine rV τok (rg 0 11) 3 (mR 14 11) ((Kp.refl [bj] w2).dr _) ?_;refine ix 0 rfl (ag' _) ?_;refine nP' [iV f.n.op,iV f.n.a,iV f.n.b] rfl (fun z hz j v hj=>(Im.kb hz hbj _ _ _ (tr2 _ _ _ (by simpa using hcf j v hj))).1) ?_;refine ix 0 rfl (ag' _) ?_;refine nP' [iV h.n.op,iV h.n.a,iV h.n.b] rfl (fun z hz j v hj=>(Im.kb hz hbj _ _ _ (tr2 _ _ _ (by simpa using hch j v hj))).1) ?_;refine sM' (v:=.bool (decide (f.n = h.n))) (fun w _=>gc' _ _ f.n h.n w) ?_;refine ac' (fun g5=>?_) (fun g5=>?_)
 ·rw [if_pos g5] at hRES
  have hkl:(kidsT f).length = (kidsT h).length:=by
   obtain ⟨hkk,hkl⟩:=be' hf.ok g1 g4;obtain ⟨hkk',hkl'⟩:=be' hh.ok (by omega) (by omega);rw [g5] at hkl;rw [hkk,hkk'];omega
  have hkm:=mq' hf.ok;refine nV τok 11 2 (mR 14 12) ?_;refine ab' (ss' (w:=(dr w2)) hrc hle hX2 hbj hcx (by omega) hJ2 hn hn1 (jk' hf (by omega)) (jk' hh (by omega)) hkl (by omega) hka2 hkb2) ?_;rintro e w3 ⟨he,hk3⟩;have hk3:Kp [bj] w2 w3:=hk3.rd;rw [hRES] at he;cases RES with
  | error er =>
   obtain ⟨rfl,her,y,hJ3⟩:=he;refine ⟨.inl hk3,?_⟩;refine rV τok [12,13] 0 (mR 14 14) hk3 ?_;refine dV ?_;exact ⟨⟨rfl,her,y,hJ3⟩,(kw k02).tq hk3⟩
  | ok q =>
   obtain ⟨rfl,hJ3⟩:=he;refine ⟨.inl hk3,?_⟩;refine rV τok [12,13] 0 (mR 14 14) hk3 ?_;refine dV ?_;exact ⟨⟨rfl,hJ3⟩,(kw k02).tq hk3⟩
 ·rw [if_neg g5] at hRES
  have hk3:Kp [bj] w2 (dr w2):=(Kp.refl [bj] w2).dr _;refine nV τok 11 2 (mR 14 12) ?_;refine ⟨.inl hk3,?_⟩;refine rV τok [12,13] 0 (mR 14 14) hk3 ?_;refine dV ?_;subst hRES;exact ⟨⟨rfl,hJ2⟩,(kw k02).tq hk3⟩
end
section
variable {B:BoT} {cx:Ctx}
theorem mQ':∀ (g:Nat) (x:Tr) (room:Int) (n:Nat) (q:Tr × Nat),bG' B cx g x room n = .ok q -> dx' B cx q.1 = false
 | 0,x,room,n,q,h=>by cases h
 | g + 1,x,room,n,q,h=>by
  simp only [bG'] at h;cases hp:qy' (bG' B cx g) x room n with
  | error e=>rw [hp] at h; cases h
  | ok p =>
   rw [hp] at h;simp only at h;unfold ho' at h;split at h
   ·split at h
    ·cases h
    ·cases ho:ny' B cx p.1 with
     | error e=>rw [ho] at h; cases h
     | ok z =>
      rw [ho] at h;simp only at h;split at h
      ·cases h
      ·exact mQ' g _ _ _ _ h
   ·rename_i hr
    injection h with h
    subst h
    simpa using hr
theorem mR' (hB:GoodB B) (hcx:CxOk B cx) (hN:cx.length <= 90000) {x:Tr} {f:Int} {q:Tr × Nat} (hx:Ft (QB B) (cx.length:Int) x) (h:bt' B cx x f = .ok q):Ft (QB B) (cx.length:Int) q.1 /\ (headT q.1).n.op ≠ 7:=by
 have hl:=hx.len;obtain ⟨q1,q2⟩:=q;refine ⟨(em' hB hcx hN GW x 4096 _ q1 q2 hx (by unfold len; omega) (by omega) h).1,fun h7=>?_⟩;have:=mQ' _ _ _ _ _ h;unfold dx' at this;simp [h7] at this
end
section
variable {B:BoT}
theorem uV' (hB:GoodB B):∀ g,pz' B g (pu' B g):=by
 intro g
 induction g with
 | zero =>
  intro X w bj cx x y u n vx vy hX hbj hcx hcl hJ hx hy hn hn1 hvx hvy;have h0:(n:Int) = 0:=by omega
  refine oF Tryz.func195 ?_;obtain ⟨v1,v2,v3,v4,hJb,hO,hE,hP,hC⟩:=hJ;obtain ⟨_,_,rfl,_,_⟩:=id hvx;obtain ⟨_,_,rfl,_,_⟩:=id hvy;refine cO (args:=[_,_,_,_]) 94 [.tmp 8] τok Tryz.func195 ?_;refine lb hJb ?_;refine ar' (p:=(n:Int) = 0) h0 ?_;refine st hJb (by simp) rfl fun w1 h1 hs1 hk1=>?_;have tr:=Im.kb hk1 hbj;exact ⟨⟨rfl,by decide,(n:Int),v1,v2,v3,v4,h1,hO.mono tr,hE.mono tr,hP.mono tr,hC.mono tr⟩,hk1⟩
 | succ g ih =>
  intro X w bj cx x y u n vx vy hX hbj hcx hcl hJ hx hy hn hn1 hvx hvy;refine oF Tryz.func195 ?_;obtain ⟨RES,hRES⟩:∃ r,pu' B (g + 1) cx x y u n = r:=⟨_,rfl⟩
  rw [hRES];simp only [pu'] at hRES;obtain ⟨v1,v2,v3,v4,hJb,hO,hE,hP,hC⟩:=hJ;have hCC:=hC;obtain ⟨ac,cc,rfl,_,_⟩:=hCC;have hvx':=hvx;have hvy':=hvy;obtain ⟨ax,cx1,rfl,hx1,hx2⟩:=hvx;obtain ⟨ay,cy1,rfl,hy1,hy2⟩:=hvy;refine cO (args:=[_,_,_,_]) 94 [.tmp 8] τok Tryz.func195 ?_;refine lb hJb ?_;refine ac' (fun g1=>?_) (fun g1=>?_)
  ·have g1:(n:Int) = 0:=g1
   rw [if_pos (by omega)] at hRES;refine st hJb (by simp) rfl fun w1 h1 hs1 hk1=>?_;have tr:=Im.kb hk1 hbj;subst hRES;exact ⟨⟨rfl,by decide,(n:Int),v1,v2,v3,_,h1,hO.mono tr,hE.mono tr,hP.mono tr,hC.mono tr⟩,hk1⟩
  have g1:¬ (n:Int) = 0:=g1;rw [if_neg (by omega)] at hRES;refine lb hJb ?_;refine i6 ?_;obtain ⟨m,hm⟩:∃ m:Nat,n = m + 1:=⟨n - 1,by omega⟩
  have hm1:(n:Int) - 1 = (m:Int):=by omega
  have hm2:n - 1 = m:=by omega
  rw [hm1];rw [hm2] at hRES;refine st hJb (by simp) rfl fun w1 h1 hs1 hk1=>?_;have h1:Bk w1.heap bj [iV B.vars,v1,v2,iV B.nat,v3,.slice ac (cx.map bdR).length cc,iV (m:Int),iV 0] 252:=h1;have tr1:=Im.kb hk1 hbj;refine ab' (gd' (C:=Im X w1) (D:=Im X w1) (Im.sub X w1) (Im.sub X w1) (row x) (row y) ax ay cx1 cy1 (hx1.mono tr1) (hy1.mono tr1)) ?_;rintro e w2 ⟨rfl,hk2⟩;have k02:Kp [bj] w w2:=hk1.tr hk2;have h2:=h1.kp hk2 (by simp);have tr2:=Im.kb k02 hbj;have hX2:=xU hX k02;have hJ2:CmpC (Im X w2) w2 bj B cx m 0:=⟨v1,v2,v3,_,h2,hO.mono tr2,hE.mono tr2,hP.mono tr2,hC.mono tr2⟩
  refine ac' (fun g2=>?_) (fun g2=>?_)
  ·rw [if_pos g2] at hRES
   subst hRES;exact ⟨⟨rfl,hJ2⟩,k02⟩
  rw [if_neg g2] at hRES;refine lb h2 ?_;refine ac' (fun g3=>?_) (fun g3=>?_)
  ·have g3:(256:Int) < ((cx.map bdR).length:Int):=g3
   rw [if_pos (by simp at g3; omega)] at hRES;refine st h2 (by simp) rfl fun w3 h3 hs3 hk3=>?_;have tr3:=Im.kb hk3 hbj;subst hRES;exact ⟨⟨rfl,by decide,(m:Int),v1,v2,v3,_,h3,hO.mono fun _ _ _ h=>tr3 _ _ _ (tr2 _ _ _ h),hE.mono fun _ _ _ h=>tr3 _ _ _ (tr2 _ _ _ h),hP.mono fun _ _ _ h=>tr3 _ _ _ (tr2 _ _ _ h),hC.mono fun _ _ _ h=>tr3 _ _ _ (tr2 _ _ _ h)⟩,k02.tq hk3⟩
  have g3:¬ (256:Int) < ((cx.map bdR).length:Int):=g3;have hc256:cx.length <= 256:=by simp at g3; omega
  rw [if_neg (by omega)] at hRES;refine ab' (ij' hB hcx (by omega) hX2 hbj hJ2 hx (hvx'.mono tr2)) ?_;rintro e w3 ⟨he,hk3⟩;have k03:Kp [bj] w w3:=k02.tq hk3;cases hw:bt' B cx x (m:Int) with
  | error er =>
   rw [hw] at he hRES;obtain ⟨rfl,her,hJ3⟩:=he;simp only at hRES;subst hRES;exact ⟨⟨rfl,her,0,hJ3⟩,k03⟩
  | ok p =>
   obtain ⟨x',m1⟩:=p;rw [hw] at he hRES;obtain ⟨ux,rfl,hux,hJ3⟩:=he;simp only at hRES hux hJ3;obtain ⟨hxF,hx7⟩:=mR' hB hcx (by omega) hx hw;have hm1':=ii' hw;simp only at hxF hx7 hm1';have tr3:=Im.kb k03 hbj;have hX3:=xU hX k03;obtain ⟨aux,cux,rfl,_,_⟩:=id hux;refine ab' (ij' hB hcx (by omega) hX3 hbj hJ3 hy (hvy'.mono tr3)) ?_;rintro e w4 ⟨he,hk4⟩;have k04:Kp [bj] w w4:=k03.tq hk4;cases hw2:bt' B cx y (m1:Int) with
   | error er =>
    rw [hw2] at he hRES;obtain ⟨rfl,her,hJ4⟩:=he;simp only at hRES;subst hRES;exact ⟨⟨rfl,her,0,hJ4⟩,k04⟩
   | ok p =>
    obtain ⟨y',m2⟩:=p;rw [hw2] at he hRES;obtain ⟨uy,rfl,huy,hJ4⟩:=he;simp only at hRES huy hJ4;obtain ⟨hyF,hy7⟩:=mR' hB hcx (by omega) hy hw2;have hm2':=ii' hw2;simp only at hyF hy7 hm2';have hux4:=hux.mono (Im.kb hk4 hbj);have hX4:=xU hX k04;obtain ⟨auy,cuy,rfl,_,_⟩:=id huy;refine ab' (iW' (Im.sub X w4) (fun _ _ _ h=>h.hold) hxF hux4) ?_;rintro e w5 ⟨ufx,umx,rfl,hfx,hmx,hk5⟩;have tr5:∀ b o v,Im X w4 b o v -> Im X w5 b o v:=fun b o v h=>h.tr hk5;refine ab' (iW' (Im.sub X w5) (fun _ _ _ h=>h.hold) hyF (huy.mono tr5)) ?_;rintro e w6 ⟨ufy,umy,rfl,hfy,hmy,hk6⟩;have hX5:=xU hX4 hk5;have k46:=hk5.tr hk6;have k06:Kp [bj] w w6:=k04.tr k46;have hX6:=xU hX k06;have tr6:∀ b o v,Im X w4 b o v -> Im X w6 b o v:=fun b o v h=>h.tr k46;have hfx:=(hfx.tv hX4).mono (fun b o v h=>Im.tr hk6 h);have hmx:=(hmx.tv hX4).mono (fun b o v h=>Im.tr hk6 h);have hfy:=hfy.tv hX5;have hmy:=hmy.tv hX5;have hJ6:CmpC (Im X w6) w6 bj B cx m2 0:=(hJ4.mono tr6).kp k46 (by simp);have hfx':=hfx;have hfy':=hfy;obtain ⟨bx,ox,c1,rfl,_,_,_,hcx1⟩:=hfx.hd;obtain ⟨by_,oy,c2,rfl,_,_,_,hcy1⟩:=hfy.hd;obtain ⟨amx,cmx,rfl,_,_⟩:=id hmx;obtain ⟨amy,cmy,rfl,_,_⟩:=id hmy;unfold pt' at hRES;have no:∀ {w7},Kp [bj] w6 w7 -> RES = .ok (false,m2) -> CmpC (Im X w7) w7 bj B cx m2 0 -> uj' X w bj B cx RES (Ending.returned (Go.Wx.one [.bool false])) w7:=fun k h hJ=>by
     subst h;exact ⟨⟨rfl,hJ⟩,k06.tq k⟩
    refine am' τok (fun z=>Kp [bj] w6 z) ?_;refine rV τok (rg 0 16) 0 (mR 16 16) ((Kp.refl [bj] w6).dr _) ?_;refine ix 0 rfl (ag' _) ?_;refine ldI hbj (by simpa using hcx1 0 _ rfl) ?_;refine ix 0 rfl (ag' _) ?_;refine ldI hbj (by simpa using hcy1 0 _ rfl) ?_;have kd:Kp [bj] w6 (dr w6):=(Kp.refl [bj] w6).dr _;refine ac' (fun g4=>?_) (fun g4=>?_)
    ·have g4:(headT x').n.op ≠ (headT y').n.op:=g4
     rw [if_pos (.inl g4)] at hRES;refine dV ?_;exact no kd hRES.symm hJ6
    have g4:¬ (headT x').n.op ≠ (headT y').n.op:=g4;refine dV ?_;refine ac' (fun g5=>?_) (fun g5=>?_)
    ·have g5:((argsT x').length:Int) ≠ ((argsT y').length:Int):=g5
     rw [if_pos (.inr (by omega))] at hRES;exact no kd hRES.symm hJ6
    have g5:¬ ((argsT x').length:Int) ≠ ((argsT y').length:Int):=g5;rw [if_neg (by omega)] at hRES;refine ab' (rB' (w:=(dr w6)) ih (kx' B g) hX6 hbj hcx hc256 hJ6 (by omega) (by omega) hxF.head hyF.head (by omega) hx7 hfx' hfy' u) ?_;rintro e w7 ⟨he,hk7⟩;have hk7:Kp [bj] w6 w7:=hk7.rd;have k07:Kp [bj] w w7:=k06.tq hk7;cases hh:eR' B (pu' B g) cx (headT x') (headT y') u m2 with
    | error er =>
     rw [hh] at he hRES;obtain ⟨rfl,her,j,hJ7⟩:=he;simp only [fU'] at hRES;subst hRES;exact ⟨⟨rfl,her,j,hJ7⟩,k07⟩
    | ok q =>
     obtain ⟨b,m3⟩:=q;rw [hh] at he hRES;obtain ⟨rfl,hJ7⟩:=he;have hm3:=mO' (kx' B g) hh;simp only at hm3 hJ7;cases b with
     | false =>
      simp only [fU'] at hRES;rw [if_neg (by decide)] at hRES;subst hRES;exact ⟨⟨rfl,hJ7⟩,k07⟩
     | true =>
      simp only [fU',if_true] at hRES;have tr7:=Im.kb hk7 hbj;have hX7:=xU hX k07;have hfew:=hxF.few;refine ab' (ss' ih (kx' B g) hX7 hbj hcx (by omega) hJ7 (by omega) (by omega) hxF.args hyF.args (by omega) (by omega) (hmx.mono tr7) (hmy.mono tr7)) ?_;rintro e w8 ⟨he,hk8⟩;have k08:Kp [bj] w w8:=k07.tq hk8;rw [hRES] at he;cases RES with
      | error er =>
       obtain ⟨rfl,her,j,hJ8⟩:=he;exact ⟨⟨rfl,her,j,hJ8⟩,k08⟩
      | ok q =>
       obtain ⟨rfl,hJ8⟩:=he;exact ⟨⟨rfl,hJ8⟩,k08⟩
@[irreducible] def GC:Nat:=100000
theorem wa':100000 <= GC:=by unfold GC; exact Nat.le_refl _
def il' (B:BoT) (cx:Ctx) (x y:Tr) (fuel:Int) (u:Bool):Except Int (Bool × Nat):=pu' B GC cx x y u (ax' fuel)
theorem nC' (hB:GoodB B) {cx:Ctx} (hcx:CxOk B cx) (hcl:cx.length <= 260) {X:List Nat} {w:World} {x y:Tr} {fuel:Int} {vb vc vx vy:Value} (hX:XL X w) (hx:Ft (QB B) (cx.length:Int) x) (hy:Ft (QB B) (cx.length:Int) y) (hb:BoV (Im X w) B vb) (hc:SV rBd (Im X w) (cx.map bdR) vc) (hvx:TmV (Im X w) x vx) (hvy:TmV (Im X w) y vy) (u:Bool) :
  CC 176 #[vb,vc,vx,vy,iV fuel,.bool u] w (fun e w'=>(match il' B cx x y fuel u with
   | .ok q=>e = .returned (.tuple #[.bool q.1,iV (q.2:Int),iV 0])
   | .error er=>er ≠ 0 /\ e = .returned (.tuple #[.bool false,iV 0,iV er])) /\ Kp [] w w'):=by
 refine oF Tryz.func176 ?_;obtain ⟨RES,hRES⟩:∃ r,il' B cx x y fuel u = r:=⟨_,rfl⟩
 rw [hRES];unfold il' at hRES;obtain ⟨v1,v2,v3,rfl,hb1,hb2,hb3⟩:=hb;obtain ⟨ac,cc,rfl,hc1,hc2⟩:=hc;obtain ⟨_,_,rfl,_,_⟩:=id hvx;obtain ⟨_,_,rfl,_,_⟩:=id hvy;refine cO (args:=[_,_,_,_,_,_]) 43 [.tmp 12,.tmp 13,.tmp 14] τok Tryz.func176 ?_;refine new fun b5 w1 hb5 h5 hs1 hk1=>?_;have h5:Bk w1.heap b5 [iV B.vars,v1,v2,iV B.nat,v3] 26:=h5;refine ldN [iV B.vars,v1,v2,iV B.nat,v3] rfl (bZ h5) ?_;refine jQ' ?_;refine jR' ?_;obtain ⟨n,hn,hn1⟩:∃ n:Nat,min (max fuel 0) 100000 = (n:Int) /\ ax' fuel = n:=⟨_,by unfold ax'; omega,rfl⟩
 rw [hn];rw [hn1] at hRES;refine new fun bj w2 hbj hJ hs2 hk2=>?_;have hJ:Bk w2.heap bj [iV B.vars,v1,v2,iV B.nat,v3,.slice ac (cx.map bdR).length cc,iV (n:Int),iV 0] 252:=hJ;have k02:=hk1.tr hk2;have hbjl:w.heap.size <= bj:=by have:=hk1.size; omega
 have hX2:∀ b ∈ bj :: X,b < w2.heap.size:=fun b hb=>by
  simp only [List.mem_cons] at hb;rcases hb with rfl | hb
  ·exact hJ.lt
  ·have:=hX b hb; have:=k02.size; omega
 have up:∀ b o v,Im X w b o v -> Im (bj :: X) w2 b o v:=fun b o v h=>Im.more (X:=X) (fun y hy=>by
  simp only [List.mem_cons] at hy;rcases hy with rfl | hy
  ·exact .inr hbjl
  ·exact .inl hy) h |>.tr k02
 have hGC:=wa';refine ab' (uV' hB GC (bj :: X) w2 bj cx x y u n _ _ hX2 (by simp) hcx hcl ⟨v1,v2,v3,_,hJ,hb1.mono up,hb2.mono up,hb3.mono up,⟨ac,cc,rfl,hc1.mono up,hc2⟩⟩ hx hy (by omega) (by omega) (hvx.mono up) (hvy.mono up)) ?_;rintro e w3 ⟨he,hk3⟩;have k03:Kp [] w w3:=k02.trans hk3 fun x hx hl=>by
  obtain rfl:x = bj:=by simpa using hx
  omega
 rw [hRES] at he;cases RES with
 | error er =>
  obtain ⟨rfl,her,m,u1,u2,u3,u4,hJ3,_⟩:=he;refine lb hJ3 ?_;refine ar' (p:=er ≠ 0) her ?_;refine am' τok (fun z=>Kp [] w3 z) ?_;refine rV τok (rg 0 7) 0 (mR 7 7) (kQd w3) ?_;refine lk hJ3 ?_;refine dV ?_;exact ⟨⟨her,rfl⟩,k03.dr _⟩
 | ok q =>
  obtain ⟨rfl,u1,u2,u3,u4,hJ3,_⟩:=he;refine lb hJ3 ?_;refine am' τok (fun z=>Kp [] w3 z) ?_;refine rV τok (rg 0 8) 0 (mR 8 8) (kQd w3) ?_;refine lk hJ3 ?_;refine dV ?_;exact ⟨rfl,k03.dr _⟩
end
section
variable {C:Mem} {w:World}
theorem bH' (hS:Sub C w) (l:List Int) (a:Option Addr) (c:Nat) (hl:Sl rInt C a l) (hlen:l.length <= 1000000) :
  CC 201 #[.slice a l.length c] w (fun e w'=>(∃ v,e = .returned v /\ Own rInt 248 w.heap.size w' v l) /\ Kp [] w w'):=by
 refine oF Tryz.func201 ?_;refine cO (args:=[_]) 8 [.tmp 2] τok Tryz.func201 ?_;refine oe' τok rfl ?_;cases a with
 | none =>
  obtain rfl:=hl.none_nil;exact ⟨⟨_,rfl,Own.nil _ _ (Nat.le_refl _)⟩,Kp.refl _ _⟩
 | some a =>
  refine fill [] rfl ?_;refine new fun b1 w1 hb1 hB1 hs1 hk1=>?_;refine (Own.empty rInt hB1 (lo:=w.heap.size) (by omega)).apF τok rfl rfl (by decide) gj' (hS.tr hk1) l hl (by simp only [List.length_nil]; omega) (by simp only [List.length_nil,maxLen]; omega) fun v2 w2 hO2 hk2 _=>?_;rw [List.nil_append] at hO2;exact ⟨⟨v2,rfl,hO2⟩,hk1.own hk2 (Own.empty rInt hB1 (lo:=w.heap.size) (by omega))⟩
def ofM (m:List Int) (v:Int):Int:=if (m.length:Int) <= v then 0 else m.getD (m.length - 1 - v.toNat) 0
theorem tw' (hS:Sub C w) {m:List Int} {vm:Value} (hm:SV rInt C m vm) {v:Int} (h0:0 <= v) (hl:m.length <= 1000000) :
  CC 218 #[vm,iV v] w (fun e w'=>e = .returned (iV (ofM m v)) /\ Kp [] w w'):=by
 refine oF Tryz.func218 ?_;obtain ⟨a,c,rfl,hs,hc⟩:=hm;refine cO (args:=[_,_]) 17 [.tmp 4] τok Tryz.func218 ?_;refine ac' (fun g=>?_) (fun g=>?_)
 ·have g:(m.length:Int) <= v:=g
  exact ⟨by unfold ofM; rw [if_pos g]; rfl,Kp.refl _ _⟩
 ·have g:¬ (m.length:Int) <= v:=g
  obtain ⟨x,hx,_⟩:=af' (l:=m) (k:=m.length - 1 - v.toNat) (by omega);obtain ⟨b,o,rfl,hcell,_⟩:=hs.int hx;refine i6 ?_;refine i6 ?_;refine ix (m.length - 1 - v.toNat) (by omega) (by omega) ?_;refine ldC hS hcell ?_;refine ⟨?_,Kp.refl _ _⟩;unfold ofM;rw [if_neg g,List.getD_eq_getElem?_getD,hx]
  rfl
theorem pA' {lo:Nat} {v:Value} {l:List Int} (hO:Own rInt 248 lo w v l) (k:Nat) (h0:0 < k) (hk:k <= 100) (hl:l.length <= 1000000) {ty:Nat} {K:Value -> World -> Prop}
  (hK:∀ v' w',Own rInt 248 lo w' v' (l ++ List.replicate k 0) -> Kp v.ownBlock.toList w w' -> K v' w'):EvRun Tryz.prog (Builtin.append_ #[247,3] ty #[v,iV (k:Int)]) w K:=by
 obtain ⟨⟨css,hown,hden⟩,hbase⟩:=hO;obtain ⟨hu,inf,hinf,hsize,hbs⟩:=τok.slcs 247 248 1 8 rfl;obtain ⟨inf',v0,hinf',hv,hcz,hsz'⟩:=dg' τok (T:=248) (z:=[iV 0]) rfl;have:inf' = inf:=by rw [hinf'] at hinf; simpa using hinf
 subst this;have hzs:v0.cells.size = 1:=by rw [hcz]; rfl
 have hzc:(Builtin.zeroCells v0.cells k).toList = List.replicate k (iV 0):=by
  simp only [Builtin.zeroCells,hzs,Nat.mul_one];rw [Array.toList_map,Array.toList_range];apply List.ext_getElem
  ·simp
  ·intro i h1 h2
   simp only [List.getElem_map,List.getElem_replicate,Nat.mod_one];rw [hcz]
   rfl
 have hzc':Builtin.zeroCells v0.cells k = (List.replicate k (iV 0)).toArray:=by
  apply Array.ext';rw [hzc]
 have hll:=hown.1;have hrs:rInt.sz = 1:=rfl;rw [hrs,Nat.mul_one] at hll;have fin:∀ {v' w'},w'.ownsRow lo 248 rInt.sz v' (l.length + k) (css.flatten ++ List.replicate k (iV 0)) -> Kp v.ownBlock.toList w w' -> Own rInt 248 lo w' v' (l ++ List.replicate k 0):=fun {v' w'} h hk=>by
  refine ⟨⟨css ++ List.replicate k [iV 0],?_,?_⟩,Nat.le_trans hbase hk.size⟩
  ·have:(css ++ List.replicate k [iV 0]).flatten = css.flatten ++ List.replicate k (iV 0):=by
    rw [List.flatten_append,List.flatten_replicate_singleton]
   rw [this]
   simpa using h
  ·refine All2.append (hden.mono fun cs x hx=>gj' _ _ _ _ hx) ?_
   have:∀ j:Nat,All2 (rInt.den (Dn lo v' w')) (List.replicate j [iV 0]) (List.replicate j 0):=by
    intro j
    induction j with
    | zero=>trivial
    | succ j ih=>exact ⟨⟨rfl,(by decide:(-9223372036854775808:Int) <= 0),(by decide:(0:Int) <= 9223372036854775807)⟩,ih⟩
   exact this k
 have grown:∀ (old:Nat),old < l.length + k -> (w.drew.alloc (.cells (css.flatten.toArray ++ Builtin.zeroCells v0.cells k ++ Builtin.zeroCells v0.cells (grownCap w (l.length + k) old 248 - (l.length + k))) 248)).ownsRow lo 248 rInt.sz
    (.slice (some ⟨w.heap.size,0,none⟩) (l.length + k) (grownCap w (l.length + k) old 248)) (l.length + k) (css.flatten ++ List.replicate k (iV 0)) /\
   Kp v.ownBlock.toList w (w.drew.alloc (.cells (css.flatten.toArray ++ Builtin.zeroCells v0.cells k ++ Builtin.zeroCells v0.cells (grownCap w (l.length + k) old 248 - (l.length + k))) 248)):=by
  intro old ho;have hge:=grownCap_ge w (l.length + k) old 248;have hcm:grownCap w (l.length + k) old 248 <= maxLen:=grownCap_le_maxLen w (l.length + k) old 248 (by unfold maxLen; omega);refine ⟨⟨by simp [hll,hrs],.inr ⟨w.heap.size,_,_,rfl,hbase,heap_alloc_new w.drew _,hge,hcm,?_,?_⟩⟩,⟨rfl,rfl,rfl,by
   show w.heap.size <= (w.heap.push _).size;simp,fun b hb _=>by
   show (w.heap.push _)[b]? = _;rw [Array.getElem?_push_lt hb]; simp [hb]⟩⟩
  ·simp only [Array.size_append,List.size_toArray,size_zeroCells,hzs,hll,hrs,Nat.mul_one]
   omega
  ·rw [Array.toList_append,Array.toList_append,hzc]
   have:(css.flatten ++ List.replicate k (iV 0)).length = (l.length + k) * rInt.sz:=by simp [hll,hrs]
   rw [<- this];exact List.take_left
 rcases hown.2 with ⟨rfl,h00⟩ | ⟨g,cap,cur,rfl,hbg,hg,hnc,hcm,hcs,htake⟩
 ·have hx:css.flatten = []:=List.eq_nil_of_length_eq_zero (by rw [hll,h00])
  have h:=Lib.run_append_grow_zeros (P:=Tryz.prog) w 247 3 ty 248 inf' v0 .i64 .i64 hu Tryz.underlying3 hinf' hv none 0 0 [] (run_firstCells_none (w:=w.drew) inf'.size 0 0 0) k h0 (by omega) (by omega) (by simp; omega) (by rw [hbs]; omega)
   (by rw [hbs]; exact growslice_fits (by omega) (by omega))
  have hgr:=grown 0 (by omega);rw [h00] at hgr;rw [hx] at hgr;rw [h00,hx] at fin;exact run h (hK _ _ (fin hgr.1 hgr.2) hgr.2)
 ·by_cases hroom:l.length + k <= cap
  ·have hrun:(Builtin.append_ #[247,3] ty #[.slice (some ⟨g,0,none⟩) l.length cap,iV (k:Int)]).run Tryz.prog w = .ok (.slice (some ⟨g,0,none⟩) (l.length + k) cap) (w.setRow g (cur.toList.take (l.length) ++ List.replicate k (iV 0) ++ cur.toList.drop (l.length + k)).toArray):=by
    have hkn:k ≠ 0:=by omega
    have hw:IntKind.i64.wrap (k:Int) = k:=by rw [IntKind.wrap_i64]; omega
    have h48i:¬ (281474976710656 < (k:Int) * (inf'.bytes:Int)):=by rw [hbs]; omega
    have hneg:¬ ((k:Int) < 0):=by omega
    have hns:¬ (k * inf'.size = 0):=Nat.mul_ne_zero hkn (by omega);have hst:=run_storeCells_at Tryz.prog g l.length 248 (List.replicate k (iV 0)) 0 cur w hg (by simp; rw [hcs,hrs]; omega) (fun u hu=>by rw [(List.mem_replicate.1 hu).2]; rfl);simp only [Nat.add_zero,List.length_replicate] at hst;simp [Builtin.append_,run_underlying hu,run_underlying Tryz.underlying3,sizeOf,typeInfo,zeroValue,hinf',hv,asInt,asIntOf,hw,hneg,h48i,hns,hroom,hzc',hsize,Addr.add_lit,hkn,hst]
   refine run hrun (hK _ _ (fin ?_ ?_) ?_)
   ·refine ⟨by simp [hll,hrs],.inr ⟨g,cap,_,rfl,hbg,setRow_heap w g cur _ 248 _ hg,hroom,hcm,?_,?_⟩⟩
    ·simp only [List.size_toArray,List.length_append,List.length_take,List.length_drop,Array.length_toList,List.length_replicate,hcs,hrs]
     omega
    ·have ht:cur.toList.take l.length = css.flatten:=by simpa [hrs] using htake
     rw [ht];have:(css.flatten ++ List.replicate k (iV 0)).length = (l.length + k) * rInt.sz:=by simp [hll,hrs]
     rw [<- this];exact List.take_left
   ·exact ⟨rfl,rfl,rfl,by simp,fun b _ hb=>setRow_other w g b _ (fun e=>hb (by simp [Value.ownBlock,e]))⟩
   ·exact ⟨rfl,rfl,rfl,by simp,fun b _ hb=>setRow_other w g b _ (fun e=>hb (by simp [Value.ownBlock,e]))⟩
  ·have holds:∀ j u,css.flatten[j]? = some u -> w.cell? ((⟨g,0,none⟩:Addr).add j) = some u:=hown.cells (g:=g) rfl
   have hf:=run_firstCells_some (P:=Tryz.prog) w.drew inf'.size l.length ⟨g,0,none⟩ l.length cap css.flatten (by rw [hll,hsize]; omega) (by simpa using holds);have h:=Lib.run_append_grow_zeros (P:=Tryz.prog) w 247 3 ty 248 inf' v0 .i64 .i64 hu Tryz.underlying3 hinf' hv (some ⟨g,0,none⟩) l.length cap css.flatten hf k h0 (by omega) (by omega) (by omega) (by rw [hbs]; omega)
    (by rw [hbs]; exact growslice_fits (by omega) (by omega))
   have hgr:=grown cap (by omega);exact run h (hK _ _ (fin hgr.1 hgr.2) hgr.2)
theorem TmV.cutT {x y:Tr} {v:Value} {p:List Nd} (h:TmV C x v) (e:row x = p ++ row y):∃ a c,v = .slice a (row x).length c /\ p.length <= (row x).length /\ ∃ v',sliced a p.length (row x).length c 3 = v' /\ TmV C y v':=by
 obtain ⟨a,c,h1,h2,_,v',h3,h4⟩:=h.cut (p:=p) (q:=[]) (y:=y) (by rw [e,List.append_nil]);have hl:(row x).length = p.length + (row y).length:=by rw [e]; simp
 exact ⟨a,c,h1,by omega,v',by rw [hl]; exact h3,h4⟩
theorem jl' (hS:Sub C w) {x:Tr} (hx:Ok .tm x) (hlen:(row x).length <= 4096) {v:Value} (hv:TmV C x v) :
  CC 200 #[v] w (fun e w'=>(∃ u z,e = .returned (.tuple #[u,z]) /\ TmV C (headT x) u /\ TmsV (Cn C w w') (argsT x) z) /\ Kp [] w w'):=by
 refine oF Tryz.func200 ?_;have hall:=dc' (row x).length x (Nat.le_refl _) hx;obtain ⟨_,_,rfl,_,_⟩:=id hv;refine cO (args:=[_]) 26 [.tmp 2,.tmp 3] τok Tryz.func200 ?_;refine lp τok (σ:=Tr × Value × Value × List Value × List Tr) (fun q=>[(0,q.2.1),(4,q.2.2.1)])
  (fun q w'=>Ok .tm q.1 /\ (row q.1).length <= 4096 /\ TmV C q.1 q.2.1 /\ Own eh' 35 w.heap.size w' q.2.2.1 q.2.2.2.1 /\ Kp [] w w' /\ Pcs C q.2.2.2.1 q.2.2.2.2 /\ headT q.1 = headT x /\ argsT q.1 ++ q.2.2.2.2.reverse = argsT x)
  (fun q=>(row q.1).length) (x,_,.slice none 0 0,[],[]) rfl
  ⟨rfl,rfl,trivial⟩ ⟨hx,hlen,hv,Own.nil _ _ (Nat.le_refl _),Kp.refl _ _,⟨rfl,fun i v y hv=>by simp at hv⟩,rfl,by simp⟩ ?_
 rintro ⟨y,vy,vo,os,ys⟩ w2 ⟨hok,hrl,hvy,hO,hk2,hpc,hhd,har⟩;simp only at hok hrl hvy hO hpc hhd har;have hvy':=hvy;obtain ⟨b,o,c,rfl,i1,i2,i3,hcells⟩:=hvy.hd;have hS2:=hS.tr hk2;have hol:os.length <= 4096:=by
  have:=congrArg List.length har;rw [List.length_append,List.length_reverse,<- hpc.1] at this;have:=hall.2.1;omega
 refine ix 0 rfl (ag' _) ?_;refine ldC hS2 (by simpa using hcells 0 _ rfl) ?_;refine ac' (fun h6=>?_) (fun h6=>?_)
 ·have h6:y.n.op = 6:=h6
  obtain ⟨n,ks⟩:=y;have g6:n.op = 6:=h6;obtain ⟨f,u,rfl,hf,hu⟩:=dj' hok g6;have hr:row (.mk n [f,u]) = n :: (row f ++ row u):=by simp [row,rows]
  rw [bD' g6] at hhd;rw [cz' g6] at har;have hpu:=ag' u;have hpf:=ag' f;have hTl:(row (.mk n [f,u])).length = 1 + (row f).length + (row u).length:=by rw [hr]; simp; omega
  have e1:row (.mk n [f,u]) = [n] ++ (row f ++ row u):=hr;have e2:row (.mk n [f,u]) = (n :: row f) ++ row u:=by rw [hr]; rfl
  refine ab' (cA' hS2 hvy' hrl e1 hf (i:=1) rfl) ?_;rintro e w3 ⟨rfl,hk3⟩;obtain ⟨a3,c3,q3,hle3,v3,hs3,hT3⟩:=hvy'.cutT e2;injection q3 with q1 _ q2
  subst q1 q2;have hfl:(n :: row f).length = 1 + (row f).length:=by simp; omega
  refine iE' τok rfl (n :: row f).length v3 (by simp; omega) hle3 hs3 ?_;obtain ⟨az,cz,rfl,hz1,hz2⟩:=id hT3;refine fill [.slice az (row u).length cz] rfl ?_;refine new fun bx w5 hbx hX hs5 hk5=>?_;have k25:=hk3.tr hk5;have hO5:=hO.kp k25;refine hO5.ap1 τok rfl rfl (by decide) (.slice az (row u).length cz) [.slice az (row u).length cz] ⟨rfl,rfl⟩ (bZ hX) (by omega) (by simp only [maxLen]; omega) fun v6 w6 hO6 hk6 _=>?_;obtain ⟨a7,c7,q7,hle7,hc7,v7,hs7,hT7⟩:=hvy'.cut e1;injection q7 with q1 _ q2
  subst q1 q2;refine hU' τok rfl 1 (1 + (row f).length) v7 rfl (by simp) (by omega) (by simp at hle7; omega) hs7 ?_;have k06:Kp [] w w6:=(hk2.tr k25).own hk6 hO5;refine ⟨(f,v7,v6,os ++ [.slice az (row u).length cz],ys ++ [u]),by simp only; omega,rfl,⟨rfl,rfl,trivial⟩,hf,by simp only; omega,hT7,hO6,k06,Pcs.snoc hpc hz1 hz2,hhd,?_⟩;rw [<- har];simp
 ·have h6:¬ y.n.op = 6:=h6
  obtain ⟨n,ks⟩:=y;have g6:¬ n.op = 6:=h6;rw [bh' g6] at hhd;rw [bW' g6,List.nil_append] at har;refine ab' (oJ' hO (by omega)) ?_;rintro e w3 ⟨rfl,hO3,hk3⟩;have k03:Kp [] w w3:=hk2.own hk3 hO;rw [<- hhd,<- har];exact ⟨⟨_,_,rfl,hvy',Own.tms hO3 ((hpc.rev).mono fun _ _ _ h=>.inl h) (fun _ _ _ h=>.inr h) (by simp; omega)⟩,k03⟩
def rC' (x:Tr) (m:List Int):Bool:=decide ((headT x).n.op = 1) && decide (ofM m (headT x).n.a = 2)
theorem tx' (hS:Sub C w) {x:Tr} (hx:Ok .tm x) (hlen:(row x).length <= 4096) {v vm:Value} (hv:TmV C x v) {m:List Int} (hm:SV rInt C m vm) (hl:m.length <= 1000000) :
  CC 219 #[v,vm] w (fun e w'=>e = .returned (.bool (rC' x m)) /\ Kp [] w w'):=by
 refine oF Tryz.func219 ?_;obtain ⟨_,_,rfl,_,_⟩:=id hv;obtain ⟨_,_,rfl,_,_⟩:=id hm;refine cO (args:=[_,_]) 26 [.tmp 4] τok Tryz.func219 ?_;refine ab' (jl' hS hx hlen hv) ?_;rintro e w1 ⟨⟨u,z,rfl,hu,hz⟩,hk1⟩;obtain ⟨b,o,c,rfl,_,_,_,hc⟩:=hu.hd;obtain ⟨_,_,rfl,_,_⟩:=hz;refine ix 0 rfl (ag' _) ?_;refine ldC (hS.tr hk1) (by simpa using hc 0 _ rfl) ?_;refine ac' (fun g=>?_) (fun g=>?_)
 ·have g:(headT x).n.op = 1:=g
  refine ix 0 rfl (ag' _) ?_;refine ldC (hS.tr hk1) (by simpa using hc 1 _ rfl) ?_;have hp:=aW' (dc' _ x (Nat.le_refl _) hx).2.2.1.pl;refine ab' (tw' (hS.tr hk1) hm hp.2.2.1 hl) ?_;rintro e w2 ⟨rfl,hk2⟩;refine ⟨?_,hk1.tr hk2⟩;unfold rC';rw [decide_eq_true g,Bool.true_and]
  rfl
 ·have g:¬ (headT x).n.op = 1:=g
  refine ⟨?_,hk1⟩;unfold rC';rw [decide_eq_false g,Bool.false_and]
  rfl
end
end Go.Proofs.YtmpgcpemnjbgjaaGreat
