import Derived.Test.YtpealcfjbcpoiaaGreatMl12
set_option linter.unusedVariables false
set_option linter.unusedSimpArgs false
set_option maxRecDepth 100000
set_option maxHeartbeats 4000000
namespace Go.Proofs.YtpealcfjbcpoiaaGreat
open Go.Wx Cd Tm Lv
theorem fe' {Q:Nd -> Prop} {N:Int} {x:Tr} (h:Ft Q N x) (h1:x.n.op ≠ 4 /\ x.n.op ≠ 5 /\ x.n.op ≠ 7 /\ x.n.op ≠ 12):∀ y ∈ kidsT x,Ft Q N y:=by
 intro y hy;obtain ⟨i,hi⟩:=JH hy;obtain ⟨n,ks⟩:=x;have:=h.kid hi;simp only [Tr.n] at h1;have e:kb n i = 0:=by simp [kb,aJ',h1]
 rwa [e,Int.add_zero] at this
theorem nO' {S:World -> Prop} {b o n:Nat} {k:Value -> Prop} (cs:List Value) (hn:cs.length = n) (h:∀ w,S w -> ∀ j v,cs[j]? = some v -> Cl w.heap b (o + j) v) (hk:k (.agg cs.toArray)):EvLdNQ S ⟨b,o,none⟩ n k:=by
 unfold EvLdNQ;refine ⟨cs,hn,fun w hw j v hv=>?_,hk⟩;rw [dO'];exact (h w hw j v hv).cell
theorem sw' {X:List Nat} {w:World} {b T:Nat} {z:Value} {x:Tr} (hB:Bk w.heap b [z,.slice none 0 0] T) (hb:b ∉ X) (hz:TmV (Im X w) x z):SV rBd (Im X w) (List.map bdR [(x,none)]) (.slice (some ⟨b,0,none⟩) 1 1):=by
 refine ⟨some ⟨b,0,none⟩,1,rfl,⟨by simp,.inr ⟨b,0,rfl,fun i q hq=>?_⟩⟩,by simp⟩
 match i,hq with
 | 0,hq =>
  obtain rfl:(row x,[]) = q:=by simpa [bdR,nM'] using hq
  refine ⟨[z,.slice none 0 0],⟨z,_,rfl,hz,SV.nil _ _⟩,fun j u hj=>⟨?_,hb⟩⟩;rw [Nat.zero_mul,Nat.add_zero,KW];exact hB.cl hj
 | i + 1,hq=>simp at hq
section
variable {B:BoT} {g:Nat} {rc:RcC} {cx:Ctx} {X:List Nat} {w:World} {bj:Nat} {n:Nat}
theorem rv' (hrc:pq' B g rc) (hle:st' rc) (hX:XL X w) (hbj:bj ∈ X) (hcx:CxOk B cx) (hcl:cx.length <= 256) (hJ:CmpC (Im X w) w bj B cx n 0) (hn:n <= g) (hn1:n <= 100000) {f h:Tr} (hf:Ft (QB B) (cx.length:Int) f) (hh:Ft (QB B) (cx.length:Int) h) (hfh:f.n.op = h.n.op) (h7:f.n.op ≠ 7)
  {vf vh:Value} (hvf:TmV (Im X w) f vf) (hvh:TmV (Im X w) h vh) (u:Bool) :
  CC 142 #[pt bj,vf,vh,.bool u] w (uz' X w bj B cx (dH' B rc cx f h u n)):=by
 refine oF Tryz.func142 ?_;obtain ⟨RES,hRES⟩:∃ r,dH' B rc cx f h u n = r:=⟨_,rfl⟩
 rw [hRES];unfold dH' at hRES;have hvf':=hvf;have hvh':=hvh;obtain ⟨bf,of,cf,rfl,_,_,_,hcf⟩:=hvf.hd;obtain ⟨bh,oh,ch,rfl,_,_,_,hch⟩:=hvh.hd;refine cO (args:=[_,_,_,_]) 107 [.tmp 8] τok Tryz.func142 ?_;refine ab' (dU' (Im.sub X w) (fun _ _ _ h=>h.hold) hf hvf') ?_;rintro e w1 ⟨va,rfl,hka,hk1⟩;have tr1:∀ b o v,Im X w b o v -> Im X w1 b o v:=fun b o v h=>h.tr hk1;refine ab' (dU' (Im.sub X w1) (fun _ _ _ h=>h.hold) hh (hvh'.mono tr1)) ?_;rintro e w2 ⟨vb,rfl,hkb,hk2⟩;have k02:=hk1.tr hk2;have hX1:=xU hX hk1;have hX2:=xU hX k02;have hka2:TmsV (Im X w2) (kidsT f) va:=(hka.tv hX).mono fun _ _ _ h=>h.tr hk2;have hkb2:TmsV (Im X w2) (kidsT h) vb:=hkb.tv hX1;have tr2:∀ b o v,Im X w b o v -> Im X w2 b o v:=fun b o v h=>h.tr k02;have hJ2:CmpC (Im X w2) w2 bj B cx n 0:=(hJ.mono tr2).kp k02 (by simp);have kw:∀ {w'},Kp [] w w' -> Kp [bj] w w':=fun k=>k.weak (by simp);have hka3:=hka2;have hkb3:=hkb2;obtain ⟨aa,ca,rfl,_,_⟩:=hka3;obtain ⟨ab,cb,rfl,_,_⟩:=hkb3;refine ix 0 rfl (ag' _) ?_;refine ldC (Im.sub X w2) (tr2 _ _ _ (by simpa using hcf 0 _ rfl)) ?_;refine ac' (fun g1=>?_) (fun g1=>?_)
 ·have g1:f.n.op = 2:=g1
  rw [if_pos g1] at hRES;refine ab' (rt' (Im.sub X w2) hJ2 hf hh g1 (by omega) (hvf'.mono tr2) (hvh'.mono tr2) u) ?_;rintro e w3 ⟨rfl,hk3⟩;subst hRES;exact ⟨⟨rfl,(hJ2.mono fun _ _ _ h=>h.tr hk3).kp hk3 (by simp)⟩,kw (k02.tr hk3)⟩
 have g1:¬ f.n.op = 2:=g1;rw [if_neg g1] at hRES;refine ac' (fun g2=>?_) (fun g2=>?_)
 ·have g2:f.n.op = 4:=g2
  rw [if_pos g2] at hRES;obtain ⟨hkk,hkl⟩:=bn' hf.ok (by omega) (by omega);obtain ⟨hkk',hkl'⟩:=bn' hh.ok (by omega) (by omega);have hkc:ar' f.n = 2:=by simp [ar',g2]
  have hkc':ar' h.n = 2:=by simp [ar',<- hfh,g2]
  obtain ⟨e1,_⟩:=hf.kidD (k:=0) (by rw [hkk]; omega);obtain ⟨e2,_⟩:=hf.kidD (k:=1) (by rw [hkk]; omega);obtain ⟨e3,_⟩:=hh.kidD (k:=0) (by rw [hkk']; omega);obtain ⟨e4,_⟩:=hh.kidD (k:=1) (by rw [hkk']; omega);have f1:=hf.kidN 0 (by rw [hkk]; omega) (b:=0) (by simp [kb,aJ',g2]);have f2:=hf.kidN 1 (by rw [hkk]; omega) (b:=1) (by simp [kb,aJ',g2]);have f3:=hh.kidN 0 (by rw [hkk']; omega) (b:=0) (by simp [kb,aJ',<- hfh,g2]);have f4:=hh.kidN 1 (by rw [hkk']; omega) (b:=1) (by simp [kb,aJ',<- hfh,g2]);rw [Int.add_zero] at f1 f3;have hcx':CxOk B (cx ++ [(kidD f 0,none)]):=hcx.snoc f1 fun x hx=>by cases hx
  have hcl1:(cx ++ [(kidD f 0,none)]).length = cx.length + 1:=by simp
  have f2':Ft (QB B) ((cx ++ [(kidD f 0,none)]).length:Int) (kidD f 1):=by rw [hcl1]; exact f2.mono (by omega)
  have f4':Ft (QB B) ((cx ++ [(kidD f 0,none)]).length:Int) (kidD h 1):=by rw [hcl1]; exact f4.mono (by omega)
  obtain ⟨b1,o1,c1,p1,z1,hz1,hzT1⟩:=hka2.get e1;obtain ⟨b2,o2,c2,p2,z2,hz2,hzT2⟩:=hka2.get e2;obtain ⟨b3,o3,c3,p3,z3,hz3,hzT3⟩:=hkb2.get e3;obtain ⟨b4,o4,c4,p4,z4,hz4,hzT4⟩:=hkb2.get e4;injection p1 with q1 q2 q3
  subst q1 q3;injection p2 with q1 q2 q3
  injection q1 with q1
  injection q1 with q1 q4
  subst q1 q4;injection p3 with q1 q2 q3
  subst q1 q3;injection p4 with q1 q2 q3
  injection q1 with q1
  injection q1 with q1 q4
  subst q1 q4;obtain ⟨az1,cz1,rfl,_,_⟩:=id hzT1;refine as' τok (fun z=>Kp [bj] w2 z) ?_;refine rV τok (rg 0 7) 18 (mR 25 7) ((Kp.refl [bj] w2).dr _) ?_;refine ix 0 rfl (by rw [hkk]; omega) ?_;refine ldI hbj hz1 ?_;refine ix 0 rfl (by rw [hkk']; omega) ?_;refine ldI hbj hz3 ?_;refine nV τok 7 17 (mR 25 8) ?_;refine ab' (hrc X (dr w2) bj cx _ _ false n _ z3 hX2 hbj hcx (by omega) hJ2 f1 f3 hn hn1 hzT1 hzT3) ?_;rintro e w3 ⟨he,hk3⟩;have hk3:Kp [bj] w2 w3:=hk3.rd;have k03:Kp [bj] w w3:=(kw k02).tq hk3;cases hr:rc cx (kidD f 0) (kidD h 0) false n with
  | error er =>
   rw [hr] at he hRES;obtain ⟨rfl,her,y,hJ3⟩:=he;refine ⟨.inl hk3,?_⟩;refine rV τok [8,9,10,11,12,13,15,16,17,18,19,20,21] 4 (mB 25 [14,22,23,24]) hk3 ?_;refine nV τok 14 3 (mR 25 22) ?_;refine ⟨.inl hk3,?_⟩;refine nV τok 22 2 (mR 25 23) ?_;refine ⟨.inl hk3,?_⟩;refine rV τok [23,24] 0 (mR 25 25) hk3 ?_;refine dV ?_;simp only [fr'] at hRES;subst hRES;exact ⟨⟨rfl,her,y,hJ3⟩,k03⟩
  | ok q =>
   obtain ⟨b,m2⟩:=q;rw [hr] at he hRES;obtain ⟨rfl,hJ3⟩:=he;have hm2:=hle _ _ _ _ _ _ hr;simp only at hm2 hJ3;refine ⟨.inl hk3,?_⟩;cases b with
   | false =>
    refine rV τok [8,9,10,11,12,13,15,16,17,18,19,20,21] 4 (mB 25 [14,22,23,24]) hk3 ?_;refine nV τok 14 3 (mR 25 22) ?_;refine ⟨.inl hk3,?_⟩;refine nV τok 22 2 (mR 25 23) ?_;refine ⟨.inl hk3,?_⟩;refine rV τok [23,24] 0 (mR 25 25) hk3 ?_;refine dV ?_;simp only [fr'] at hRES;rw [if_neg (by decide)] at hRES;subst hRES;exact ⟨⟨rfl,hJ3⟩,k03⟩
   | true =>
    simp only [fr',if_true] at hRES;refine rV τok [8,9,10,11,12,13,15,16,17,18,19,20,21] 4 (mB 25 [14,22,23,24]) hk3 ?_;refine ix 0 rfl (by rw [hkk]; omega) ?_;refine ldI hbj hz1 ?_;refine ix 1 rfl (by rw [hkk]; omega) ?_;refine ldI hbj hz2 ?_;refine ix 1 rfl (by rw [hkk']; omega) ?_;refine ldI hbj hz4 ?_;refine nV τok 14 3 (mR 25 22) ?_;refine fill [.slice az1 (row (kidD f 0)).length cz1,.slice none 0 0] rfl ?_;refine new fun b5 w4 hb5 h5 hs4 hk4=>?_;have k24:Kp [bj] w2 w4:=hk3.tr hk4;have k04:Kp [bj] w w4:=k03.tr hk4;refine ⟨.inl k24,?_⟩;have hX4:=xU hX k04;have hb5n:b5 ∉ X:=fun hm=>by
     have:=KZ (hX _ hm) k03.size;omega
    have tr4:=Im.kb k24 hbj;refine nV τok 22 2 (mR 25 23) ?_;refine ab' (ho' (mo:=[(kidD f 0,none)]) hrc hX4 hbj ((hJ3.mono fun _ _ _ h=>h.tr hk4).kp hk4 (by simp)) (by omega) (by omega) (by simp) hcx' (by omega) f2' f4' (sw' h5 hb5n (hzT1.mono tr4)) (hzT2.mono tr4) (hzT4.mono tr4) u) ?_;rintro e w5 ⟨he,hk5⟩;have k25:Kp [bj] w2 w5:=k24.tq hk5;have k05:Kp [bj] w w5:=k04.tq hk5;rw [hRES] at he;cases RES with
    | error er =>
     obtain ⟨rfl,her,y,hJ5⟩:=he;refine ⟨.inl k25,?_⟩;refine rV τok [23,24] 0 (mR 25 25) k25 ?_;refine dV ?_;exact ⟨⟨rfl,her,y,hJ5⟩,k05⟩
    | ok q =>
     obtain ⟨rfl,hJ5⟩:=he;refine ⟨.inl k25,?_⟩;refine rV τok [23,24] 0 (mR 25 25) k25 ?_;refine dV ?_;exact ⟨⟨rfl,hJ5⟩,k05⟩
 have g2:¬ f.n.op = 4:=g2;rw [if_neg g2] at hRES;refine ac' (fun g3=>?_) (fun g3=>?_)
 ·have g3:f.n.op = 5:=g3
  rw [if_pos g3] at hRES;obtain ⟨hkk,hkl⟩:=bn' hf.ok (by omega) (by omega);obtain ⟨hkk',hkl'⟩:=bn' hh.ok (by omega) (by omega);have hkc:ar' f.n = 2:=by simp [ar',g3]
  have hkc':ar' h.n = 2:=by simp [ar',<- hfh,g3]
  obtain ⟨e1,_⟩:=hf.kidD (k:=0) (by rw [hkk]; omega);obtain ⟨e2,_⟩:=hf.kidD (k:=1) (by rw [hkk]; omega);obtain ⟨e3,_⟩:=hh.kidD (k:=0) (by rw [hkk']; omega);obtain ⟨e4,_⟩:=hh.kidD (k:=1) (by rw [hkk']; omega);have f1:=hf.kidN 0 (by rw [hkk]; omega) (b:=0) (by simp [kb,aJ',g3]);have f2:=hf.kidN 1 (by rw [hkk]; omega) (b:=1) (by simp [kb,aJ',g3]);have f3:=hh.kidN 0 (by rw [hkk']; omega) (b:=0) (by simp [kb,aJ',<- hfh,g3]);have f4:=hh.kidN 1 (by rw [hkk']; omega) (b:=1) (by simp [kb,aJ',<- hfh,g3]);rw [Int.add_zero] at f1 f3;have hcx':CxOk B (cx ++ [(kidD f 0,none)]):=hcx.snoc f1 fun x hx=>by cases hx
  have hcl1:(cx ++ [(kidD f 0,none)]).length = cx.length + 1:=by simp
  have f2':Ft (QB B) ((cx ++ [(kidD f 0,none)]).length:Int) (kidD f 1):=by rw [hcl1]; exact f2.mono (by omega)
  have f4':Ft (QB B) ((cx ++ [(kidD f 0,none)]).length:Int) (kidD h 1):=by rw [hcl1]; exact f4.mono (by omega)
  obtain ⟨b1,o1,c1,p1,z1,hz1,hzT1⟩:=hka2.get e1;obtain ⟨b2,o2,c2,p2,z2,hz2,hzT2⟩:=hka2.get e2;obtain ⟨b3,o3,c3,p3,z3,hz3,hzT3⟩:=hkb2.get e3;obtain ⟨b4,o4,c4,p4,z4,hz4,hzT4⟩:=hkb2.get e4;injection p1 with q1 q2 q3
  subst q1 q3;injection p2 with q1 q2 q3
  injection q1 with q1
  injection q1 with q1 q4
  subst q1 q4;injection p3 with q1 q2 q3
  subst q1 q3;injection p4 with q1 q2 q3
  injection q1 with q1
  injection q1 with q1 q4
  subst q1 q4;obtain ⟨az1,cz1,rfl,_,_⟩:=id hzT1;refine as' τok (fun z=>Kp [bj] w2 z) ?_;refine rV τok (rg 0 7) 17 (mR 24 7) ((Kp.refl [bj] w2).dr _) ?_;refine ix 0 rfl (by rw [hkk]; omega) ?_;refine ldI hbj hz1 ?_;refine ix 0 rfl (by rw [hkk']; omega) ?_;refine ldI hbj hz3 ?_;refine nV τok 7 16 (mR 24 8) ?_;refine ab' (hrc X (dr w2) bj cx _ _ false n _ z3 hX2 hbj hcx (by omega) hJ2 f1 f3 hn hn1 hzT1 hzT3) ?_;rintro e w3 ⟨he,hk3⟩;have hk3:Kp [bj] w2 w3:=hk3.rd;have k03:Kp [bj] w w3:=(kw k02).tq hk3;cases hr:rc cx (kidD f 0) (kidD h 0) false n with
  | error er =>
   rw [hr] at he hRES;obtain ⟨rfl,her,y,hJ3⟩:=he;refine ⟨.inl hk3,?_⟩;refine rV τok [8,9,10,11,12,13,15,16,17,18,19,20] 4 (mB 24 [14,21,22,23]) hk3 ?_;refine nV τok 14 3 (mR 24 21) ?_;refine ⟨.inl hk3,?_⟩;refine nV τok 21 2 (mR 24 22) ?_;refine ⟨.inl hk3,?_⟩;refine rV τok [22,23] 0 (mR 24 24) hk3 ?_;refine dV ?_;simp only [fr'] at hRES;subst hRES;exact ⟨⟨rfl,her,y,hJ3⟩,k03⟩
  | ok q =>
   obtain ⟨b,m2⟩:=q;rw [hr] at he hRES;obtain ⟨rfl,hJ3⟩:=he;have hm2:=hle _ _ _ _ _ _ hr;simp only at hm2 hJ3;refine ⟨.inl hk3,?_⟩;cases b with
   | false =>
    refine rV τok [8,9,10,11,12,13,15,16,17,18,19,20] 4 (mB 24 [14,21,22,23]) hk3 ?_;refine nV τok 14 3 (mR 24 21) ?_;refine ⟨.inl hk3,?_⟩;refine nV τok 21 2 (mR 24 22) ?_;refine ⟨.inl hk3,?_⟩;refine rV τok [22,23] 0 (mR 24 24) hk3 ?_;refine dV ?_;simp only [fr'] at hRES;rw [if_neg (by decide)] at hRES;subst hRES;exact ⟨⟨rfl,hJ3⟩,k03⟩
   | true =>
    simp only [fr',if_true] at hRES;refine rV τok [8,9,10,11,12,13,15,16,17,18,19,20] 4 (mB 24 [14,21,22,23]) hk3 ?_;refine ix 0 rfl (by rw [hkk]; omega) ?_;refine ldI hbj hz1 ?_;refine ix 1 rfl (by rw [hkk]; omega) ?_;refine ldI hbj hz2 ?_;refine ix 1 rfl (by rw [hkk']; omega) ?_;refine ldI hbj hz4 ?_;refine nV τok 14 3 (mR 24 21) ?_;refine fill [.slice az1 (row (kidD f 0)).length cz1,.slice none 0 0] rfl ?_;refine new fun b5 w4 hb5 h5 hs4 hk4=>?_;have k24:Kp [bj] w2 w4:=hk3.tr hk4;have k04:Kp [bj] w w4:=k03.tr hk4;refine ⟨.inl k24,?_⟩;have hX4:=xU hX k04;have hb5n:b5 ∉ X:=fun hm=>by
     have:=KZ (hX _ hm) k03.size;omega
    have tr4:=Im.kb k24 hbj;refine nV τok 21 2 (mR 24 22) ?_;refine ab' (ho' (mo:=[(kidD f 0,none)]) hrc hX4 hbj ((hJ3.mono fun _ _ _ h=>h.tr hk4).kp hk4 (by simp)) (by omega) (by omega) (by simp) hcx' (by omega) f2' f4' (sw' h5 hb5n (hzT1.mono tr4)) (hzT2.mono tr4) (hzT4.mono tr4) false) ?_;rintro e w5 ⟨he,hk5⟩;have k25:Kp [bj] w2 w5:=k24.tq hk5;have k05:Kp [bj] w w5:=k04.tq hk5;rw [hRES] at he;cases RES with
    | error er =>
     obtain ⟨rfl,her,y,hJ5⟩:=he;refine ⟨.inl k25,?_⟩;refine rV τok [22,23] 0 (mR 24 24) k25 ?_;refine dV ?_;exact ⟨⟨rfl,her,y,hJ5⟩,k05⟩
    | ok q =>
     obtain ⟨rfl,hJ5⟩:=he;refine ⟨.inl k25,?_⟩;refine rV τok [22,23] 0 (mR 24 24) k25 ?_;refine dV ?_;exact ⟨⟨rfl,hJ5⟩,k05⟩
 have g3:¬ f.n.op = 5:=g3;rw [if_neg g3] at hRES;refine ac' (fun g4=>?_) (fun g4=>?_)
 ·have g4:f.n.op = 12:=g4
  rw [if_pos g4] at hRES;refine as' τok (fun z=>Kp [bj] w2 z) ?_;refine rV τok (rg 0 13) 3 (mR 16 13) ((Kp.refl [bj] w2).dr _) ?_;refine ix 0 rfl (ag' _) ?_;refine nO' [iV f.n.op,iV f.n.a,iV f.n.b] rfl (fun z hz j v hj=>(Im.kb hz hbj _ _ _ (tr2 _ _ _ (by simpa using hcf j v hj))).1) ?_;refine ix 0 rfl (ag' _) ?_;refine nO' [iV h.n.op,iV h.n.a,iV h.n.b] rfl (fun z hz j v hj=>(Im.kb hz hbj _ _ _ (tr2 _ _ _ (by simpa using hch j v hj))).1) ?_;refine sR' (v:=.bool (decide (f.n = h.n))) (fun w _=>gq' _ _ f.n h.n w) ?_;refine ac' (fun g5=>?_) (fun g5=>?_)
  ·rw [if_pos g5] at hRES
   refine nV τok 13 2 (mR 16 14) ?_;refine ab' (ru' (w:=(dr w2)) hrc hle hX2 hbj hcx hcl hJ2 hn hn1 hf hh g4 g5 (hvf'.mono tr2) (hvh'.mono tr2) hka2 hkb2) ?_;rintro e w3 ⟨he,hk3⟩;have hk3:Kp [bj] w2 w3:=hk3.rd;rw [hRES] at he;cases RES with
   | error er =>
    obtain ⟨rfl,her,y,hJ3⟩:=he;refine ⟨.inl hk3,?_⟩;refine rV τok [14,15] 0 (mR 16 16) hk3 ?_;refine dV ?_;exact ⟨⟨rfl,her,y,hJ3⟩,(kw k02).tq hk3⟩
   | ok q =>
    obtain ⟨rfl,hJ3⟩:=he;refine ⟨.inl hk3,?_⟩;refine rV τok [14,15] 0 (mR 16 16) hk3 ?_;refine dV ?_;exact ⟨⟨rfl,hJ3⟩,(kw k02).tq hk3⟩
  ·rw [if_neg g5] at hRES
   have hk3:Kp [bj] w2 (dr w2):=(Kp.refl [bj] w2).dr _;refine nV τok 13 2 (mR 16 14) ?_;refine ⟨.inl hk3,?_⟩;refine rV τok [14,15] 0 (mR 16 16) hk3 ?_;refine dV ?_;subst hRES;exact ⟨⟨rfl,hJ2⟩,(kw k02).tq hk3⟩
 have g4:¬ f.n.op = 12:=g4;rw [if_neg g4] at hRES;refine as' τok (fun z=>Kp [bj] w2 z) ?_;refine rV τok (rg 0 11) 3 (mR 14 11) ((Kp.refl [bj] w2).dr _) ?_;refine ix 0 rfl (ag' _) ?_;refine nO' [iV f.n.op,iV f.n.a,iV f.n.b] rfl (fun z hz j v hj=>(Im.kb hz hbj _ _ _ (tr2 _ _ _ (by simpa using hcf j v hj))).1) ?_;refine ix 0 rfl (ag' _) ?_;refine nO' [iV h.n.op,iV h.n.a,iV h.n.b] rfl (fun z hz j v hj=>(Im.kb hz hbj _ _ _ (tr2 _ _ _ (by simpa using hch j v hj))).1) ?_;refine sR' (v:=.bool (decide (f.n = h.n))) (fun w _=>gq' _ _ f.n h.n w) ?_;refine ac' (fun g5=>?_) (fun g5=>?_)
 ·rw [if_pos g5] at hRES
  have hkl:(kidsT f).length = (kidsT h).length:=by
   obtain ⟨hkk,hkl⟩:=bn' hf.ok g1 g4;obtain ⟨hkk',hkl'⟩:=bn' hh.ok (by omega) (by omega);rw [g5] at hkl;rw [hkk,hkk'];omega
  have hkm:=mn' hf.ok;refine nV τok 11 2 (mR 14 12) ?_;refine ab' (sv' (w:=(dr w2)) hrc hle hX2 hbj hcx (by omega) hJ2 hn hn1 (fe' hf (by omega)) (fe' hh (by omega)) hkl (by omega) hka2 hkb2) ?_;rintro e w3 ⟨he,hk3⟩;have hk3:Kp [bj] w2 w3:=hk3.rd;rw [hRES] at he;cases RES with
  | error er =>
   obtain ⟨rfl,her,y,hJ3⟩:=he;refine ⟨.inl hk3,?_⟩;refine rV τok [12,13] 0 (mR 14 14) hk3 ?_;refine dV ?_;exact ⟨⟨rfl,her,y,hJ3⟩,(kw k02).tq hk3⟩
  | ok q =>
   obtain ⟨rfl,hJ3⟩:=he;refine ⟨.inl hk3,?_⟩;refine rV τok [12,13] 0 (mR 14 14) hk3 ?_;refine dV ?_;exact ⟨⟨rfl,hJ3⟩,(kw k02).tq hk3⟩
 ·rw [if_neg g5] at hRES
  have hk3:Kp [bj] w2 (dr w2):=(Kp.refl [bj] w2).dr _;refine nV τok 11 2 (mR 14 12) ?_;refine ⟨.inl hk3,?_⟩;refine rV τok [12,13] 0 (mR 14 14) hk3 ?_;refine dV ?_;subst hRES;exact ⟨⟨rfl,hJ2⟩,(kw k02).tq hk3⟩
end
section
variable {B:BoT} {cx:Ctx}
theorem mM':∀ (g:Nat) (x:Tr) (room:Int) (n:Nat) (q:Tr × Nat),bb' B cx g x room n = .ok q -> bT' B cx q.1 = false
 | 0,x,room,n,q,h=>by cases h
 | g + 1,x,room,n,q,h=>by
  simp only [bb'] at h;cases hp:kY' (bb' B cx g) x room n with
  | error e=>rw [hp] at h; cases h
  | ok p =>
   rw [hp] at h;simp only at h;unfold gg' at h;split at h
   ·split at h
    ·cases h
    ·cases ho:kp' B cx p.1 with
     | error e=>rw [ho] at h; cases h
     | ok z =>
      rw [ho] at h;simp only at h;split at h
      ·cases h
      ·exact mM' g _ _ _ _ h
   ·rename_i hr
    injection h with h
    subst h
    simpa using hr
theorem iC' (hB:GoodB B) (hcx:CxOk B cx) (hN:cx.length <= 90000) {x:Tr} {f:Int} {q:Tr × Nat} (hx:Ft (QB B) (cx.length:Int) x) (h:aM' B cx x f = .ok q):Ft (QB B) (cx.length:Int) q.1 /\ (headT q.1).n.op ≠ 7:=by
 have hl:=hx.len;obtain ⟨q1,q2⟩:=q;refine ⟨(fD' hB hcx hN GW x 4096 _ q1 q2 hx (by unfold len; omega) (by omega) h).1,fun h7=>?_⟩;have:=mM' _ _ _ _ _ h;unfold bT' at this;simp [h7] at this
end
section
variable {B:BoT}
theorem vn' (hB:GoodB B):∀ g,pq' B g (mK' B g):=by
 intro g
 induction g with
 | zero =>
  intro X w bj cx x y u n vx vy hX hbj hcx hcl hJ hx hy hn hn1 hvx hvy;have h0:(n:Int) = 0:=by omega
  refine oF Tryz.func120 ?_;obtain ⟨v1,v2,v3,v4,hJb,hO,hE,hP,hC⟩:=hJ;obtain ⟨_,_,rfl,_,_⟩:=id hvx;obtain ⟨_,_,rfl,_,_⟩:=id hvy;refine cO (args:=[_,_,_,_]) 94 [.tmp 8] τok Tryz.func120 ?_;refine lb hJb ?_;refine au' (p:=(n:Int) = 0) h0 ?_;refine st hJb (by simp) rfl fun w1 h1 hs1 hk1=>?_;have tr:=Im.kb hk1 hbj;exact ⟨⟨rfl,by decide,(n:Int),v1,v2,v3,v4,h1,hO.mono tr,hE.mono tr,hP.mono tr,hC.mono tr⟩,hk1⟩
 | succ g ih =>
  intro X w bj cx x y u n vx vy hX hbj hcx hcl hJ hx hy hn hn1 hvx hvy;refine oF Tryz.func120 ?_;obtain ⟨RES,hRES⟩:∃ r,mK' B (g + 1) cx x y u n = r:=⟨_,rfl⟩
  rw [hRES];simp only [mK'] at hRES;obtain ⟨v1,v2,v3,v4,hJb,hO,hE,hP,hC⟩:=hJ;have hCC:=hC;obtain ⟨ac,cc,rfl,_,_⟩:=hCC;have hvx':=hvx;have hvy':=hvy;obtain ⟨ax,cx1,rfl,hx1,hx2⟩:=hvx;obtain ⟨ay,cy1,rfl,hy1,hy2⟩:=hvy;refine cO (args:=[_,_,_,_]) 94 [.tmp 8] τok Tryz.func120 ?_;refine lb hJb ?_;refine ac' (fun g1=>?_) (fun g1=>?_)
  ·have g1:(n:Int) = 0:=g1
   rw [if_pos (by omega)] at hRES;refine st hJb (by simp) rfl fun w1 h1 hs1 hk1=>?_;have tr:=Im.kb hk1 hbj;subst hRES;exact ⟨⟨rfl,by decide,(n:Int),v1,v2,v3,_,h1,hO.mono tr,hE.mono tr,hP.mono tr,hC.mono tr⟩,hk1⟩
  have g1:¬ (n:Int) = 0:=g1;rw [if_neg (by omega)] at hRES;refine lb hJb ?_;refine i6 ?_;obtain ⟨m,hm⟩:∃ m:Nat,n = m + 1:=⟨n - 1,by omega⟩
  have hm1:(n:Int) - 1 = (m:Int):=by omega
  have hm2:n - 1 = m:=by omega
  rw [hm1];rw [hm2] at hRES;refine st hJb (by simp) rfl fun w1 h1 hs1 hk1=>?_;have h1:Bk w1.heap bj [iV B.vars,v1,v2,iV B.nat,v3,.slice ac (cx.map bdR).length cc,iV (m:Int),iV 0] 190:=h1;have tr1:=Im.kb hk1 hbj;refine ab' (rs' (C:=Im X w1) (D:=Im X w1) (Im.sub X w1) (Im.sub X w1) (row x) (row y) ax ay cx1 cy1 (hx1.mono tr1) (hy1.mono tr1)) ?_;rintro e w2 ⟨rfl,hk2⟩;have k02:Kp [bj] w w2:=hk1.tr hk2;have h2:=h1.kp hk2 (by simp);have tr2:=Im.kb k02 hbj;have hX2:=xU hX k02;have hJ2:CmpC (Im X w2) w2 bj B cx m 0:=⟨v1,v2,v3,_,h2,hO.mono tr2,hE.mono tr2,hP.mono tr2,hC.mono tr2⟩
  refine ac' (fun g2=>?_) (fun g2=>?_)
  ·rw [if_pos g2] at hRES
   subst hRES;exact ⟨⟨rfl,hJ2⟩,k02⟩
  rw [if_neg g2] at hRES;refine lb h2 ?_;refine ac' (fun g3=>?_) (fun g3=>?_)
  ·have g3:(256:Int) < ((cx.map bdR).length:Int):=g3
   rw [if_pos (by simp at g3; omega)] at hRES;refine st h2 (by simp) rfl fun w3 h3 hs3 hk3=>?_;have tr3:=Im.kb hk3 hbj;subst hRES;exact ⟨⟨rfl,by decide,(m:Int),v1,v2,v3,_,h3,hO.mono fun _ _ _ h=>tr3 _ _ _ (tr2 _ _ _ h),hE.mono fun _ _ _ h=>tr3 _ _ _ (tr2 _ _ _ h),hP.mono fun _ _ _ h=>tr3 _ _ _ (tr2 _ _ _ h),hC.mono fun _ _ _ h=>tr3 _ _ _ (tr2 _ _ _ h)⟩,k02.tq hk3⟩
  have g3:¬ (256:Int) < ((cx.map bdR).length:Int):=g3;have hc256:cx.length <= 256:=by simp at g3; omega
  rw [if_neg (by omega)] at hRES;refine ab' (iB' hB hcx (by omega) hX2 hbj hJ2 hx (hvx'.mono tr2)) ?_;rintro e w3 ⟨he,hk3⟩;have k03:Kp [bj] w w3:=k02.tq hk3;cases hw:aM' B cx x (m:Int) with
  | error er =>
   rw [hw] at he hRES;obtain ⟨rfl,her,hJ3⟩:=he;simp only at hRES;subst hRES;exact ⟨⟨rfl,her,0,hJ3⟩,k03⟩
  | ok p =>
   obtain ⟨x',m1⟩:=p;rw [hw] at he hRES;obtain ⟨ux,rfl,hux,hJ3⟩:=he;simp only at hRES hux hJ3;obtain ⟨hxF,hx7⟩:=iC' hB hcx (by omega) hx hw;have hm1':=iA' hw;simp only at hxF hx7 hm1';have tr3:=Im.kb k03 hbj;have hX3:=xU hX k03;obtain ⟨aux,cux,rfl,_,_⟩:=id hux;refine ab' (iB' hB hcx (by omega) hX3 hbj hJ3 hy (hvy'.mono tr3)) ?_;rintro e w4 ⟨he,hk4⟩;have k04:Kp [bj] w w4:=k03.tq hk4;cases hw2:aM' B cx y (m1:Int) with
   | error er =>
    rw [hw2] at he hRES;obtain ⟨rfl,her,hJ4⟩:=he;simp only at hRES;subst hRES;exact ⟨⟨rfl,her,0,hJ4⟩,k04⟩
   | ok p =>
    obtain ⟨y',m2⟩:=p;rw [hw2] at he hRES;obtain ⟨uy,rfl,huy,hJ4⟩:=he;simp only at hRES huy hJ4;obtain ⟨hyF,hy7⟩:=iC' hB hcx (by omega) hy hw2;have hm2':=iA' hw2;simp only at hyF hy7 hm2';have hux4:=hux.mono (Im.kb hk4 hbj);have hX4:=xU hX k04;obtain ⟨auy,cuy,rfl,_,_⟩:=id huy;refine ab' (jf' (Im.sub X w4) (fun _ _ _ h=>h.hold) hxF hux4) ?_;rintro e w5 ⟨ufx,umx,rfl,hfx,hmx,hk5⟩;have tr5:∀ b o v,Im X w4 b o v -> Im X w5 b o v:=fun b o v h=>h.tr hk5;refine ab' (jf' (Im.sub X w5) (fun _ _ _ h=>h.hold) hyF (huy.mono tr5)) ?_;rintro e w6 ⟨ufy,umy,rfl,hfy,hmy,hk6⟩;have hX5:=xU hX4 hk5;have k46:=hk5.tr hk6;have k06:Kp [bj] w w6:=k04.tr k46;have hX6:=xU hX k06;have tr6:∀ b o v,Im X w4 b o v -> Im X w6 b o v:=fun b o v h=>h.tr k46;have hfx:=(hfx.tv hX4).mono (fun b o v h=>Im.tr hk6 h);have hmx:=(hmx.tv hX4).mono (fun b o v h=>Im.tr hk6 h);have hfy:=hfy.tv hX5;have hmy:=hmy.tv hX5;have hJ6:CmpC (Im X w6) w6 bj B cx m2 0:=(hJ4.mono tr6).kp k46 (by simp);have hfx':=hfx;have hfy':=hfy;obtain ⟨bx,ox,c1,rfl,_,_,_,hcx1⟩:=hfx.hd;obtain ⟨by_,oy,c2,rfl,_,_,_,hcy1⟩:=hfy.hd;obtain ⟨amx,cmx,rfl,_,_⟩:=id hmx;obtain ⟨amy,cmy,rfl,_,_⟩:=id hmy;unfold ky' at hRES;have no:∀ {w7},Kp [bj] w6 w7 -> RES = .ok (false,m2) -> CmpC (Im X w7) w7 bj B cx m2 0 -> uz' X w bj B cx RES (Ending.returned (Go.Wx.one [.bool false])) w7:=fun k h hJ=>by
     subst h;exact ⟨⟨rfl,hJ⟩,k06.tq k⟩
    refine as' τok (fun z=>Kp [bj] w6 z) ?_;refine rV τok (rg 0 16) 0 (mR 16 16) ((Kp.refl [bj] w6).dr _) ?_;refine ix 0 rfl (ag' _) ?_;refine ldI hbj (by simpa using hcx1 0 _ rfl) ?_;refine ix 0 rfl (ag' _) ?_;refine ldI hbj (by simpa using hcy1 0 _ rfl) ?_;have kd:Kp [bj] w6 (dr w6):=(Kp.refl [bj] w6).dr _;refine ac' (fun g4=>?_) (fun g4=>?_)
    ·have g4:(headT x').n.op ≠ (headT y').n.op:=g4
     rw [if_pos (.inl g4)] at hRES;refine dV ?_;exact no kd hRES.symm hJ6
    have g4:¬ (headT x').n.op ≠ (headT y').n.op:=g4;refine dV ?_;refine ac' (fun g5=>?_) (fun g5=>?_)
    ·have g5:((argsT x').length:Int) ≠ ((argsT y').length:Int):=g5
     rw [if_pos (.inr (by omega))] at hRES;exact no kd hRES.symm hJ6
    have g5:¬ ((argsT x').length:Int) ≠ ((argsT y').length:Int):=g5;rw [if_neg (by omega)] at hRES;refine ab' (rv' (w:=(dr w6)) ih (kz' B g) hX6 hbj hcx hc256 hJ6 (by omega) (by omega) hxF.head hyF.head (by omega) hx7 hfx' hfy' u) ?_;rintro e w7 ⟨he,hk7⟩;have hk7:Kp [bj] w6 w7:=hk7.rd;have k07:Kp [bj] w w7:=k06.tq hk7;cases hh:dH' B (mK' B g) cx (headT x') (headT y') u m2 with
    | error er =>
     rw [hh] at he hRES;obtain ⟨rfl,her,j,hJ7⟩:=he;simp only [fr'] at hRES;subst hRES;exact ⟨⟨rfl,her,j,hJ7⟩,k07⟩
    | ok q =>
     obtain ⟨b,m3⟩:=q;rw [hh] at he hRES;obtain ⟨rfl,hJ7⟩:=he;have hm3:=mL' (kz' B g) hh;simp only at hm3 hJ7;cases b with
     | false =>
      simp only [fr'] at hRES;rw [if_neg (by decide)] at hRES;subst hRES;exact ⟨⟨rfl,hJ7⟩,k07⟩
     | true =>
      simp only [fr',if_true] at hRES;have tr7:=Im.kb hk7 hbj;have hX7:=xU hX k07;have hfew:=hxF.few;refine ab' (sv' ih (kz' B g) hX7 hbj hcx (by omega) hJ7 (by omega) (by omega) hxF.args hyF.args (by omega) (by omega) (hmx.mono tr7) (hmy.mono tr7)) ?_;rintro e w8 ⟨he,hk8⟩;have k08:Kp [bj] w w8:=k07.tq hk8;rw [hRES] at he;cases RES with
      | error er =>
       obtain ⟨rfl,her,j,hJ8⟩:=he;exact ⟨⟨rfl,her,j,hJ8⟩,k08⟩
      | ok q =>
       obtain ⟨rfl,hJ8⟩:=he;exact ⟨⟨rfl,hJ8⟩,k08⟩
@[irreducible] def GC:Nat:=100000
theorem ws':100000 <= GC:=by unfold GC; exact KJ _
def hA' (B:BoT) (cx:Ctx) (x y:Tr) (fuel:Int) (u:Bool):Except Int (Bool × Nat):=mK' B GC cx x y u (br' fuel)
theorem nt' (hB:GoodB B) {cx:Ctx} (hcx:CxOk B cx) (hcl:cx.length <= 260) {X:List Nat} {w:World} {x y:Tr} {fuel:Int} {vb vc vx vy:Value} (hX:XL X w) (hx:Ft (QB B) (cx.length:Int) x) (hy:Ft (QB B) (cx.length:Int) y) (hb:BoV (Im X w) B vb) (hc:SV rBd (Im X w) (cx.map bdR) vc) (hvx:TmV (Im X w) x vx) (hvy:TmV (Im X w) y vy) (u:Bool) :
  CC 105 #[vb,vc,vx,vy,iV fuel,.bool u] w (fun e w'=>(match hA' B cx x y fuel u with
   | .ok q=>e = .returned (.tuple #[.bool q.1,iV (q.2:Int),iV 0])
   | .error er=>er ≠ 0 /\ e = .returned (.tuple #[.bool false,iV 0,iV er])) /\ Kp [] w w'):=by
 refine oF Tryz.func105 ?_;obtain ⟨RES,hRES⟩:∃ r,hA' B cx x y fuel u = r:=⟨_,rfl⟩
 rw [hRES];unfold hA' at hRES;obtain ⟨v1,v2,v3,rfl,hb1,hb2,hb3⟩:=hb;obtain ⟨ac,cc,rfl,hc1,hc2⟩:=hc;obtain ⟨_,_,rfl,_,_⟩:=id hvx;obtain ⟨_,_,rfl,_,_⟩:=id hvy;refine cO (args:=[_,_,_,_,_,_]) 43 [.tmp 12,.tmp 13,.tmp 14] τok Tryz.func105 ?_;refine new fun b5 w1 hb5 h5 hs1 hk1=>?_;have h5:Bk w1.heap b5 [iV B.vars,v1,v2,iV B.nat,v3] 26:=h5;refine ldN [iV B.vars,v1,v2,iV B.nat,v3] rfl (bZ h5) ?_;refine ob' ?_;refine nj' ?_;obtain ⟨n,hn,hn1⟩:∃ n:Nat,min (max fuel 0) 100000 = (n:Int) /\ br' fuel = n:=⟨_,by unfold br'; omega,rfl⟩
 rw [hn];rw [hn1] at hRES;refine new fun bj w2 hbj hJ hs2 hk2=>?_;have hJ:Bk w2.heap bj [iV B.vars,v1,v2,iV B.nat,v3,.slice ac (cx.map bdR).length cc,iV (n:Int),iV 0] 190:=hJ;have k02:=hk1.tr hk2;have hbjl:w.heap.size <= bj:=by have:=hk1.size; omega
 have hX2:∀ b ∈ bj :: X,b < w2.heap.size:=fun b hb=>by
  simp only [JJ] at hb;rcases hb with rfl | hb
  ·exact hJ.lt
  ·have:=hX b hb; have:=k02.size; omega
 have up:∀ b o v,Im X w b o v -> Im (bj :: X) w2 b o v:=fun b o v h=>Im.more (X:=X) (fun y hy=>by
  simp only [JJ] at hy;rcases hy with rfl | hy
  ·exact .inr hbjl
  ·exact .inl hy) h |>.tr k02
 have hGC:=ws';refine ab' (vn' hB GC (bj :: X) w2 bj cx x y u n _ _ hX2 (by simp) hcx hcl ⟨v1,v2,v3,_,hJ,hb1.mono up,hb2.mono up,hb3.mono up,⟨ac,cc,rfl,hc1.mono up,hc2⟩⟩ hx hy (by omega) (by omega) (hvx.mono up) (hvy.mono up)) ?_;rintro e w3 ⟨he,hk3⟩;have k03:Kp [] w w3:=k02.trans hk3 fun x hx hl=>by
  obtain rfl:x = bj:=by simpa using hx
  omega
 rw [hRES] at he;cases RES with
 | error er =>
  obtain ⟨rfl,her,m,u1,u2,u3,u4,hJ3,_⟩:=he;refine lb hJ3 ?_;refine au' (p:=er ≠ 0) her ?_;refine as' τok (fun z=>Kp [] w3 z) ?_;refine rV τok (rg 0 7) 0 (mR 7 7) (kQd w3) ?_;refine lk hJ3 ?_;refine dV ?_;exact ⟨⟨her,rfl⟩,k03.dr _⟩
 | ok q =>
  obtain ⟨rfl,u1,u2,u3,u4,hJ3,_⟩:=he;refine lb hJ3 ?_;refine as' τok (fun z=>Kp [] w3 z) ?_;refine rV τok (rg 0 8) 0 (mR 8 8) (kQd w3) ?_;refine lk hJ3 ?_;refine dV ?_;exact ⟨rfl,k03.dr _⟩
end
section
variable {C:Mem} {w:World}
theorem bM' (hS:Sub C w) (l:List Int) (a:Option Addr) (c:Nat) (hl:Sl rInt C a l) (hlen:l.length <= 1000000) :
  CC 122 #[.slice a l.length c] w (fun e w'=>(∃ v,e = .returned v /\ Own rInt 173 w.heap.size w' v l) /\ Kp [] w w'):=by
 refine oF Tryz.func122 ?_;refine cO (args:=[_]) 8 [.tmp 2] τok Tryz.func122 ?_;refine od' τok rfl ?_;cases a with
 | none =>
  obtain rfl:=hl.none_nil;exact ⟨⟨_,rfl,Own.nil _ _ (KJ _)⟩,Kp.refl _ _⟩
 | some a =>
  refine fill [] rfl ?_;refine new fun b1 w1 hb1 hB1 hs1 hk1=>?_;refine (Own.empty rInt hB1 (lo:=w.heap.size) (by omega)).apF τok rfl rfl (by decide) gD' (hS.tr hk1) l hl (by simp only [JU]; omega) (by simp only [JU,maxLen]; omega) fun v2 w2 hO2 hk2 _=>?_;rw [List.nil_append] at hO2;exact ⟨⟨v2,rfl,hO2⟩,hk1.own hk2 (Own.empty rInt hB1 (lo:=w.heap.size) (by omega))⟩
def ofM (m:List Int) (v:Int):Int:=if (m.length:Int) <= v then 0 else m.getD (m.length - 1 - v.toNat) 0
theorem tF' (hS:Sub C w) {m:List Int} {vm:Value} (hm:SV rInt C m vm) {v:Int} (h0:0 <= v) (hl:m.length <= 1000000) :
  CC 145 #[vm,iV v] w (fun e w'=>e = .returned (iV (ofM m v)) /\ Kp [] w w'):=by
 refine oF Tryz.func145 ?_;obtain ⟨a,c,rfl,hs,hc⟩:=hm;refine cO (args:=[_,_]) 17 [.tmp 4] τok Tryz.func145 ?_;refine ac' (fun g=>?_) (fun g=>?_)
 ·have g:(m.length:Int) <= v:=g
  exact ⟨by unfold ofM; rw [if_pos g]; rfl,Kp.refl _ _⟩
 ·have g:¬ (m.length:Int) <= v:=g
  obtain ⟨x,hx,_⟩:=af' (l:=m) (k:=m.length - 1 - v.toNat) (by omega);obtain ⟨b,o,rfl,hcell,_⟩:=hs.int hx;refine i6 ?_;refine i6 ?_;refine ix (m.length - 1 - v.toNat) (by omega) (by omega) ?_;refine ldC hS hcell ?_;refine ⟨?_,Kp.refl _ _⟩;unfold ofM;rw [if_neg g,List.getD_eq_getElem?_getD,hx]
  rfl
theorem pr' {lo:Nat} {v:Value} {l:List Int} (hO:Own rInt 173 lo w v l) (k:Nat) (h0:0 < k) (hk:k <= 100) (hl:l.length <= 1000000) {ty:Nat} {K:Value -> World -> Prop}
  (hK:∀ v' w',Own rInt 173 lo w' v' (l ++ List.replicate k 0) -> Kp v.ownBlock.toList w w' -> K v' w'):EvRun Tryz.prog (Builtin.append_ #[172,3] ty #[v,iV (k:Int)]) w K:=by
 obtain ⟨⟨css,hown,hden⟩,hbase⟩:=hO;obtain ⟨hu,inf,hinf,hsize,hbs⟩:=τok.slcs 172 173 1 8 rfl;obtain ⟨inf',v0,hinf',hv,hcz,hsz'⟩:=du' τok (T:=173) (z:=[iV 0]) rfl;have:inf' = inf:=by rw [hinf'] at hinf; simpa using hinf
 subst this;have hzs:v0.cells.size = 1:=by rw [hcz]; rfl
 have hzc:(Builtin.zeroCells v0.cells k).toList = List.replicate k (iV 0):=by
  simp only [Builtin.zeroCells,hzs,Nat.mul_one];rw [Array.toList_map,Array.toList_range];apply List.ext_getElem
  ·simp
  ·intro i h1 h2
   simp only [List.getElem_map,List.getElem_replicate,Nat.mod_one];rw [hcz]
   rfl
 have hzc':Builtin.zeroCells v0.cells k = (List.replicate k (iV 0)).toArray:=by
  apply Array.ext';rw [hzc]
 have hll:=hown.1;have hrs:rInt.sz = 1:=rfl;rw [hrs,Nat.mul_one] at hll;have fin:∀ {v' w'},w'.ownsRow lo 173 rInt.sz v' (l.length + k) (css.flatten ++ List.replicate k (iV 0)) -> Kp v.ownBlock.toList w w' -> Own rInt 173 lo w' v' (l ++ List.replicate k 0):=fun {v' w'} h hk=>by
  refine ⟨⟨css ++ List.replicate k [iV 0],?_,?_⟩,KQ hbase hk.size⟩
  ·have:(css ++ List.replicate k [iV 0]).flatten = css.flatten ++ List.replicate k (iV 0):=by
    rw [List.flatten_append,List.flatten_replicate_singleton]
   rw [this]
   simpa using h
  ·refine All2.append (hden.mono fun cs x hx=>gD' _ _ _ _ hx) ?_
   have:∀ j:Nat,All2 (rInt.den (Dn lo v' w')) (List.replicate j [iV 0]) (List.replicate j 0):=by
    intro j
    induction j with
    | zero=>trivial
    | succ j ih=>exact ⟨⟨rfl,(by decide:(-9223372036854775808:Int) <= 0),(by decide:(0:Int) <= 9223372036854775807)⟩,ih⟩
   exact this k
 have grown:∀ (old:Nat),old < l.length + k -> (w.drew.alloc (.cells (css.flatten.toArray ++ Builtin.zeroCells v0.cells k ++ Builtin.zeroCells v0.cells (grownCap w (l.length + k) old 173 - (l.length + k))) 173)).ownsRow lo 173 rInt.sz
    (.slice (some ⟨w.heap.size,0,none⟩) (l.length + k) (grownCap w (l.length + k) old 173)) (l.length + k) (css.flatten ++ List.replicate k (iV 0)) /\
   Kp v.ownBlock.toList w (w.drew.alloc (.cells (css.flatten.toArray ++ Builtin.zeroCells v0.cells k ++ Builtin.zeroCells v0.cells (grownCap w (l.length + k) old 173 - (l.length + k))) 173)):=by
  intro old ho;have hge:=grownCap_ge w (l.length + k) old 173;have hcm:grownCap w (l.length + k) old 173 <= maxLen:=grownCap_le_maxLen w (l.length + k) old 173 (by unfold maxLen; omega);refine ⟨⟨by simp [hll,hrs],.inr ⟨w.heap.size,_,_,rfl,hbase,heap_alloc_new w.drew _,hge,hcm,?_,?_⟩⟩,⟨rfl,rfl,rfl,by
   show w.heap.size <= (w.heap.push _).size;simp,fun b hb _=>by
   show (w.heap.push _)[b]? = _;rw [Array.getElem?_push_lt hb]; simp [hb]⟩⟩
  ·simp only [Array.size_append,List.size_toArray,size_zeroCells,hzs,hll,hrs,Nat.mul_one]
   omega
  ·rw [Array.toList_append,Array.toList_append,hzc]
   have:(css.flatten ++ List.replicate k (iV 0)).length = (l.length + k) * rInt.sz:=by simp [hll,hrs]
   rw [<- this];exact List.take_left
 rcases hown.2 with ⟨rfl,h00⟩ | ⟨g,cap,cur,rfl,hbg,hg,hnc,hcm,hcs,htake⟩
 ·have hx:css.flatten = []:=List.eq_nil_of_length_eq_zero (by rw [hll,h00])
  have h:=Lib.run_append_grow_zeros (P:=Tryz.prog) w 172 3 ty 173 inf' v0 .i64 .i64 hu Tryz.underlying3 hinf' hv none 0 0 [] (run_firstCells_none (w:=w.drew) inf'.size 0 0 0) k h0 (by omega) (by omega) (by simp; omega) (by rw [hbs]; omega)
   (by rw [hbs]; exact growslice_fits (by omega) (by omega))
  have hgr:=grown 0 (by omega);rw [h00] at hgr;rw [hx] at hgr;rw [h00,hx] at fin;exact run h (hK _ _ (fin hgr.1 hgr.2) hgr.2)
 ·by_cases hroom:l.length + k <= cap
  ·have hrun:(Builtin.append_ #[172,3] ty #[.slice (some ⟨g,0,none⟩) l.length cap,iV (k:Int)]).run Tryz.prog w = .ok (.slice (some ⟨g,0,none⟩) (l.length + k) cap) (w.setRow g (cur.toList.take (l.length) ++ List.replicate k (iV 0) ++ cur.toList.drop (l.length + k)).toArray):=by
    have hkn:k ≠ 0:=by omega
    have hw:IntKind.i64.wrap (k:Int) = k:=by rw [IntKind.wrap_i64]; omega
    have h48i:¬ (281474976710656 < (k:Int) * (inf'.bytes:Int)):=by rw [hbs]; omega
    have hneg:¬ ((k:Int) < 0):=by omega
    have hns:¬ (k * inf'.size = 0):=Nat.mul_ne_zero hkn (by omega);have hst:=run_storeCells_at Tryz.prog g l.length 173 (List.replicate k (iV 0)) 0 cur w hg (by simp; rw [hcs,hrs]; omega) (fun u hu=>by rw [(List.mem_replicate.1 hu).2]; rfl);simp only [Nat.add_zero,List.length_replicate] at hst;simp [Builtin.append_,run_underlying hu,run_underlying Tryz.underlying3,sizeOf,typeInfo,zeroValue,hinf',hv,asInt,asIntOf,hw,hneg,h48i,hns,hroom,hzc',hsize,Addr.add_lit,hkn,hst]
   refine run hrun (hK _ _ (fin ?_ ?_) ?_)
   ·refine ⟨by simp [hll,hrs],.inr ⟨g,cap,_,rfl,hbg,setRow_heap w g cur _ 173 _ hg,hroom,hcm,?_,?_⟩⟩
    ·simp only [List.size_toArray,JK,List.length_take,List.length_drop,Array.length_toList,List.length_replicate,hcs,hrs]
     omega
    ·have ht:cur.toList.take l.length = css.flatten:=by simpa [hrs] using htake
     rw [ht];have:(css.flatten ++ List.replicate k (iV 0)).length = (l.length + k) * rInt.sz:=by simp [hll,hrs]
     rw [<- this];exact List.take_left
   ·exact ⟨rfl,rfl,rfl,by simp,fun b _ hb=>setRow_other w g b _ (fun e=>hb (by simp [Value.ownBlock,e]))⟩
   ·exact ⟨rfl,rfl,rfl,by simp,fun b _ hb=>setRow_other w g b _ (fun e=>hb (by simp [Value.ownBlock,e]))⟩
  ·have holds:∀ j u,css.flatten[j]? = some u -> w.cell? ((⟨g,0,none⟩:Addr).add j) = some u:=hown.cells (g:=g) rfl
   have hf:=run_firstCells_some (P:=Tryz.prog) w.drew inf'.size l.length ⟨g,0,none⟩ l.length cap css.flatten (by rw [hll,hsize]; omega) (by simpa using holds);have h:=Lib.run_append_grow_zeros (P:=Tryz.prog) w 172 3 ty 173 inf' v0 .i64 .i64 hu Tryz.underlying3 hinf' hv (some ⟨g,0,none⟩) l.length cap css.flatten hf k h0 (by omega) (by omega) (by omega) (by rw [hbs]; omega)
    (by rw [hbs]; exact growslice_fits (by omega) (by omega))
   have hgr:=grown cap (by omega);exact run h (hK _ _ (fin hgr.1 hgr.2) hgr.2)
theorem TmV.cutT {x y:Tr} {v:Value} {p:List Nd} (h:TmV C x v) (e:row x = p ++ row y):∃ a c,v = .slice a (row x).length c /\ p.length <= (row x).length /\ ∃ v',sliced a p.length (row x).length c 3 = v' /\ TmV C y v':=by
 obtain ⟨a,c,h1,h2,_,v',h3,h4⟩:=h.cut (p:=p) (q:=[]) (y:=y) (by rw [e,JD]);have hl:(row x).length = p.length + (row y).length:=by rw [e]; simp
 exact ⟨a,c,h1,by omega,v',by rw [hl]; exact h3,h4⟩
theorem jq' (hS:Sub C w) {x:Tr} (hx:Ok .tm x) (hlen:(row x).length <= 4096) {v:Value} (hv:TmV C x v) :
  CC 121 #[v] w (fun e w'=>(∃ u z,e = .returned (.tuple #[u,z]) /\ TmV C (headT x) u /\ TmsV (Cn C w w') (argsT x) z) /\ Kp [] w w'):=by
 refine oF Tryz.func121 ?_;have hall:=dT' (row x).length x (KJ _) hx;obtain ⟨_,_,rfl,_,_⟩:=id hv;refine cO (args:=[_]) 26 [.tmp 2,.tmp 3] τok Tryz.func121 ?_;refine lp τok (σ:=Tr × Value × Value × List Value × List Tr) (fun q=>[(0,q.2.1),(4,q.2.2.1)])
  (fun q w'=>Ok .tm q.1 /\ (row q.1).length <= 4096 /\ TmV C q.1 q.2.1 /\ Own ez' 29 w.heap.size w' q.2.2.1 q.2.2.2.1 /\ Kp [] w w' /\ Pcs C q.2.2.2.1 q.2.2.2.2 /\ headT q.1 = headT x /\ argsT q.1 ++ q.2.2.2.2.reverse = argsT x)
  (fun q=>(row q.1).length) (x,_,.slice none 0 0,[],[]) rfl
  ⟨rfl,rfl,trivial⟩ ⟨hx,hlen,hv,Own.nil _ _ (KJ _),Kp.refl _ _,⟨rfl,fun i v y hv=>by simp at hv⟩,rfl,by simp⟩ ?_
 rintro ⟨y,vy,vo,os,ys⟩ w2 ⟨hok,hrl,hvy,hO,hk2,hpc,hhd,har⟩;simp only at hok hrl hvy hO hpc hhd har;have hvy':=hvy;obtain ⟨b,o,c,rfl,i1,i2,i3,hcells⟩:=hvy.hd;have hS2:=hS.tr hk2;have hol:os.length <= 4096:=by
  have:=congrArg List.length har;rw [JK,List.length_reverse,<- hpc.1] at this;have:=hall.2.1;omega
 refine ix 0 rfl (ag' _) ?_;refine ldC hS2 (by simpa using hcells 0 _ rfl) ?_;refine ac' (fun h6=>?_) (fun h6=>?_)
 ·have h6:y.n.op = 6:=h6
  obtain ⟨n,ks⟩:=y;have g6:n.op = 6:=h6;obtain ⟨f,u,rfl,hf,hu⟩:=dx' hok g6;have hr:row (.mk n [f,u]) = n :: (row f ++ row u):=by simp [row,rows]
  rw [bu' g6] at hhd;rw [bI' g6] at har;have hpu:=ag' u;have hpf:=ag' f;have hTl:(row (.mk n [f,u])).length = 1 + (row f).length + (row u).length:=by rw [hr]; simp; omega
  have e1:row (.mk n [f,u]) = [n] ++ (row f ++ row u):=hr;have e2:row (.mk n [f,u]) = (n :: row f) ++ row u:=by rw [hr]; rfl
  refine ab' (cP' hS2 hvy' hrl e1 hf (i:=1) rfl) ?_;rintro e w3 ⟨rfl,hk3⟩;obtain ⟨a3,c3,q3,hle3,v3,hs3,hT3⟩:=hvy'.cutT e2;injection q3 with q1 _ q2
  subst q1 q2;have hfl:(n :: row f).length = 1 + (row f).length:=by simp; omega
  refine jV' τok rfl (n :: row f).length v3 (by simp; omega) hle3 hs3 ?_;obtain ⟨az,cz,rfl,hz1,hz2⟩:=id hT3;refine fill [.slice az (row u).length cz] rfl ?_;refine new fun bx w5 hbx hX hs5 hk5=>?_;have k25:=hk3.tr hk5;have hO5:=hO.kp k25;refine hO5.ap1 τok rfl rfl (by decide) (.slice az (row u).length cz) [.slice az (row u).length cz] ⟨rfl,rfl⟩ (bZ hX) (by omega) (by simp only [maxLen]; omega) fun v6 w6 hO6 hk6 _=>?_;obtain ⟨a7,c7,q7,hle7,hc7,v7,hs7,hT7⟩:=hvy'.cut e1;injection q7 with q1 _ q2
  subst q1 q2;refine iq' τok rfl 1 (1 + (row f).length) v7 rfl (by simp) (by omega) (by simp at hle7; omega) hs7 ?_;have k06:Kp [] w w6:=(hk2.tr k25).own hk6 hO5;refine ⟨(f,v7,v6,os ++ [.slice az (row u).length cz],ys ++ [u]),by simp only; omega,rfl,⟨rfl,rfl,trivial⟩,hf,by simp only; omega,hT7,hO6,k06,Pcs.snoc hpc hz1 hz2,hhd,?_⟩;rw [<- har];simp
 ·have h6:¬ y.n.op = 6:=h6
  obtain ⟨n,ks⟩:=y;have g6:¬ n.op = 6:=h6;rw [bv' g6] at hhd;rw [bJ' g6,List.nil_append] at har;refine ab' (oH' hO (by omega)) ?_;rintro e w3 ⟨rfl,hO3,hk3⟩;have k03:Kp [] w w3:=hk2.own hk3 hO;rw [<- hhd,<- har];exact ⟨⟨_,_,rfl,hvy',Own.tms hO3 ((hpc.rev).mono fun _ _ _ h=>.inl h) (fun _ _ _ h=>.inr h) (by simp; omega)⟩,k03⟩
def lB' (x:Tr) (m:List Int):Bool:=decide ((headT x).n.op = 1) && decide (ofM m (headT x).n.a = 2)
theorem tG' (hS:Sub C w) {x:Tr} (hx:Ok .tm x) (hlen:(row x).length <= 4096) {v vm:Value} (hv:TmV C x v) {m:List Int} (hm:SV rInt C m vm) (hl:m.length <= 1000000) :
  CC 146 #[v,vm] w (fun e w'=>e = .returned (.bool (lB' x m)) /\ Kp [] w w'):=by
 refine oF Tryz.func146 ?_;obtain ⟨_,_,rfl,_,_⟩:=id hv;obtain ⟨_,_,rfl,_,_⟩:=id hm;refine cO (args:=[_,_]) 26 [.tmp 4] τok Tryz.func146 ?_;refine ab' (jq' hS hx hlen hv) ?_;rintro e w1 ⟨⟨u,z,rfl,hu,hz⟩,hk1⟩;obtain ⟨b,o,c,rfl,_,_,_,hc⟩:=hu.hd;obtain ⟨_,_,rfl,_,_⟩:=hz;refine ix 0 rfl (ag' _) ?_;refine ldC (hS.tr hk1) (by simpa using hc 0 _ rfl) ?_;refine ac' (fun g=>?_) (fun g=>?_)
 ·have g:(headT x).n.op = 1:=g
  refine ix 0 rfl (ag' _) ?_;refine ldC (hS.tr hk1) (by simpa using hc 1 _ rfl) ?_;have hp:=ba' (dT' _ x (KJ _) hx).2.2.1.pl;refine ab' (tF' (hS.tr hk1) hm hp.2.2.1 hl) ?_;rintro e w2 ⟨rfl,hk2⟩;refine ⟨?_,hk1.tr hk2⟩;unfold lB';rw [decide_eq_true g,Bool.true_and]
  rfl
 ·have g:¬ (headT x).n.op = 1:=g
  refine ⟨?_,hk1⟩;unfold lB';rw [decide_eq_false g,Bool.false_and]
  rfl
end
abbrev RcF:=Tr -> List Int -> Bool
def bd' (rc:RcF):Nat -> Tr -> List Int -> Bool
 | 0,t,m=>rc t m
 | n + 1,t,m=>if t.n.op = 5 then rc (kidD t 0) m && bd' rc n (kidD t 1) (m ++ [2]) else rc t m
def nu' (s:Tr) (m:List Int):Bool :=
 let v:=if (headT s).n.op = 1 then ofM m (headT s).n.a else 0
 decide (v = 2) || (decide (v = 1) && decide ((argsT s).length = 0))
def cX' (B:BoT) (rc:RcF) (a:Int) (down:Bool) (m:List Int):Nat -> List Tr -> Bool
 | _,[]=>true
 | k,t :: r=>bd' rc (if down && decide (k < (cr' B a).ctors.length) then ((cr' B a).ctors.getD k default).args.length else 0) t m && cX' B rc a down m (k + 1) r
def eC' (B:BoT) (rc:RcF) (f:Tr) (m:List Int):Bool :=
 (rc (kidD f 0) m && rc (kidD f 1) m) && cX' B rc f.n.a (nu' (kidD f 1) m) m 0 ((kidsT f).drop 2)
def sx' (rc:RcF) (m m':List Int):List Tr -> Bool
 | t :: b :: r=>(rc t m && rc b m') && sx' rc m m' r
 | _=>true
def bY' (B:BoT) (pl:List Int):Nat -> RcF
 | 0,_,_=>false
 | g + 1,x,m =>
  let f:=headT x
  (argsT x).all (fun y=>bY' B pl g y m) &&
  (if f.n.op = 1 then (if ofM m f.n.a < 100 then true else decide (pl.getD (ofM m f.n.a - 100).toNat 0 < (argsT x).length) && lB' (nr' x (pl.getD (ofM m f.n.a - 100).toNat 0)) m)
  else if f.n.op = 11 then eC' B (bY' B pl g) f m
  else if f.n.op = 4 \/ f.n.op = 5 then bY' B pl g (kidD f 0) m && bY' B pl g (kidD f 1) (m ++ [0])
  else if f.n.op = 7 then (bY' B pl g (kidD f 0) m && bY' B pl g (kidD f 1) m) && bY' B pl g (kidD f 2) (m ++ [0])
  else if f.n.op = 12 then sx' (bY' B pl g) m (m ++ List.replicate f.n.b.toNat 0) (kidsT f)
  else true)
def Mk (pl m:List Int):Prop:=∀ v ∈ m,v = 0 \/ v = 1 \/ v = 2 \/ ∃ j:Nat,j < pl.length /\ v = 100 + j
theorem Mk.snoc {pl m:List Int} (h:Mk pl m) {v:Int} (hv:v = 0 \/ v = 1 \/ v = 2):Mk pl (m ++ [v]):=fun u hu=>by
 rcases List.mem_append.1 hu with hu | hu
 ·exact h u hu
 ·obtain rfl:u = v:=by simpa using hu
  rcases hv with h | h | h
  ·exact .inl h
  ·exact .inr (.inl h)
  ·exact .inr (.inr (.inl h))
theorem Mk.zeros {pl m:List Int} (h:Mk pl m) (k:Nat):Mk pl (m ++ List.replicate k 0):=fun u hu=>by
 rcases List.mem_append.1 hu with hu | hu
 ·exact h u hu
 ·exact .inl (List.mem_replicate.1 hu).2
theorem Mk.of {pl m:List Int} (h:Mk pl m) {v:Int} (h0:0 <= v):ofM m v < 100 \/ ∃ j:Nat,j < pl.length /\ ofM m v = 100 + j:=by
 unfold ofM;split
 ·left; omega
 ·rename_i g
  obtain ⟨x,hx,_⟩:=af' (l:=m) (k:=m.length - 1 - v.toNat) (by omega);rw [List.getD_eq_getElem?_getD,hx];rcases h x (JQ hx) with h | h | h | h
  ·left; simp only [Option.getD_some]; omega
  ·left; simp only [Option.getD_some]; omega
  ·left; simp only [Option.getD_some]; omega
  ·exact .inr h
def LkV (C:Mem) (B:BoT) (pl:List Int) (v:Value):Prop:=∃ v1 v2 v3 v4,v = .agg #[iV B.vars,v1,v2,iV B.nat,v3,v4] /\ SV rOr C B.orders v1 /\ SV rEn C B.ents v2 /\ SV rPr C B.prims v3 /\ SV rInt C pl v4
theorem LkV.mono {C D:Mem} {B:BoT} {pl:List Int} {v:Value} (h:LkV C B pl v) (hc:∀ b o v,C b o v -> D b o v):LkV D B pl v:=by
 obtain ⟨v1,v2,v3,v4,h0,h1,h2,h3,h4⟩:=h;exact ⟨v1,v2,v3,v4,h0,h1.mono hc,h2.mono hc,h3.mono hc,h4.mono hc⟩
def kA' (B:BoT) (pl:List Int) (g:Nat) (rc:RcF):Prop:=∀ (C:Mem) (w:World) (N:Int) (x:Tr) (m:List Int) (lv vx vm:Value),Sub C w -> LkV C B pl lv -> Ft (QB B) N x -> Mk pl m -> m.length + 4 * (row x).length <= 100000 -> (row x).length <= g -> TmV C x vx -> SV rInt C m vm ->
 CC 123 #[lv,vx,vm] w (fun e w'=>e = .returned (.bool (rc x m)) /\ Kp [] w w')
section
variable {B:BoT} {pl:List Int} {g:Nat} {rc:RcF} {C:Mem} {w:World} {N:Int} {m:List Int} {lv vm:Value}
theorem lC' (hrc:kA' B pl g rc) (hS:Sub C w) (hlv:LkV C B pl lv) {ys:List Tr} (hys:∀ y ∈ ys,Ft (QB B) N y /\ m.length + 4 * (row y).length <= 100000 /\ (row y).length <= g) (hl:ys.length <= 100000) (hm:Mk pl m) {va:Value} (hva:TmsV C ys va) (hvm:SV rInt C m vm) :
  CC 144 #[lv,vm,va] w (fun e w'=>e = .returned (.bool (ys.all fun y=>rc y m)) /\ Kp [] w w'):=by
 refine oF Tryz.func144 ?_;obtain ⟨RES,hRES⟩:∃ r,(ys.all fun y=>rc y m) = r:=⟨_,rfl⟩
 rw [hRES];have hva':=hva;obtain ⟨a,c,rfl,_,_⟩:=hva;obtain ⟨am,cm,rfl,_,_⟩:=id hvm;have hlv':=hlv;obtain ⟨v1,v2,v3,v4,rfl,_⟩:=hlv;refine cO (args:=[_,_,_]) 21 [.tmp 6] τok Tryz.func144 ?_;refine new fun b3 w1 hb3 h3 hs1 hk1=>?_;have h3:Bk w1.heap b3 [iV B.vars,v1,v2,iV B.nat,v3,v4] 171:=h3;refine lp τok (σ:=Nat) (fun i=>[(1,.slice am m.length cm),(3,pt b3),(9,.slice a ys.length c),(10,iV (ys.length:Int)),(11,iV (i:Int))])
  (fun i w'=>i <= ys.length /\ Kp [] w1 w' /\ ((ys.drop i).all fun y=>rc y m) = RES) (fun i=>ys.length - i) 0 rfl
  ⟨rfl,rfl,rfl,rfl,rfl,trivial⟩ ⟨KV _,Kp.refl _ _,hRES⟩ ?_
 rintro i w2 ⟨hi,hk2,hres⟩;have k02:=hk1.tr hk2;refine ac' (fun h=>?_) (fun h=>?_)
 ·have h:(i:Int) < ys.length:=h
  obtain ⟨y,hy,hd⟩:=af' (l:=ys) (k:=i) (by omega);rw [hd,List.all_cons] at hres;obtain ⟨b,o,c',e1,z,hz,hzT⟩:=hva'.get hy;injection e1 with q1 q2 q3
  subst q1 q3;obtain ⟨y1,y2,y3⟩:=hys y (JQ hy);refine ix i rfl (by omega) ?_;refine ldC (hS.tr k02) hz ?_;refine ldN [iV B.vars,v1,v2,iV B.nat,v3,v4] rfl (fun j v hj=>by rw [KW]; exact (h3.kp hk2 (by simp)).cl hj) ?_;refine ab' (hrc C w2 N y m _ z _ (hS.tr k02) hlv' y1 hm y2 y3 hzT hvm) ?_;rintro e w3 ⟨rfl,hk3⟩;refine br (fun g1=>?_) (fun g1=>?_)
  ·have g1:rc y m = false:=by simpa using g1
   rw [g1,Bool.false_and] at hres;subst hres;exact ⟨rfl,k02.tr hk3⟩
  ·have g1:rc y m = true:=by simpa using g1
   rw [g1,Bool.true_and] at hres;refine i6 ?_;exact ⟨i + 1,by omega,rfl,⟨rfl,rfl,rfl,rfl,rfl,trivial⟩,by omega,hk2.tr hk3,hres⟩
 ·have h:¬ (i:Int) < ys.length:=h
  rw [JY (by omega)] at hres;simp only [List.all_nil] at hres;subst hres;exact ⟨rfl,k02⟩
theorem ff' {x:Tr} (hx:Ok .tm x) (h:x.n.op = 4 \/ x.n.op = 5):row x = [x.n] ++ (row (kidD x 0) ++ row (kidD x 1)) /\ row x = (x.n :: row (kidD x 0)) ++ row (kidD x 1) /\ kidsT x = [kidD x 0,kidD x 1] /\ Ok .tm (kidD x 0):=by
 obtain ⟨hk,hkl⟩:=bn' hx (by omega) (by omega);have hkc:ar' x.n = 2:=by rcases h with h | h <;> simp [ar',h]
 obtain ⟨a,b,hab⟩:=pd' (l:=x.ks) (by omega);have hk':=hk;rw [hab] at hk';have e0:kidD x 0 = a:=by simp [kidD,hk']
 have e1:kidD x 1 = b:=by simp [kidD,hk']
 have ho:Ok .tm a:=by
  obtain ⟨n,ks⟩:=x;simp only [Tr.ks] at hab;subst hab;have h1:=hx.kids;have h2:=cd' h1.2.1 h1.2.2;have:nx Md.tm n 0 = .tm:=by rcases h with h | h <;> simp only [Tr.n] at h <;> simp [nx,h]
  rw [this] at h2;exact h2.1
 rw [e0,e1];refine ⟨?_,?_,hk',ho⟩
 ·obtain ⟨n,ks⟩:=x
  simp only [Tr.ks] at hab;subst hab;simp [row,rows,Tr.n]
 ·obtain ⟨n,ks⟩:=x
  simp only [Tr.ks] at hab;subst hab;simp [row,rows,Tr.n]
theorem Own.ints {D:Mem} {e lo:Nat} {w:World} {v:Value} {l:List Int} (h:Own rInt e lo w v l) (hD:∀ b o v,New lo w b o v -> D b o v) (hl:l.length <= 1000000):SV rInt D l v:=by
 obtain ⟨a,c,hv,hc⟩:=h.cap;obtain ⟨a',c',hv',hs⟩:=h.den (by omega);rw [hv] at hv';injection hv' with q1 q2 q3
 subst q1 q3;exact ⟨a,c,hv,hs.mono hD,hc⟩
theorem hC' (hrc:kA' B pl g rc) (hS:Sub C w) (hlv:LkV C B pl lv) {x:Tr} (hx:Ft (QB B) N x) (hm:Mk pl m) (hml:m.length + 4 * (row x).length <= 100000) (hg:(row x).length <= g) {vx:Value} (hvx:TmV C x vx) (hvm:SV rInt C m vm) (n:Nat) (hn:n <= 1000) :
  CC 158 #[lv,vx,iV (n:Int),vm] w (fun e w'=>e = .returned (.bool (bd' rc n x m)) /\ Kp [] w w'):=by
 refine oF Tryz.func158 ?_;obtain ⟨RES,hRES⟩:∃ r,bd' rc n x m = r:=⟨_,rfl⟩
 rw [hRES];have hvx':=hvx;obtain ⟨ax,cx,rfl,_,_⟩:=hvx;have hvm':=hvm;obtain ⟨am,cm,rfl,hsm,_⟩:=hvm;have hlv':=hlv;obtain ⟨v1,v2,v3,v4,rfl,_⟩:=hlv;refine cO (args:=[_,_,_,_]) 42 [.tmp 8] τok Tryz.func158 ?_;refine new fun b4 w1 hb4 h4 hs1 hk1=>?_;have h4:Bk w1.heap b4 [iV B.vars,v1,v2,iV B.nat,v3,v4] 171:=h4;refine ab' (bM' (hS.tr hk1) m am cm hsm (by omega)) ?_;rintro e w2 ⟨⟨vo,rfl,hO⟩,hk2⟩;have k02:=hk1.tr hk2;refine lp τok (σ:=Nat × Tr × Int × List Int × Value × Value) (fun q=>[(1,q.2.2.2.2.1),(2,iV (q.1:Int)),(3,q.2.2.2.2.2),(4,pt b4)])
  (fun q w'=>q.1 <= n /\ Ft (QB B) q.2.2.1 q.2.1 /\ Mk pl q.2.2.2.1 /\ q.2.2.2.1.length + 4 * (row q.2.1).length <= 100000 /\ (row q.2.1).length <= g /\ TmV C q.2.1 q.2.2.2.2.1 /\ Own rInt 173 w1.heap.size w' q.2.2.2.2.2 q.2.2.2.1 /\ Kp [] w1 w' /\ bd' rc q.1 q.2.1 q.2.2.2.1 = RES) (fun q=>q.1) (n,x,N,m,_,vo) rfl
  ⟨rfl,rfl,rfl,rfl,trivial⟩ ⟨KJ _,hx,hm,hml,hg,hvx',hO,hk2,hRES⟩ ?_
 clear hO hRES
 rintro ⟨i,y,M,l,vy,vl⟩ w3 ⟨hi,hy,hl,hll,hyg,hvy,hO,hk3,hres⟩;simp only at hi hy hl hll hyg hvy hO hres;have k03:=hk1.tr hk3;have hS3:=hS.tr k03;have hvy':=hvy;have hyp:=ag' y;obtain ⟨b,o,c,rfl,_,_,_,hcy⟩:=hvy.hd;have last:∀ {s:St},bd' rc i y l = rc y l -> (get s.e 1 = some (.slice (some ⟨b,o,none⟩) (row y).length c)) -> True:=fun _ _=>trivial;have fin:=hrc (Cn C w w3) w3 M y l (.agg #[iV B.vars,v1,v2,iV B.nat,v3,v4]) _ vl (Cn.sub hS k03) (hlv'.mono fun _ _ _ h=>.inl h) hy hl hll hyg (hvy'.mono fun _ _ _ h=>.inl h) (Own.ints hO (fun b o v h=>.inr ⟨KQ hk1.size h.1,h.2⟩) (by omega));refine ac' (fun g1=>?_) (fun g1=>?_)
 ·have g1:(0:Int) < (i:Int):=g1
  obtain ⟨j,rfl⟩:∃ j,i = j + 1:=⟨i - 1,by omega⟩
  refine ix 0 rfl (ag' _) ?_;refine ldC hS3 (by simpa using hcy 0 _ rfl) ?_;refine ac' (fun g2=>?_) (fun g2=>?_)
  ·have g2:y.n.op = 5:=g2
   simp only [bd',if_pos g2] at hres;obtain ⟨e1,e2,hkk,ho0⟩:=ff' hy.ok (.inr g2);have f0:=hy.kidN 0 (by rw [hkk]; simp) (b:=0) (by simp [kb,aJ',g2]);have f1:=hy.kidN 1 (by rw [hkk]; simp) (b:=1) (by simp [kb,aJ',g2]);have hlen:(row y).length = 1 + (row (kidD y 0)).length + (row (kidD y 1)).length:=by rw [e1]; simp; omega
   have hp0:=ag' (kidD y 0);have hp1:=ag' (kidD y 1);refine ab' (cP' hS3 hvy' hy.len e1 ho0 (i:=1) rfl) ?_;rintro e w4 ⟨rfl,hk4⟩;have k04:=k03.tr hk4;obtain ⟨a7,c7,q7,hle7,hc7,v7,hs7,hT7⟩:=hvy'.cut e1;injection q7 with q1 _ q2
   subst q1 q2;obtain ⟨a8,c8,q8,hle8,v8,hs8,hT8⟩:=hvy'.cutT e2;injection q8 with q1 _ q2
   subst q1 q2;have hfl:(y.n :: row (kidD y 0)).length = 1 + (row (kidD y 0)).length:=by simp; omega
   obtain ⟨av,cv,rfl⟩:=hO.len;have hO4:=hO.kp hk4;refine as' τok (fun z=>Kp [] w4 z) ?_;refine rV τok (rg 0 5) 2 (mR 7 5) (kQd w4) ?_;refine dP' [iV B.vars,v1,v2,iV B.nat,v3,v4] rfl (fun j v hj=>by rw [KW]; exact (h4.kp (hk3.tr hk4) (by simp)).cl hj) ?_;refine cw' τok rfl 1 (1 + (row (kidD y 0)).length) v7 rfl (by simp) (by omega) (by simp at hle7; omega) hs7 ?_;refine nV τok 5 1 (mR 7 6) ?_;refine ab' (hrc (Cn C w w4) (dr w4) M (kidD y 0) l _ v7 _ (Sub.dr (Cn.sub hS k04) _) (hlv'.mono fun _ _ _ h=>.inl h) (f0.mono (by omega)) hl (by omega) (by omega) (hT7.mono fun _ _ _ h=>.inl h) (Own.ints hO4 (fun b o v h=>.inr ⟨KQ hk1.size h.1,h.2⟩) (by omega))) ?_;rintro e w5 ⟨rfl,hk5⟩;have hk5:Kp [] w4 w5:=hk5.rd;refine ⟨.inl hk5,?_⟩;refine rV τok [6] 0 (mR 7 7) hk5 ?_;refine dV ?_;refine br (fun g3=>?_) (fun g3=>?_)
   ·have g3:rc (kidD y 0) l = false:=by simpa using g3
    rw [g3,Bool.false_and] at hres;subst hres;exact ⟨rfl,k04.tr hk5⟩
   ·have g3:rc (kidD y 0) l = true:=by simpa using g3
    rw [g3,Bool.true_and] at hres;refine fill [iV 2] rfl ?_;refine new fun bx w6 hbx hX hs6 hk6=>?_;have hO6:=(hO4.kp hk5).kp hk6;refine hO6.ap1 τok rfl rfl (by decide) 2 [iV 2] ⟨rfl,(by decide:(-9223372036854775808:Int) <= 2),(by decide:(2:Int) <= 9223372036854775807)⟩ (bZ hX) (by omega) (by simp only [maxLen]; omega) fun v9 w7 hO7 hk7 _=>?_;refine jV' τok rfl (y.n :: row (kidD y 0)).length v8 (by simp; omega) hle8 hs8 ?_;refine i6 ?_;refine ⟨(j,kidD y 1,M + 1,l ++ [2],v8,v9),by simp only; omega,rfl,⟨rfl,?_,rfl,rfl,trivial⟩,by show j <= n; omega,f1,hl.snoc (by omega),?_,by simp only; omega,hT8,hO7,(((hk3.tr hk4).tr hk5).tr hk6).own hk7 hO6,hres⟩
    ·show some (iV _) = some (iV (j:Int))
     congr 3
     omega
    ·simp only [JK,JV,JU]
     omega
  ·have g2:¬ y.n.op = 5:=g2
   simp only [bd',if_neg g2] at hres;refine ldN [iV B.vars,v1,v2,iV B.nat,v3,v4] rfl (fun j v hj=>by rw [KW]; exact (h4.kp hk3 (by simp)).cl hj) ?_;refine ab' fin ?_;rintro e w4 ⟨rfl,hk4⟩;rw [hres];exact ⟨rfl,k03.tr hk4⟩
 ·have g1:¬ (0:Int) < (i:Int):=g1
  obtain rfl:i = 0:=by omega
  simp only [bd'] at hres;refine ldN [iV B.vars,v1,v2,iV B.nat,v3,v4] rfl (fun j v hj=>by rw [KW]; exact (h4.kp hk3 (by simp)).cl hj) ?_;refine ab' fin ?_;rintro e w4 ⟨rfl,hk4⟩;rw [hres];exact ⟨rfl,k03.tr hk4⟩
end
end Go.Proofs.YtpealcfjbcpoiaaGreat
