import Derived.Test.YtpealcfjbcpoiaaGreatMl18
set_option linter.unusedVariables false
set_option linter.unusedSimpArgs false
set_option maxRecDepth 100000
set_option maxHeartbeats 4000000
namespace Go.Proofs.YtpealcfjbcpoiaaGreat
open Go.Wx Cd Tm Lv
theorem TmsV.two {C:Mem} {ys:List Tr} {v:Value} (h:TmsV C ys v) {i j:Nat} {y z:Tr} (hi:ys[i]? = some y) (hj:ys[j]? = some z):∃ b o c ay cy az cz,v = .slice (some ⟨b,o,none⟩) ys.length c /\
  C b (o + i * 1) (.slice ay (row y).length cy) /\ TmV C y (.slice ay (row y).length cy) /\ C b (o + j * 1) (.slice az (row z).length cz) /\ TmV C z (.slice az (row z).length cz):=by
 obtain ⟨b,o,c,rfl,u,h1,h2⟩:=h.get hi;obtain ⟨b',o',c',e,u',h3,h4⟩:=h.get hj;injection e with q1 q2 q3
 injection q1 with q1
 injection q1 with q1 q4
 subst q1 q4;obtain ⟨ay,cy,rfl,_,_⟩:=id h2;obtain ⟨az,cz,rfl,_,_⟩:=id h4;exact ⟨b,o,c,ay,cy,az,cz,rfl,h1,h2,h3,h4⟩
section
variable {B:BoT} {X:List Nat} {w:World} {bj:Nat} {n:Nat}
theorem rF' (hB:GoodB B):∀ g,nC' B g (bO' B g):=by
 intro g
 induction g with
 | zero =>
  intro X w bj cx k t n vc v hX hbj hcx hcl hJ hn ht hm hg;have:=ag' t;omega
 | succ g ih =>
  intro X w bj cx k t n vc v hX hbj hcx hcl hJ hn ht hm hg hc hv;have hr:=fm' hB g;obtain ⟨rc,hrcE⟩:∃ rc,rc = bO' B g:=⟨_,rfl⟩
  refine oF Tryz.func28 ?_;obtain ⟨RES,hRES⟩:∃ r,bO' B (g + 1) cx t n = r:=⟨_,rfl⟩
  rw [hRES];simp only [bO'] at hRES;rw [<- hrcE] at ih hr hRES;have hrc:=ih;unfold cZ' at hRES;have hJ0:=hJ;obtain ⟨v1,v2,v3,hJb,hO,hE,hP⟩:=hJ;have hvv:=hv;obtain ⟨bt,ot,ct,rfl,hi1,hi2,hi3,hhc⟩:=hv.hd;obtain ⟨ac,cc,rfl,_,_⟩:=id hc;have hpb:=ba' ht.ok.pl;refine cO (args:=[_,_,_]) 258 [.tmp 6] τok Tryz.func28 ?_;refine ix 0 rfl (ag' _) ?_;refine ldN [iV t.n.op,iV t.n.a,iV t.n.b] rfl (fun j u hj=>by rw [show ot + 0 * 3 + j = ot + j by omega]; exact (hhc j u hj).1) ?_;refine new fun b7 w1 hb7 h7 hs1 hk1=>?_;refine stN (vs:=[iV t.n.op,iV t.n.a,iV t.n.b]) h7 rfl (by simp [Value.oneCell']) fun w2 h7 hs2 hk2=>?_;have k02:=hk1.newSt hb7 hk2;have h7:Bk w2.heap b7 [iV t.n.op,iV t.n.a,iV t.n.b] 45:=h7;have hne7:b7 ≠ bj:=by have:=hX bj hbj; omega
  have hb7X:b7 ∉ X:=fun hm=>by
   have h1:=hX _ hm;omega
  have up2:∀ b o v,Im X w b o v -> Im X w2 b o v:=fun b o v h=>h.tr k02;have hX2:=xU hX k02;have hJb2:=hJb.kp k02 (by simp);have hJ2:=hJ0.tr k02;have hc2:=hc.mono up2;have hvt2:=hvv.mono up2;have hO2:=hO.mono up2;have hE2:=hE.mono up2;have hP2:=hP.mono up2;refine lb h7 ?_;refine ac' (fun g1=>?_) (fun g1=>?_)
  ·have g1:t.n.op = 1:=g1
   rw [if_pos g1] at hRES;subst hRES;have hvl:0 <= t.n.a /\ t.n.a < (cx.length:Int):=by
    obtain ⟨q1,q2⟩:=t;obtain ⟨r1,r2,_⟩:=ht.var_lt g1;exact ⟨r1,r2⟩
   have hget:=cf' hvl.1 hvl.2;obtain ⟨c1,c2⟩:=hcx _ _ hget;obtain ⟨bc,oc,cc',pc,hat⟩:=hc2.at (i:=cx.length - 1 - t.n.a.toNat) (x:=bdR (ge' cx t.n.a)) (by rw [JX,hget]; rfl)
   obtain ⟨vty,vva,hbc,hbt,hbv⟩:=oX' hat;have hbt:TmV (Im X w2) (ge' cx t.n.a).1 vty:=TmV.sv.2 hbt;injection pc with q1 q2 q3
   subst q1 q3;have hlm:(cx.map bdR).length = cx.length:=by simp
   refine as' τok (fun z=>Kp [] w2 z) ?_;refine rV τok (rg 0 13) 5 (mR 18 13) (kQd w2) ?_;refine i6 ?_;refine lk h7 ?_;refine i6 ?_;refine ix (cx.length - 1 - t.n.a.toNat) (by omega) (by omega) ?_;refine ldK (hbc 0 _ rfl).1 ?_;refine lk h7 ?_;refine i6 ?_;refine nV τok 13 4 (mR 18 14) ?_;refine ab' (dG' (C:=Im X w2) (w:=(dr w2)) (Im.sub X w2) (fun _ _ _ h=>h.hold) c1 (by omega) hbt (b:=t.n.a + 1) (by omega)) ?_;rintro e w3 ⟨ul,rfl,hul,hk3⟩;have hk3:Kp [] w2 w3:=hk3.rd;have hul:=IsTm.tv (w:=w2) hul hX2;obtain ⟨aul,cul,rfl,_,_⟩:=id hul;refine ⟨.inl hk3,?_⟩;refine rV τok [14,15] 2 (mR 18 16) hk3 ?_;refine nV τok 16 1 (mR 18 17) ?_;refine ab' (aC' _ ⟨_,_,_,rfl⟩ w3) ?_;rintro e w4 ⟨rfl,hk4⟩;have k24:=hk3.tr hk4;refine ⟨.inl k24,?_⟩;refine rV τok [17] 0 (mR 18 18) k24 ?_;refine dV ?_;exact ⟨⟨_,rfl,hul.mono fun _ _ _ h=>h.tr hk4,hJ2.tr k24⟩,(k02.tr k24).weak (by simp)⟩
  have g1:¬ t.n.op = 1:=g1;rw [if_neg g1] at hRES;refine ac' (fun g2=>?_) (fun g2=>?_)
  ·have g2:t.n.op = 2:=g2
   rw [if_pos g2] at hRES;unfold nz' at hRES;refine ab' (eh' (Im.sub X w2) ht g2 hvt2) ?_;rintro e w3 ⟨al,cl,rfl,hl,hk3⟩;refine ab' (wr' (C:=New w2.heap.size w3) (w:=w3) (New.sub _ _) (dN' t) 1 al cl hl (by constructor <;> simp)) ?_;rintro e w4 ⟨ar,cr,rfl,hl2,hk4⟩;have k24:=hk3.tr hk4
   by_cases gz:upE (dN' t) 1 = 0
   rotate_left
   ·rw [if_pos gz] at hRES
    subst hRES;refine ab' (aN' _ gz w4) ?_;rintro e w5 ⟨rfl,hk5⟩;exact ⟨rfl,(k02.tr (k24.tr hk5)).weak (by simp)⟩
   rw [if_neg (fun h=>h gz)] at hRES;rw [gz];subst hRES;refine ab' (hJ' w4) ?_;rintro e w5 ⟨⟨v9,rfl⟩,hk5⟩;have hlo:=tL' (kC' ht g2) gz;have hhi:=hlo.hi;refine ab' (kH' (C:=New w3.heap.size w5) (w:=w5) (New.sub _ _) 1 (by constructor <;> simp) _ ar cr (hl2.mono fun b o v h=>⟨h.1,h.2.kp hk5 (by simp)⟩) (by omega)) ?_;rintro e w6 ⟨⟨us,rfl,hus⟩,hk6⟩;have k26:=(k24.tr hk5).tr hk6;have hX5:XL X w5:=fun b hb=>KZ (hX2 b hb) (k24.tr hk5).size;have hus:=hus.tv hX5;obtain ⟨_,_,rfl,_,_⟩:=id hus;exact ⟨⟨_,rfl,hus,hJ2.tr k26⟩,(k02.tr k26).weak (by simp)⟩
  have g2:¬ t.n.op = 2:=g2;rw [if_neg g2] at hRES;refine ac' (fun g8=>?_) (fun g8=>?_)
  ·have g8:t.n.op = 8:=g8
   rw [if_pos g8] at hRES;subst hRES;obtain ⟨i,x,ty,bo,hi,hx,hxe,hd⟩:=hB.dfn ht.node' g8;obtain ⟨be,oe,ce,rfl,hat⟩:=hE2.at hx;obtain ⟨w1e,w2e,w3e,w4e,w5e,w6e,hcs,hki,hso,hpa,hin,hct,hty,hbo⟩:=eB' hat;rw [hd.type] at hty;have hty:TmV (Im X w2) ty w5e:=TmV.sv.2 hty;obtain ⟨_,_,rfl,_,_⟩:=id hty;have hty2:tr (cr' B t.n.a).type = ty:=by rw [hxe,hd.type,cJ' hd.ft.ok]
   rw [hty2];refine as' τok (fun z=>Kp [] w2 z) ?_;refine rV τok (rg 0 11) 0 (mR 11 11) (kQd w2) ?_;refine lk hJb2 ?_;refine lk h7 ?_;refine ix i hi (ai' hx) ?_;refine ldK (hcs 5 _ rfl).1 ?_;refine dV ?_;have kd:Kp [] w2 (dr w2):=(Kp.refl [] w2).dr _;exact ⟨⟨_,rfl,hty.mono fun _ _ _ h=>h.tr kd,hJ2.tr kd⟩,(k02.tr kd).weak (by simp)⟩
  have g8:¬ t.n.op = 8:=g8;rw [if_neg g8] at hRES;refine ac' (fun g9=>?_) (fun g9=>?_)
  ·have g9:t.n.op = 9:=g9
   rw [if_pos g9] at hRES;have hfam:=re' ht.node' g9 hpb.2.2.1;refine cO' τok (fun z=>Kp [] w2 z) ?_;refine rP τok (rg 0 6) 5 (mR 11 6) (kQd w2) ?_;refine dP' [iV B.vars,v1,v2,iV B.nat,v3] rfl (fun j u hj=>by
    refine hJb2.cl ?_;rw [KW]
    match j,hj with
    | 0,hj=>exact hj
    | 1,hj=>exact hj
    | 2,hj=>exact hj
    | 3,hj=>exact hj
    | 4,hj=>exact hj
    | j + 5,hj=>cases hj) ?_
   refine lk h7 ?_;refine am' τok 6 4 (mR 11 7) rfl rfl rfl (by kernel_rfl) ?_;obtain ⟨r1,hr1⟩:∃ r,sB' B t.n.a = r:=⟨_,rfl⟩
   have hct:=ny' (C:=Im X w2) (w:=(dr w2)) hB (Im.sub X w2) (vb:=.agg #[iV B.vars,v1,v2,iV B.nat,v3]) ⟨v1,v2,v3,rfl,hO2,hE2,hP2⟩ hfam;rw [hr1] at hct hRES;refine ab' hct ?_;rintro e w3 ⟨he,hk3⟩;have hk3:Kp [] w2 w3:=hk3.rd;cases r1 with
   | error er =>
    obtain ⟨rfl,her⟩:=he;obtain rfl:.error er = RES:=hRES;refine ⟨.inl hk3,?_⟩;refine rP τok [7,8] 2 (mR 11 9) hk3 ?_;refine am' τok 9 1 (mR 11 10) rfl rfl rfl (by kernel_rfl) ?_;refine ab' (bm' _ ⟨_,_,_,rfl⟩ er her w3) ?_;rintro e w4 ⟨rfl,hk4⟩;exact ⟨rfl,rfl,(k02.tr (hk3.tr hk4)).weak (by simp)⟩
   | ok z =>
    obtain ⟨u,rfl,hu⟩:=he;have hu:TmV (Im X w3) z u:=hu.mono (Im.cn (w:=w2) hX2 hk3);obtain ⟨_,_,rfl,_,_⟩:=id hu;obtain rfl:.ok (z,n) = RES:=hRES;refine ⟨.inl hk3,?_⟩;refine rP τok [7,8] 2 (mR 11 9) hk3 ?_;refine am' τok 9 1 (mR 11 10) rfl rfl rfl (by kernel_rfl) ?_;refine ab' (aC' _ ⟨_,_,_,rfl⟩ w3) ?_;rintro e w4 ⟨rfl,hk4⟩;have k24:=hk3.tr hk4;refine ⟨.inl k24,?_⟩;refine rP τok [10] 0 (mR 11 11) k24 ?_;refine dP ?_;exact ⟨⟨_,rfl,hu.mono fun _ _ _ h=>h.tr hk4,hJ2.tr k24⟩,(k02.tr k24).weak (by simp)⟩
  have g9:¬ t.n.op = 9:=g9;rw [if_neg g9] at hRES;refine ac' (fun g10=>?_) (fun g10=>?_)
  ·have g10:t.n.op = 10:=g10
   rw [if_pos g10] at hRES;have hfam:=jk' ht.node' (.inl g10);have hctr:=mE' ht.node' g10;refine cO' τok (fun z=>Kp [] w2 z) ?_;refine rP τok (rg 0 8) 5 (mR 13 8) (kQd w2) ?_;refine dP' [iV B.vars,v1,v2,iV B.nat,v3] rfl (fun j u hj=>by
    refine hJb2.cl ?_;rw [KW]
    match j,hj with
    | 0,hj=>exact hj
    | 1,hj=>exact hj
    | 2,hj=>exact hj
    | 3,hj=>exact hj
    | 4,hj=>exact hj
    | j + 5,hj=>cases hj) ?_
   refine lk h7 ?_;refine lk h7 ?_;refine am' τok 8 4 (mR 13 9) rfl rfl rfl (by kernel_rfl) ?_;obtain ⟨r1,hr1⟩:∃ r,jr' B t.n.a t.n.b = r:=⟨_,rfl⟩
   have hct:=lF' (C:=Im X w2) (w:=(dr w2)) hB (Im.sub X w2) (fun _ _ _ h=>h.hold) (vb:=.agg #[iV B.vars,v1,v2,iV B.nat,v3]) ⟨v1,v2,v3,rfl,hO2,hE2,hP2⟩ hfam hpb.1 hctr;rw [hr1] at hct hRES;refine ab' hct ?_;rintro e w3 ⟨he,hk3⟩;have hk3:Kp [] w2 w3:=hk3.rd;cases r1 with
   | error er =>
    obtain ⟨rfl,her⟩:=he;obtain rfl:.error er = RES:=hRES;refine ⟨.inl hk3,?_⟩;refine rP τok [9,10] 2 (mR 13 11) hk3 ?_;refine am' τok 11 1 (mR 13 12) rfl rfl rfl (by kernel_rfl) ?_;refine ab' (bm' _ ⟨_,_,_,rfl⟩ er her w3) ?_;rintro e w4 ⟨rfl,hk4⟩;exact ⟨rfl,rfl,(k02.tr (hk3.tr hk4)).weak (by simp)⟩
   | ok z =>
    obtain ⟨u,rfl,hu⟩:=he;have hu:TmV (Im X w3) z u:=hu.mono (Im.cn (w:=w2) hX2 hk3);obtain ⟨_,_,rfl,_,_⟩:=id hu;obtain rfl:.ok (z,n) = RES:=hRES;refine ⟨.inl hk3,?_⟩;refine rP τok [9,10] 2 (mR 13 11) hk3 ?_;refine am' τok 11 1 (mR 13 12) rfl rfl rfl (by kernel_rfl) ?_;refine ab' (aC' _ ⟨_,_,_,rfl⟩ w3) ?_;rintro e w4 ⟨rfl,hk4⟩;have k24:=hk3.tr hk4;refine ⟨.inl k24,?_⟩;refine rP τok [12] 0 (mR 13 13) k24 ?_;refine dP ?_;exact ⟨⟨_,rfl,hu.mono fun _ _ _ h=>h.tr hk4,hJ2.tr k24⟩,(k02.tr k24).weak (by simp)⟩
  have g10:¬ t.n.op = 10:=g10;rw [if_neg g10] at hRES;refine ab' (dU' (Im.sub X w2) (fun _ _ _ h=>h.hold) ht hvt2) ?_;rintro e w3 ⟨uk,rfl,huk,hk3⟩;have huk:=huk.tv hX2;obtain ⟨auk,cuk,rfl,_,_⟩:=id huk;have k03:=k02.tr hk3;have h73:=h7.kp hk3 (by simp);have hJ3:=hJ2.tr hk3;have up3:∀ b o v,Im X w b o v -> Im X w3 b o v:=fun b o v h=>h.tr k03;have hX3:=xU hX k03;have hc3:=hc.mono up3;have hvt3:=hvv.mono up3;have kw3:Kp [bj] w w3:=k03.weak (by simp);refine lb h73 ?_;refine ac' (fun g4=>?_) (fun g4=>?_)
  ·have g4:t.n.op = 4:=g4
   rw [if_pos g4] at hRES;unfold jpi at hRES;obtain ⟨hkl,f0,f1⟩:=aB' ht (.inl g4);obtain ⟨e0,_⟩:=ht.kidD (k:=0) (by omega);obtain ⟨e1,_⟩:=ht.kidD (k:=1) (by omega);obtain ⟨m0,n0⟩:=hm.kid (JQ e0);obtain ⟨m1,n1⟩:=hm.kid (JQ e1);obtain ⟨bk,ok,ck,a0,c0,a1,c1,pk,h0,hT0,h1,hT1⟩:=huk.two e0 e1;injection pk with q1 q2 q3
   subst q1 q3;refine ix 0 rfl (by omega) ?_;refine ld (Im.sub X w3 _ _ _ h0).cell ?_;refine ab' (fH' (k:=k) hB hr hrc hX3 hbj hcx hcl hJ3 hn f0 m0 (by omega) hc3 hT0) ?_;rintro e w4 he;rcases he.cs with ⟨er,hq,rfl,hk4⟩ | ⟨q,u,hq,rfl,hu,hJ4,hk4⟩
   ·rw [hq] at hRES
    obtain rfl:.error er = RES:=hRES;exact ⟨rfl,kw3.tq hk4⟩
   rw [hq] at hRES;simp only [bS'] at hRES;obtain ⟨al,cl,rfl,hl⟩:=hu;obtain ⟨d1,d2,d3⟩:=db' hB hr hcx f0 hq;have hqn:=(bA' hB hr hq).2.1;have kw4:Kp [bj] w w4:=kw3.tq hk4;have up4:=Im.kb hk4 hbj;have hX4:=xU hX kw4;have hcxs:CxOk B (cx ++ [(kidD t 0,none)]):=hcx.snoc f0 fun x hx=>by cases hx
   have hlen:(cx ++ [(kidD t 0,none)]).length = cx.length + 1:=cg';refine cO' τok (fun z=>Kp [bj] w4 z) ?_;refine rP τok [0,1,2,3,4,5,8,9,10] 8 (mB 17 [6,7,11,12,13,14,15,16]) ((Kp.refl [bj] w4).dr _) ?_;refine ix 0 rfl (by omega) ?_;refine ldI hbj (up4 _ _ _ h0) ?_;refine ix 1 rfl (by omega) ?_;refine ldI hbj (up4 _ _ _ h1) ?_;refine am' τok 6 7 (mB 17 [7,11,12,13,14,15,16]) rfl rfl rfl (by kernel_rfl) ?_;refine fill [.slice a0 (row (kidD t 0)).length c0,.slice none 0 0] rfl ?_;refine new fun b5 w5 hb5 h5 hs5 hk5=>?_;have hk5:Kp [] w4 w5:=hk5.rd;have hX5:=xU hX4 hk5;have hb5X:b5 ∉ X:=fun hm=>by
    have h1:=hX4 _ hm;have h2:b5 = w4.heap.size:=hb5;omega
   have tr5:∀ b o v,Im X w3 b o v -> Im X w5 b o v:=fun b o v h=>(up4 _ _ _ h).tr hk5;refine ⟨.inl (hk5.weak (by simp)),?_⟩;refine am' τok 7 6 (mR 17 11) rfl rfl rfl (by kernel_rfl) ?_;refine ab' (dc' (t:=kidD t 0) (o:=none) hX5 (hc3.mono tr5) (by omega) h5 hb5X (hT0.mono tr5) (SV.nil _ _)) ?_;rintro e w6 ⟨⟨vc6,rfl,hc6⟩,hk6⟩;have k46:=hk5.tr hk6;have hX6:=xU hX5 hk6;refine ⟨.inl (k46.weak (by simp)),?_⟩;refine am' τok 11 5 (mR 17 12) rfl rfl rfl (by kernel_rfl) ?_;refine ab' (fH' (k:=k) hB hr hrc hX6 hbj hcxs (by omega) (hJ4.tr k46) (by omega) (t:=kidD t 1) (by rw [hlen]; exact f1.mono (by omega)) m1 (by omega) hc6 (hT1.mono fun _ _ _ h=>(tr5 _ _ _ h).tr hk6)) ?_;rintro e w7 he;rcases he.cs with ⟨er,hq7,rfl,hk7⟩ | ⟨q7,u7,hq7,rfl,hu7,hJ7,hk7⟩
   ·rw [hq7] at hRES
    obtain rfl:.error er = RES:=hRES;exact ⟨rfl,rfl,(kw4.tr k46).tq hk7⟩
   rw [hq7] at hRES;simp only [bS'] at hRES;obtain ⟨al7,cl7,rfl,hl7⟩:=hu7;have d7:=(db' hB hr hcxs (t:=kidD t 1) (by rw [hlen]; exact f1.mono (by omega)) hq7).2;have k47:Kp [bj] w4 w7:=(k46.weak (by simp)).tq hk7;have kw7:Kp [bj] w w7:=kw4.tq k47;refine ⟨.inl k47,?_⟩;refine rP τok (rg 12 5) 0 (mR 17 17) k47 ?_;refine dP ?_;have up7:=Im.kb k47 hbj;refine ab' (vl' (Im.sub X w7) q.1.2 q7.1.2 al al7 cl cl7 (hl.mono up7) hl7) ?_;rintro e w8 ⟨ar,cr,rfl,hlr,hk8⟩
   by_cases gz:mI' q.1.2 q7.1.2 = 0
   rotate_left
   ·rw [if_pos gz] at hRES
    subst hRES;refine ab' (aN' _ gz w8) ?_;rintro e w9 ⟨rfl,hk9⟩;exact ⟨rfl,kw7.tr (hk8.tr hk9)⟩
   rw [if_neg (fun h=>h gz)] at hRES;rw [gz];subst hRES;refine ab' (hJ' w8) ?_;rintro e w9 ⟨⟨v9,rfl⟩,hk9⟩;have hhi:=(pw' d3 d7.2 gz).hi;refine ab' (kH' (C:=New w7.heap.size w9) (w:=w9) (New.sub _ _) q7.1.1 (by rcases d7.1 with h | h <;> rw [h] <;> constructor <;> simp) _ ar cr (hlr.mono fun b o v h=>⟨h.1,h.2.kp hk9 (by simp)⟩) (by omega)) ?_;rintro e wa ⟨⟨us,rfl,hus⟩,hka⟩;have k7a:=(hk8.tr hk9).tr hka;have hX9:XL X w9:=fun b hb=>KZ (hX b hb) (kw7.tr (hk8.tr hk9)).size;have hus:=hus.tv hX9;obtain ⟨_,_,rfl,_,_⟩:=id hus;exact ⟨⟨_,rfl,hus,hJ7.tr k7a⟩,kw7.tr k7a⟩
  have g4:¬ t.n.op = 4:=g4;rw [if_neg g4] at hRES;refine ac' (fun g5=>?_) (fun g5=>?_)
  ·have g5:t.n.op = 5:=g5
   rw [if_pos g5] at hRES;unfold uA' at hRES;obtain ⟨hkl,f0,f1⟩:=aB' ht (.inr g5);obtain ⟨e0,_⟩:=ht.kidD (k:=0) (by omega);obtain ⟨e1,_⟩:=ht.kidD (k:=1) (by omega);obtain ⟨m0,n0⟩:=hm.kid (JQ e0);obtain ⟨m1,n1⟩:=hm.kid (JQ e1);have hone:(kidsT t).take 1 = [kidD t 0]:=by
    have:=al' (l:=kidsT t) (k:=0) e0
    simpa using this
   obtain ⟨bk,ok,ck,a0,c0,a1,c1,pk,h0,hT0,h1,hT1⟩:=huk.two e0 e1;obtain ⟨at1,ct1,pt1,hle1,vps,hsps,hvps⟩:=huk.take (k:=1) (by omega);rw [hone] at hvps;rw [pk] at pt1;injection pk with q1 q2 q3
   injection pt1 with r1 r2 r3
   subst q1 q3 r1 r3;obtain ⟨avp,cvp,rfl,_,_⟩:=id hvps;refine ix 0 rfl (by omega) ?_;refine ld (Im.sub X w3 _ _ _ h0).cell ?_;refine ab' (fH' (k:=k) hB hr hrc hX3 hbj hcx hcl hJ3 hn f0 m0 (by omega) hc3 hT0) ?_;rintro e w4 he;rcases he.cs with ⟨er,hq,rfl,hk4⟩ | ⟨q,u,hq,rfl,hu,hJ4,hk4⟩
   ·rw [hq] at hRES
    obtain rfl:.error er = RES:=hRES;exact ⟨rfl,kw3.tq hk4⟩
   rw [hq] at hRES;simp only [bS'] at hRES;obtain ⟨al,cl,rfl,hl⟩:=hu;obtain ⟨d1,d2,d3⟩:=db' hB hr hcx f0 hq;have hqn:=(bA' hB hr hq).2.1;have kw4:Kp [bj] w w4:=kw3.tq hk4;have up4:=Im.kb hk4 hbj;have hX4:=xU hX kw4;have hcxs:CxOk B (cx ++ [(kidD t 0,none)]):=hcx.snoc f0 fun x hx=>by cases hx
   have hlen:(cx ++ [(kidD t 0,none)]).length = cx.length + 1:=cg';have f1':Ft (QB B) ((cx ++ [(kidD t 0,none)]).length:Int) (kidD t 1):=by rw [hlen]; exact f1.mono (by omega)
   refine cO' τok (fun z=>Kp [bj] w4 z) ?_;refine rP τok [0,1,2,3,4,5,6,7,10,11,12] 8 (mB 19 [8,9,13,14,15,16,17,18]) ((Kp.refl [bj] w4).dr _) ?_;refine uH' τok rfl 1 (.slice avp [kidD t 0].length cvp) rfl (by omega) hsps ?_;refine ix 0 rfl (by omega) ?_;refine ldI hbj (up4 _ _ _ h0) ?_;refine ix 1 rfl (by omega) ?_;refine ldI hbj (up4 _ _ _ h1) ?_;refine am' τok 8 7 (mB 19 [9,13,14,15,16,17,18]) rfl rfl rfl (by kernel_rfl) ?_;refine fill [.slice a0 (row (kidD t 0)).length c0,.slice none 0 0] rfl ?_;refine new fun b5 w5 hb5 h5 hs5 hk5=>?_;have hk5:Kp [] w4 w5:=hk5.rd;have hX5:=xU hX4 hk5;have hb5X:b5 ∉ X:=fun hm=>by
    have h1:=hX4 _ hm;have h2:b5 = w4.heap.size:=hb5;omega
   have tr5:∀ b o v,Im X w3 b o v -> Im X w5 b o v:=fun b o v h=>(up4 _ _ _ h).tr hk5;refine ⟨.inl (hk5.weak (by simp)),?_⟩;refine am' τok 9 6 (mR 19 13) rfl rfl rfl (by kernel_rfl) ?_;refine ab' (dc' (t:=kidD t 0) (o:=none) hX5 (hc3.mono tr5) (by omega) h5 hb5X (hT0.mono tr5) (SV.nil _ _)) ?_;rintro e w6 ⟨⟨vc6,rfl,hc6⟩,hk6⟩;have k46:=hk5.tr hk6;have hX6:=xU hX5 hk6;refine ⟨.inl (k46.weak (by simp)),?_⟩;refine am' τok 13 5 (mR 19 14) rfl rfl rfl (by kernel_rfl) ?_;refine ab' (hrc X w6 bj (cx ++ [(kidD t 0,none)]) k (kidD t 1) q.2 _ _ hX6 hbj hcxs (by omega) (hJ4.tr k46) (by omega) f1' m1 (by omega) hc6 (hT1.mono fun _ _ _ h=>(tr5 _ _ _ h).tr hk6)) ?_;rintro e w7 he;rcases he.cs with ⟨er,hq7,rfl,hk7⟩ | ⟨q7,u7,hq7,rfl,hu7,hJ7,hk7⟩
   ·rw [hq7] at hRES
    obtain rfl:.error er = RES:=hRES;exact ⟨rfl,rfl,(kw4.tr k46).tq hk7⟩
   rw [hq7] at hRES;simp only [bS'] at hRES;have hf7:=hr.ft _ _ _ _ hcxs (by omega) f1' hq7;have k47:Kp [bj] w4 w7:=(k46.weak (by simp)).tq hk7;have kw7:Kp [bj] w w7:=kw4.tq k47;have up7:=Im.kb k47 hbj;have hX7:=xU hX kw7;refine ⟨.inl k47,?_⟩;refine am' τok 14 4 (mR 19 15) rfl rfl rfl (by kernel_rfl) ?_;obtain ⟨r1,hr1⟩:∃ r,bq' [kidD t 0] q7.1 = r:=⟨_,rfl⟩
   have hbe:=iD' (C:=Im X w7) (w:=w7) (Im.sub X w7) (x:=q7.1) (ys:=[kidD t 0]) hf7.ok hf7.len (fun y hy=>by
    obtain rfl:y = kidD t 0:=by simpa using hy
    exact ⟨f0.ok,f0.len⟩) (by simp) hu7 ((hvps.mono up4).mono up7)
   rw [hr1] at hbe hRES;refine ab' hbe ?_;rintro e w8 ⟨he,hk8⟩;have k48:Kp [bj] w4 w8:=k47.tr hk8;cases r1 with
   | error er =>
    obtain ⟨rfl,her⟩:=he;obtain rfl:.error er = RES:=hRES;refine ⟨.inl k48,?_⟩;refine rP τok [15,16] 2 (mR 19 17) k48 ?_;refine am' τok 17 1 (mR 19 18) rfl rfl rfl (by kernel_rfl) ?_;refine ab' (bm' _ ⟨_,_,_,rfl⟩ er her w8) ?_;rintro e w9 ⟨rfl,hk9⟩;exact ⟨rfl,rfl,kw7.tr (hk8.tr hk9)⟩
   | ok z =>
    obtain ⟨uz,rfl,huz⟩:=he;have huz:TmV (Im X w8) z uz:=huz.mono (Im.cn (w:=w7) hX7 hk8);obtain ⟨_,_,rfl,_,_⟩:=id huz;obtain rfl:.ok (z,q7.2) = RES:=hRES;refine ⟨.inl k48,?_⟩;refine rP τok [15,16] 2 (mR 19 17) k48 ?_;refine am' τok 17 1 (mR 19 18) rfl rfl rfl (by kernel_rfl) ?_;refine ab' (aC' _ ⟨_,_,_,rfl⟩ w8) ?_;rintro e w9 ⟨rfl,hk9⟩;have k79:=hk8.tr hk9;refine ⟨.inl (k48.tr hk9),?_⟩;refine rP τok [18] 0 (mR 19 19) (k48.tr hk9) ?_;refine dP ?_;exact ⟨⟨_,rfl,huz.mono fun _ _ _ h=>h.tr hk9,hJ7.tr k79⟩,kw7.tr k79⟩
  have g5:¬ t.n.op = 5:=g5;rw [if_neg g5] at hRES;refine ac' (fun g6=>?_) (fun g6=>?_)
  ·have g6:t.n.op = 6:=g6
   rw [if_pos g6] at hRES;unfold tK' at hRES;obtain ⟨hkl,f0,f1⟩:=jv' ht g6;obtain ⟨e0,_⟩:=ht.kidD (k:=0) (by omega);obtain ⟨e1,_⟩:=ht.kidD (k:=1) (by omega);obtain ⟨m0,n0⟩:=hm.kid (JQ e0);obtain ⟨m1,n1⟩:=hm.kid (JQ e1);obtain ⟨bk,ok,ck,a0,c0,a1,c1,pk,h0,hT0,h1,hT1⟩:=huk.two e0 e1;injection pk with q1 q2 q3
   subst q1 q3;refine ix 0 rfl (by omega) ?_;refine ld (Im.sub X w3 _ _ _ h0).cell ?_;refine ab' (hrc X w3 bj cx k (kidD t 0) n _ _ hX3 hbj hcx hcl hJ3 hn f0 m0 (by omega) hc3 hT0) ?_;rintro e w4 he;rcases he.cs with ⟨er,hq,rfl,hk4⟩ | ⟨q,u,hq,rfl,hu,hJ4,hk4⟩
   ·rw [hq] at hRES
    obtain rfl:.error er = RES:=hRES;exact ⟨rfl,kw3.tq hk4⟩
   rw [hq] at hRES;simp only [bS'] at hRES;have hqF:=hr.ft _ _ _ _ hcx hcl f0 hq;have hqn:=hr.le _ _ _ _ hq;have kw4:Kp [bj] w w4:=kw3.tq hk4;have hX4:=xU hX kw4;obtain ⟨_,_,rfl,_,_⟩:=id hu;refine ab' (fn' hB hcx hcl hX4 hbj hJ4 (by omega) hqF (hc.mono (Im.kb kw4 hbj)) hu) ?_;rintro e w5 he;rcases he.cs with ⟨er,hz,rfl,hk5⟩ | ⟨z,u,hz,rfl,hu,hJ5,hk5⟩
   ·rw [hz] at hRES
    obtain rfl:.error er = RES:=hRES;exact ⟨rfl,kw4.tq hk5⟩
   rw [hz] at hRES;simp only [bS'] at hRES;have kw5:Kp [bj] w w5:=kw4.tq hk5;have k35:Kp [bj] w3 w5:=hk4.tq hk5;have hX5:=xU hX kw5;obtain ⟨uh,ua,rfl,hh,haa⟩:=hu;obtain ⟨hc256,hzn,hzf⟩:=ea' hB hcx hqF hz;have hh5:=hh;obtain ⟨bh,oh,ch,rfl,hz1,hz2,hz3,hzc⟩:=hh.hd;obtain ⟨aa,ca,rfl,_,_⟩:=id haa;refine ix 0 rfl (ag' _) ?_;refine ld (Im.sub X w5 _ _ _ (by simpa using hzc 0 _ rfl)).cell ?_;refine ac' (fun y1=>?_) (fun y1=>?_)
   ·have y1:(headT z.1).n.op ≠ 4:=y1
    rw [if_pos (.inl y1)] at hRES;subst hRES;refine ab' (aN' 12 (by decide) w5) ?_;rintro e w6 ⟨rfl,hk6⟩;exact ⟨rfl,kw5.tr hk6⟩
   have y1:¬ (headT z.1).n.op ≠ 4:=y1;refine ac' (fun y2=>?_) (fun y2=>?_)
   ·have y2:(0:Int) < ((argsT z.1).length:Int):=y2
    rw [if_pos (.inr (by omega))] at hRES;subst hRES;refine ab' (aN' 12 (by decide) w5) ?_;rintro e w6 ⟨rfl,hk6⟩;exact ⟨rfl,kw5.tr hk6⟩
   have y2:¬ (0:Int) < ((argsT z.1).length:Int):=y2;rw [if_neg (by omega)] at hRES;obtain ⟨zkl,zf0,zf1⟩:=aB' hzf.head (.inl (by omega));obtain ⟨ze0,_⟩:=hzf.head.kidD (k:=0) (by omega);obtain ⟨ze1,_⟩:=hzf.head.kidD (k:=1) (by omega);refine ab' (dU' (Im.sub X w5) (fun _ _ _ h=>h.hold) hzf.head hh5) ?_;rintro e w6 ⟨uzk,rfl,huzk,hk6⟩;have huzk:=huzk.tv hX5;obtain ⟨bz,oz,cz,za0,zc0,za1,zc1,rfl,zh0,zT0,zh1,zT1⟩:=huzk.two ze0 ze1;have kw6:Kp [bj] w w6:=kw5.tr hk6;have k36:Kp [bj] w3 w6:=k35.tr hk6;have up36:=Im.kb k36 hbj;have hX6:=xU hX kw6;have kd6:Kp [bj] w6 (dr w6):=(Kp.refl [bj] w6).dr _;refine cO' τok (fun z=>Kp [bj] w6 z) ?_;refine rP τok (rg 0 8) 1 (mR 9 8) kd6 ?_;refine ix 1 rfl (by omega) ?_;refine ldI hbj (up36 _ _ _ h1) ?_;refine ix 0 rfl (by omega) ?_;refine ldI hbj zh0 ?_;refine am' τok 8 0 (mR 9 9) rfl rfl rfl (by kernel_rfl) ?_;refine ab' (dn' (w:=(dr w6)) (k:=k) hB hr hrc hX6 hbj hcx hcl (hJ5.tr (hk6.dr _)) (by omega) f1 m1 (by omega) zf0 (hc3.mono up36) (hT1.mono up36) zT0) ?_;rintro e w7 he;rcases he.cs with ⟨er,hq7,rfl,hk7⟩ | ⟨q7,u7,hq7,rfl,hu7,hJ7,hk7⟩
   ·have hk7:Kp [bj] w6 w7:=hk7.rd
    rw [hq7] at hRES;obtain rfl:.error er = RES:=hRES;exact ⟨rfl,rfl,kw6.tq hk7⟩
   have hk7:Kp [bj] w6 w7:=hk7.rd;have kw7:Kp [bj] w w7:=kw6.tq hk7;rw [hq7] at hRES;simp only [bS'] at hRES;refine ⟨.inl hk7,?_⟩;refine dP ?_;have up67:=Im.kb hk7 hbj;have hX7:=xU hX kw7;have kd7:Kp [] w7 (dr w7):=(Kp.refl [] w7).dr _;refine cO' τok (fun z=>Kp [] w7 z) ?_;refine rP τok (rg 0 6) 5 (mR 11 6) kd7 ?_;refine ix 1 rfl (by omega) ?_;refine ldK (up67 _ _ _ zh1).1 ?_;refine ix 1 rfl (by omega) ?_;refine ldK (up67 _ _ _ (up36 _ _ _ h1)).1 ?_;refine am' τok 6 4 (mR 11 7) rfl rfl rfl (by kernel_rfl) ?_;obtain ⟨r1,hr1⟩:∃ r,ay' (kidD (headT z.1) 1) (kidD t 1) 0 = r:=⟨_,rfl⟩
   have hse:=jt' (C:=Im X w7) (w:=(dr w7)) (Im.sub X w7) (fun _ _ _ h=>h.hold) (N:=(cx.length:Int)) (v:=0) (x:=kidD (headT z.1) 1) (u:=kidD t 1) (zf1.mono (by omega)) f1 (by omega) (zT1.mono up67) ((hT1.mono up36).mono up67) (by omega);rw [hr1] at hse hRES;refine ab' hse ?_;rintro e w8 ⟨he,hk8⟩;have hk8:Kp [] w7 w8:=hk8.rd;cases r1 with
   | error er =>
    obtain ⟨rfl,her⟩:=he;obtain rfl:.error er = RES:=hRES;refine ⟨.inl hk8,?_⟩;refine rP τok [7,8] 2 (mR 11 9) hk8 ?_;refine am' τok 9 1 (mR 11 10) rfl rfl rfl (by kernel_rfl) ?_;refine ab' (bm' _ ⟨_,_,_,rfl⟩ er her w8) ?_;rintro e w9 ⟨rfl,hk9⟩;exact ⟨rfl,rfl,kw7.tr (hk8.tr hk9)⟩
   | ok z =>
    obtain ⟨uz,rfl,huz⟩:=he;have huz:TmV (Im X w8) z uz:=huz.mono (Im.cn (w:=w7) hX7 hk8);obtain ⟨_,_,rfl,_,_⟩:=id huz;obtain rfl:.ok (z,q7.2) = RES:=hRES;refine ⟨.inl hk8,?_⟩;refine rP τok [7,8] 2 (mR 11 9) hk8 ?_;refine am' τok 9 1 (mR 11 10) rfl rfl rfl (by kernel_rfl) ?_;refine ab' (aC' _ ⟨_,_,_,rfl⟩ w8) ?_;rintro e w9 ⟨rfl,hk9⟩;have k79:=hk8.tr hk9;refine ⟨.inl k79,?_⟩;refine rP τok [10] 0 (mR 11 11) k79 ?_;refine dP ?_;exact ⟨⟨_,rfl,huz.mono fun _ _ _ h=>h.tr hk9,hJ7.tr k79⟩,kw7.tr k79⟩
  have g6:¬ t.n.op = 6:=g6;rw [if_neg g6] at hRES;refine ac' (fun g7=>?_) (fun g7=>?_)
  ·have g7:t.n.op = 7:=g7
   rw [if_pos g7] at hRES;unfold uB' at hRES;obtain ⟨hkl,f0,f1,f2⟩:=gs' ht g7;obtain ⟨e0,_⟩:=ht.kidD (k:=0) (by omega);obtain ⟨e1,_⟩:=ht.kidD (k:=1) (by omega);obtain ⟨e2,_⟩:=ht.kidD (k:=2) (by omega);obtain ⟨m0,n0⟩:=hm.kid (JQ e0);obtain ⟨m1,n1⟩:=hm.kid (JQ e1);obtain ⟨m2,n2⟩:=hm.kid (JQ e2);obtain ⟨bk,ok,ck,a0,c0,a1,c1,pk,h0,hT0,h1,hT1⟩:=huk.two e0 e1;obtain ⟨bk2,ok2,ck2,_,_,a2,c2,pk2,_,_,h2,hT2⟩:=huk.two e0 e2;rw [pk] at pk2;injection pk with q1 q2 q3
   injection pk2 with r1 r2 r3
   injection r1 with r1
   injection r1 with r1 r4
   subst q1 q3 r1 r4;refine ix 0 rfl (by omega) ?_;refine ld (Im.sub X w3 _ _ _ h0).cell ?_;refine ab' (fH' (k:=k) hB hr hrc hX3 hbj hcx hcl hJ3 hn f0 m0 (by omega) hc3 hT0) ?_;rintro e w4 he;rcases he.cs with ⟨er,hq,rfl,hk4⟩ | ⟨q,u,hq,rfl,hu,hJ4,hk4⟩
   ·rw [hq] at hRES
    obtain rfl:.error er = RES:=hRES;exact ⟨rfl,kw3.tq hk4⟩
   rw [hq] at hRES;simp only [bS'] at hRES;obtain ⟨al,cl,rfl,hl⟩:=hu;obtain ⟨d1,d2,d3⟩:=db' hB hr hcx f0 hq;have hqn:=(bA' hB hr hq).2.1;have kw4:Kp [bj] w w4:=kw3.tq hk4;have up4:=Im.kb hk4 hbj;have hX4:=xU hX kw4;have kd4:Kp [bj] w4 (dr w4):=(Kp.refl [bj] w4).dr _;refine cO' τok (fun z=>Kp [bj] w4 z) ?_;refine rP τok (rg 0 8) 1 (mR 9 8) kd4 ?_;refine ix 1 rfl (by omega) ?_;refine ldI hbj (up4 _ _ _ h1) ?_;refine ix 0 rfl (by omega) ?_;refine ldI hbj (up4 _ _ _ h0) ?_;refine am' τok 8 0 (mR 9 9) rfl rfl rfl (by kernel_rfl) ?_;refine ab' (dn' (w:=(dr w4)) (k:=k) hB hr hrc hX4 hbj hcx hcl hJ4 (by omega) f1 m1 (by omega) f0 (hc3.mono up4) (hT1.mono up4) (hT0.mono up4)) ?_;rintro e w5 he;rcases he.cs with ⟨er,hq5,rfl,hk5⟩ | ⟨q5,u5,hq5,rfl,hu5,hJ5,hk5⟩
   ·have hk5:Kp [bj] w4 w5:=hk5.rd
    rw [hq5] at hRES;obtain rfl:.error er = RES:=hRES;exact ⟨rfl,rfl,kw4.tq hk5⟩
   have hk5:Kp [bj] w4 w5:=hk5.rd;have kw5:Kp [bj] w w5:=kw4.tq hk5;rw [hq5] at hRES;simp only [bS'] at hRES;have hq5n:=(bP' hr hq5).2;refine ⟨.inl hk5,?_⟩;refine dP ?_;have up35:=Im.kb (hk4.tq hk5) hbj;have hX5:=xU hX kw5;have hcxs:CxOk B (cx ++ [(kidD t 0,some (kidD t 1))]):=hcx.snoc f0 fun x hx=>by injection hx with hx; rw [<- hx]; exact f1
   have hlen:(cx ++ [(kidD t 0,some (kidD t 1))]).length = cx.length + 1:=cg';have f2':Ft (QB B) ((cx ++ [(kidD t 0,some (kidD t 1))]).length:Int) (kidD t 2):=by rw [hlen]; exact f2.mono (by omega)
   have kd5:Kp [bj] w5 (dr w5):=(Kp.refl [bj] w5).dr _;refine cO' τok (fun z=>Kp [bj] w5 z) ?_;refine rP τok [0,1,2,3,4,5,6,7,8,11,12,13,15,16,17] 8 (mB 23 [9,10,14,18,19,20,21,22]) kd5 ?_;refine ix 0 rfl (by omega) ?_;refine ldI hbj (up35 _ _ _ h0) ?_;refine ix 1 rfl (by omega) ?_;refine ldI hbj (up35 _ _ _ h1) ?_;refine ix 2 rfl (by omega) ?_;refine ldI hbj (up35 _ _ _ h2) ?_;refine ix 1 rfl (by omega) ?_;refine ldI hbj (up35 _ _ _ h1) ?_;refine am' τok 9 7 (mB 23 [10,14,18,19,20,21,22]) rfl rfl rfl (by kernel_rfl) ?_;refine fill [.slice a0 (row (kidD t 0)).length c0,.slice a1 (row (kidD t 1)).length c1] rfl ?_;refine new fun b6 w6 hb6 h6 hs6 hk6=>?_;have hk6:Kp [] w5 w6:=hk6.rd;have hX6:=xU hX5 hk6;have hb6X:b6 ∉ X:=fun hm=>by
    have h1:=hX5 _ hm;have h2:b6 = w5.heap.size:=hb6;omega
   have tr6:∀ b o v,Im X w3 b o v -> Im X w6 b o v:=fun b o v h=>(up35 _ _ _ h).tr hk6;refine ⟨.inl (hk6.weak (by simp)),?_⟩;refine am' τok 10 6 (mB 23 [14,18,19,20,21,22]) rfl rfl rfl (by kernel_rfl) ?_;refine ab' (dc' (t:=kidD t 0) (o:=some (kidD t 1)) hX6 (hc3.mono tr6) (by omega) h6 hb6X (hT0.mono tr6) (TmV.sv.1 (hT1.mono tr6))) ?_;rintro e w7 ⟨⟨vc7,rfl,hc7⟩,hk7⟩;have k57:=hk6.tr hk7;have hX7:=xU hX6 hk7;refine ⟨.inl (k57.weak (by simp)),?_⟩;refine am' τok 14 5 (mR 23 18) rfl rfl rfl (by kernel_rfl) ?_;refine ab' (hrc X w7 bj (cx ++ [(kidD t 0,some (kidD t 1))]) k (kidD t 2) q5.2 _ _ hX7 hbj hcxs (by omega) (hJ5.tr k57) (by omega) f2' m2 (by omega) hc7 (hT2.mono fun _ _ _ h=>(tr6 _ _ _ h).tr hk7)) ?_;rintro e w8 he;rcases he.cs with ⟨er,hq8,rfl,hk8⟩ | ⟨q8,u8,hq8,rfl,hu8,hJ8,hk8⟩
   ·rw [hq8] at hRES
    obtain rfl:.error er = RES:=hRES;exact ⟨rfl,rfl,(kw5.tr k57).tq hk8⟩
   rw [hq8] at hRES;simp only [bS'] at hRES;have hf8:=hr.ft _ _ _ _ hcxs (by omega) f2' hq8;rw [hlen] at hf8;have k58:Kp [bj] w5 w8:=(k57.weak (by simp)).tq hk8;have kw8:Kp [bj] w w8:=kw5.tq k58;have up58:=Im.kb k58 hbj;have hX8:=xU hX kw8;refine ⟨.inl k58,?_⟩;refine am' τok 18 4 (mR 23 19) rfl rfl rfl (by kernel_rfl) ?_;obtain ⟨r1,hr1⟩:∃ r,ay' q8.1 (kidD t 1) 0 = r:=⟨_,rfl⟩
   have hse:=jt' (C:=Im X w8) (w:=w8) (Im.sub X w8) (fun _ _ _ h=>h.hold) (N:=(cx.length:Int)) (v:=0) (x:=q8.1) (u:=kidD t 1) (hf8.mono (by omega)) f1 (by omega) hu8 ((hT1.mono up35).mono up58) (by omega);rw [hr1] at hse hRES;refine ab' hse ?_;rintro e w9 ⟨he,hk9⟩;have k59:Kp [bj] w5 w9:=k58.tr hk9;cases r1 with
   | error er =>
    obtain ⟨rfl,her⟩:=he;obtain rfl:.error er = RES:=hRES;refine ⟨.inl k59,?_⟩;refine rP τok [19,20] 2 (mR 23 21) k59 ?_;refine am' τok 21 1 (mR 23 22) rfl rfl rfl (by kernel_rfl) ?_;refine ab' (bm' _ ⟨_,_,_,rfl⟩ er her w9) ?_;rintro e wa ⟨rfl,hka⟩;exact ⟨rfl,rfl,kw8.tr (hk9.tr hka)⟩
   | ok z =>
    obtain ⟨uz,rfl,huz⟩:=he;have huz:TmV (Im X w9) z uz:=huz.mono (Im.cn (w:=w8) hX8 hk9);obtain ⟨_,_,rfl,_,_⟩:=id huz;obtain rfl:.ok (z,q8.2) = RES:=hRES;refine ⟨.inl k59,?_⟩;refine rP τok [19,20] 2 (mR 23 21) k59 ?_;refine am' τok 21 1 (mR 23 22) rfl rfl rfl (by kernel_rfl) ?_;refine ab' (aC' _ ⟨_,_,_,rfl⟩ w9) ?_;rintro e wa ⟨rfl,hka⟩;have k8a:=hk9.tr hka;refine ⟨.inl (k59.tr hka),?_⟩;refine rP τok [22] 0 (mR 23 23) (k59.tr hka) ?_;refine dP ?_;exact ⟨⟨_,rfl,huz.mono fun _ _ _ h=>h.tr hka,hJ8.tr k8a⟩,kw8.tr k8a⟩
  have g7:¬ t.n.op = 7:=g7;rw [if_neg g7] at hRES;refine ac' (fun g11=>?_) (fun g11=>?_)
  ·have g11:t.n.op = 11:=g11
   rw [if_pos g11] at hRES;refine ldN [iV t.n.op,iV t.n.a,iV t.n.b] rfl (fun j u hj=>by
    rw [KW];exact h73.cl hj) ?_
   have hmt:=pG' (k:=k) hB hr hrc hX3 hbj hcx hcl hJ3 hn ht g11 hm (by omega) hc3 huk ⟨hi1,hi2,hi3⟩;rw [hRES] at hmt;refine ab' hmt ?_;rintro e w4 he;rcases he.cs with ⟨er,hq,rfl,hk4⟩ | ⟨q,u,hq,rfl,hu,hJ4,hk4⟩
   ·subst hq
    exact ⟨rfl,kw3.tq hk4⟩
   ·subst hq
    obtain ⟨_,_,rfl,_,_⟩:=id hu;exact ⟨⟨_,rfl,hu,hJ4⟩,kw3.tq hk4⟩
  have g11:¬ t.n.op = 11:=g11;rw [if_neg g11] at hRES;have g12:t.n.op = 12:=by
   have:=px' ht.ok;omega
  have hmt:=tO' (k:=k) hB hr hrc hX3 hbj hcx hcl hJ3 hn ht g12 hm (by omega) hc3 hvt3 huk;rw [hRES] at hmt;refine ab' hmt ?_;rintro e w4 he;rcases he.cs with ⟨er,hq,rfl,hk4⟩ | ⟨q,u,hq,rfl,hu,hJ4,hk4⟩
  ·subst hq
   exact ⟨rfl,kw3.tq hk4⟩
  ·subst hq
   obtain ⟨_,_,rfl,_,_⟩:=id hu;exact ⟨⟨_,rfl,hu,hJ4⟩,kw3.tq hk4⟩
end
theorem rG' (b0 b1:Nat) (w:World) :
  CallsD Tryz.prog 48 #[pt b0,pt b1] .returning w fun e u' w'=>(∃ v,e = .returned v) /\ u' = .returning /\ Kp [] w w':=by
 refine callsD_of_wpS Tryz.func48 rfl fun c₀ cs hu=>?_;apply wpS_seq;apply wpS_region;simp [wpOpsS,go_sem,recoverD,hu,Exit.thenS,Instr.typeAssert,Tryz.underlying95,Tryz.zeroValue95];refine wpS_of_wp (Go.wp_mono (aX' τok (n:=12) _ ⟨[(0,pt b0),(1,pt b1),(2,pt w.heap.size),(3,.bool false)],[]⟩ _ (fun e s w'=>e = .normal /\ s.d = [] /\ Kp [] w w') ?_ _ (ll' (by simp) rfl ?_)) ?_)
 ·exact ⟨rfl,rfl,Kp.alloc _ _⟩
 ·intro q hq
  simp only [JJ,JZ,or_false] at hq;rcases hq with rfl | rfl | rfl | rfl <;> simp
 ·rintro e a' w' ⟨s,hF,rfl,hd,hk⟩
  exact qI' hF hd rfl hu ⟨⟨_,rfl⟩,rfl,hk⟩
theorem pH' {w:World} {b0 b1 T0 T1:Nat} {v0 v1:Value} (h0:Bk w.heap b0 [v0] T0) (h1:Bk w.heap b1 [v1] T1) (n01:b0 ≠ b1) (er:Int) :
  CallsD Tryz.prog 48 #[pt b0,pt b1] (.panicking (dA' er)) w fun e u' w'=>(∃ v,e = .returned v) /\ settle u' = .returning /\ Bk w'.heap b0 [iV 0] T0 /\ Bk w'.heap b1 [iV er] T1 /\ Kp [b0,b1] w w':=by
 refine callsD_of_wpS Tryz.func48 rfl fun c₀ cs hu=>?_;apply wpS_seq;apply wpS_region;simp [wpOpsS,go_sem,recoverD,hu,Exit.thenS,Instr.typeAssert,Tryz.underlying95,Tryz.zeroValue95];refine wpS_of_wp (Go.wp_mono (aX' τok (n:=12) _ ⟨[(0,pt b0),(1,pt b1),(2,pt w.heap.size),(3,.bool true)],[]⟩ _ (fun e s w'=>e = .normal /\ s.d = [] /\ Bk w'.heap b0 [iV 0] T0 /\ Bk w'.heap b1 [iV er] T1 /\ Kp [b0,b1] w w') ?_ _ (ll' (by simp) rfl ?_)) ?_)
 ·have hk1:Kp [] w (w.alloc (Obj.cells #[Value.int IntKind.i64 er] 95)):=Kp.alloc _ _
  have hB2:Bk (w.alloc (Obj.cells #[Value.int IntKind.i64 er] 95)).heap w.heap.size [iV er] 95:=by
   show (w.heap.push _)[_]? = _;simp
  obtain ⟨w1,hw1⟩:∃ w1,w1 = w.alloc (Obj.cells #[Value.int IntKind.i64 er] 95):=⟨_,rfl⟩
  obtain ⟨bf,hbf⟩:∃ bf,bf = w.heap.size:=⟨_,rfl⟩
  rw [<- hw1] at hk1 hB2 ⊢;rw [<- hbf] at hB2 ⊢;have g0:=h0.kp hk1 (by simp);have g1:=h1.kp hk1 (by simp);have l0:=h0.lt;have l1:=h1.lt;refine as' τok (fun z=>Bk z.heap bf [iV er] 95) ?_;refine rV τok [0,1] 2 (mR 4 2) hB2 ?_;refine ldQ (fun z hz=>hz.cl rfl) ?_;refine nV τok 2 1 (mR 4 3) ?_;refine st (b:=b0) (o:=0) g0 (by simp) rfl fun w2 r0 hs2 hk2=>?_;have hk2:Kp [b0] w1 w2:=hk2.rd;have hB3:=hB2.kp hk2 (by simp; omega);refine ⟨.inl hB3,?_⟩;refine nV τok 3 0 (mR 4 4) ?_;refine st (b:=b1) (o:=0) (g1.kp hk2 (by simpa using Ne.symm n01)) (by simp) rfl fun w3 r1 hs3 hk3=>?_;refine ⟨.inr (by kernel_rfl),?_⟩;refine dV ?_;exact ⟨rfl,rfl,r0.kp hk3 (by simpa using n01),r1,((hk1.weak (by simp)).trans hk2 (fun x hx _=>by simp at hx; simp [hx])).trans hk3 (fun x hx _=>by simp at hx; simp [hx])⟩
 ·intro q hq
  simp only [JJ,JZ,or_false] at hq;rcases hq with rfl | rfl | rfl | rfl <;> simp
 ·rintro e a' w' ⟨s,hF,rfl,hd,hk⟩
  exact or' hF hd rfl ⟨⟨_,rfl⟩,rfl,hk⟩
def vN' {β:Type} (r:Except Int β) (ok:β -> Prop) (er:Int -> Prop):Prop:=match r with
 | .ok q=>ok q
 | .error e=>er e
section
variable {B:BoT} {X:List Nat} {w:World}
theorem pI' {α:Type} {fid:Nat} {caps:Array Value} {fuel:Int} {vb:Value} {Y:List Nat} (r:Except Int (α × Nat)) (D:List Nat -> World -> α -> Prop) (hX:XL X w) (hY:∀ y ∈ Y,y ∈ X) (hb:BoV (Im X w) B vb)
  (hD:∀ X' w2 w3 q Z,Kp Z w2 w3 -> (∀ z ∈ Z,z ∈ X' /\ z ∉ X) -> D X' w2 q -> D X' w3 q)
  (hf:∀ X' bj w1,Kp [] w w1 -> (∀ y ∈ X,y ∈ X') -> (∀ y ∈ X',y ∈ X \/ w.heap.size <= y) -> (∀ b ∈ X',b < w1.heap.size) -> bj ∈ X' -> w.heap.size <= bj -> JudC (Im X' w1) w1 bj B (br' fuel) -> di' Tryz.prog fid /\ Calls Tryz.prog fid (#[] ++ #[pt bj] ++ caps) w1 (fun e w2=>vN' r (fun q=>(∃ v,e = .returned v) /\ D X' w2 q.1 /\ JudC (Im X' w2) w2 bj B q.2 /\ Kp (bj :: Y) w1 w2) (fun er=>e = .panicked (dA' er) /\ Kp [bj] w1 w2))) :
  CC 25 #[vb,iV fuel,.func (.func fid) #[] caps] w (fun e w'=>vN' r (fun q=>e = .returned (.tuple #[iV (q.2:Int),iV 0]) /\ (∃ X',(∀ y ∈ X,y ∈ X') /\ D X' w' q.1) /\ Kp Y w w') (fun er=>e = .returned (.tuple #[iV 0,iV er]) /\ Kp [] w w')):=by
 refine oF Tryz.func25 ?_;obtain ⟨v1,v2,v3,rfl,hb1,hb2,hb3⟩:=hb;refine ef' (args:=[_,_,_]) 23 [.cell 6 3,.cell 7 36] τok Tryz.func25 rfl rfl rfl (Nat.le_of_ble_eq_true rfl) ?_;refine new fun b3 w1 hb3' h3 hs1 hk1=>?_;have h3:Bk w1.heap b3 [iV B.vars,v1,v2,iV B.nat,v3] 26:=h3;refine new fun b6 w2 hb6 h6 hs2 hk2=>?_;refine new fun b7 w3 hb7 h7 hs3 hk3=>?_;have k13:=hk2.tr hk3;refine ldN [iV B.vars,v1,v2,iV B.nat,v3] rfl (fun j v hj=>by rw [KW]; exact (h3.kp k13 (by simp)).cl hj) ?_;refine ob' ?_;refine nj' ?_;obtain ⟨n,hn,hn1⟩:∃ n:Nat,min (max fuel 0) 100000 = (n:Int) /\ br' fuel = n:=⟨_,by unfold br'; omega,rfl⟩
 rw [hn];rw [hn1] at hf;refine new fun bj w4 hbj hJ hs4 hk4=>?_;have hJ:Bk w4.heap bj [iV B.vars,v1,v2,iV B.nat,v3,iV (n:Int)] 98:=hJ;have k04:=(hk1.tr k13).tr hk4;have h6:=h6.kp (hk3.tr hk4) (by simp);have h7:=h7.kp hk4 (by simp);have hnew:w.heap.size <= b6 /\ b6 < b7 /\ b7 < bj:=by
  have:=hk1.size;have:=hk2.size;have:=hk3.size;omega
 have hX4:∀ b ∈ bj :: b6 :: b7 :: X,b < w4.heap.size:=fun b hb=>by
  simp only [JJ] at hb;have l1:=h6.lt;have l2:=h7.lt;have l4:=hJ.lt;rcases hb with rfl | rfl | rfl | hb
  ·assumption
  ·assumption
  ·assumption
  ·have:=hX b hb; have:=k04.size; omega
 have up:∀ b o v,Im X w b o v -> Im (bj :: b6 :: b7 :: X) w4 b o v:=fun b o v h=>Im.more (X:=X) (fun y hy=>by
  simp only [JJ] at hy;rcases hy with rfl | rfl | rfl | hy
  ·exact .inr (by omega)
  ·exact .inr (by omega)
  ·exact .inr (by omega)
  ·exact .inl hy) h |>.tr k04
 have hcall:=hf (bj :: b6 :: b7 :: X) bj w4 k04 (fun y hy=>by simp [hy]) (fun y hy=>by
  simp only [JJ] at hy;rcases hy with rfl | rfl | rfl | hy
  ·exact .inr (by omega)
  ·exact .inr (by omega)
  ·exact .inr (by omega)
  ·exact .inl hy) hX4 (by simp) (by omega) ⟨v1,v2,v3,hJ,hb1.mono up,hb2.mono up,hb3.mono up⟩
 refine ab' hcall ?_;intro e w5 he;have nX:∀ y,w.heap.size <= y -> y ∉ X:=fun y hy hm=>by have:=hX y hm; omega
 have nY:∀ y,w.heap.size <= y -> y ∉ Y:=fun y hy hm=>nX y hy (hY y hm);cases r with
 | error er =>
  obtain ⟨rfl,hk5⟩:=he;have h6:=h6.kp hk5 (by simp; omega);have h7:=h7.kp hk5 (by simp; omega);refine ⟨_,_,_,48,#[pt b6,pt b7],rfl,by simp,by simp [go_sem],(pH' h6 h7 (by omega) er).mono ?_⟩;rintro e u' w6 ⟨he,hset,r6,r7,hk6⟩;refine ⟨he,hset,?_⟩;refine ia' Tryz.underlying3 (r6.cl rfl) ?_;refine ia' Tryz.underlying36 (r7.cl rfl) ?_;exact ⟨rfl,(k04.trans hk5 (fun x hx hl=>by
   obtain rfl:x = bj:=by simpa using hx
   omega)).trans hk6 (fun x hx hl=>by
    simp only [JJ,JZ,or_false] at hx;omega)⟩
 | ok q =>
  obtain ⟨⟨v,rfl⟩,hDq,⟨u1,u2,u3,hJ5,_⟩,hk5⟩:=he;have h6:=h6.kp hk5 (by
   have:=nY b6 (by omega);simp only [JJ,not_or];exact ⟨by omega,this⟩)
  have h7:=h7.kp hk5 (by
   have:=nY b7 (by omega);simp only [JJ,not_or];exact ⟨by omega,this⟩)
  refine lb hJ5 ?_;refine st (b:=b6) (o:=0) h6 (by simp) rfl fun w6 h6' hs6 hk6=>?_;refine st (b:=b7) (o:=0) (h7.kp hk6 (by simp; omega)) (by simp) rfl fun w7 h7' hs7 hk7=>?_;have h6'':=h6'.kp hk7 (by simp; omega);refine ⟨_,_,_,48,#[pt b6,pt b7],rfl,by simp,by simp [go_sem],(rG' b6 b7 w7).mono ?_⟩;rintro e u' w8 ⟨he,rfl,hk8⟩;refine ⟨he,rfl,?_⟩;have r6:=h6''.kp hk8 (by simp);have r7:=h7'.kp hk8 (by simp);refine ia' Tryz.underlying3 (r6.cl rfl) ?_;refine ia' Tryz.underlying36 (r7.cl rfl) ?_;have k58:Kp [b6,b7] w5 w8:=((hk6.weak (Y:=[b6,b7]) (by simp)).trans hk7 (fun x hx _=>by simp at hx; simp [hx])).tr hk8;refine ⟨rfl,⟨_,fun y hy=>?_,hD _ _ _ _ _ k58 (fun z hz=>?_) hDq⟩,((k04.weak (Y:=Y) (by simp)).trans hk5 (fun x hx hl=>?_)).trans k58 (fun x hx hl=>?_)⟩
  ·simp [hy]
  ·simp only [JJ,JZ,or_false] at hz
   rcases hz with rfl | rfl
   ·exact ⟨by simp,nX _ (by omega)⟩
   ·exact ⟨by simp,nX _ (by omega)⟩
  ·simp only [JJ] at hx
   rcases hx with rfl | hx
   ·omega
   ·exact hx
  ·simp only [JJ,JZ,or_false] at hx
   omega
end
@[irreducible] def GJ:Nat:=330000
theorem tP':64 * 5000 + 4096 <= GJ:=by unfold GJ; decide
def fI' (B:BoT) (cx:Ctx) (t:Tr) (fuel:Int):Except Int (Tr × Nat):=bO' B GJ cx t (br' fuel)
def rH' (B:BoT) (cx:Ctx) (t ty:Tr) (fuel:Int):Except Int (Unit × Nat):=cY' B (bO' B GJ) cx t ty (br' fuel)
def tQ' (B:BoT) (cx:Ctx) (t:Tr) (fuel:Int):Except Int ((Int × List Atom) × Nat):=dY' B (bO' B GJ) cx t (br' fuel)
theorem vu' {B:BoT} (hB:GoodB B) {N:Int} {t:Tr} (h:Ft (QB B) N t):Mt 64 t:=fun m hm h11=>by
 have:=h.al m hm;have hf:=jk' this (.inr h11);have:=fg' hB hf;omega
theorem rI' (f:Int):br' f <= 100000:=by unfold br'; omega
section
variable {B:BoT} {cx:Ctx} {X:List Nat} {w:World}
theorem rJ' (hB:GoodB B) (hcx:CxOk B cx) (hcl:cx.length <= 260) {bj n:Nat} (hX:XL X w) (hbj:bj ∈ X) (hJ:JudC (Im X w) w bj B n) (hn:n <= 100000) {t:Tr} (ht:Ft (QB B) (cx.length:Int) t) {vc v v0:Value} {b1 b2 b3:Nat} {T1 T2:Nat} (hb3:b3 ∈ X) (hne:b3 ≠ bj)
  (h1:Bk w.heap b1 [vc] T1) (h2:Bk w.heap b2 [v] T2) (h3:Bk w.heap b3 [v0] 29) (hc:SV rBd (Im X w) (cx.map bdR) vc) (hv:TmV (Im X w) t v) :
  CC 26 #[pt bj,pt b1,pt b2,pt b3] w (fun e w'=>vN' (bO' B GJ cx t n) (fun q=>(∃ v,e = .returned v) /\ (∃ u,Bk w'.heap b3 [u] 29 /\ TmV (Im X w') q.1 u) /\ JudC (Im X w') w' bj B q.2 /\ Kp [bj,b3] w w') (fun er=>e = .panicked (dA' er) /\ Kp [bj] w w')):=by
 refine oF Tryz.func26 ?_;obtain ⟨_,_,rfl,_,_⟩:=id hv;obtain ⟨_,_,rfl,_,_⟩:=id hc;refine cO (args:=[_,_,_,_]) 10 [] τok Tryz.func26 ?_;refine lb h1 ?_;refine lb h2 ?_;have hGJ:=tP';have hlen:=ht.len;have hrk:=fm' hB GJ;refine ab' (rF' hB GJ X w bj cx 64 t n _ _ hX hbj hcx hcl hJ hn ht (vu' hB ht) (by omega) hc hv) ?_;rintro e w1 he;rcases he.cs with ⟨er,hq,rfl,hk1⟩ | ⟨q,u,hq,rfl,hu,hJ1,hk1⟩
 ·rw [hq]
  exact ⟨rfl,hk1⟩
 ·rw [hq]
  have hqF:=hrk.ft _ _ _ _ hcx hcl ht hq;obtain ⟨au,cu,rfl,hu1,hu2⟩:=hu;refine ab' (iw' (Im.sub X w1) (row q.1) au cu hu1 (by have:=hqF.len; omega)) ?_;rintro e w2 ⟨⟨u2,rfl,hO⟩,hk2⟩;have hT:=Own.isTm hO (by have:=hqF.len; omega);have hX1:=xU hX hk1;have hu2':=(TmV.sv.1 (hT.tv hX1)).one;refine st (b:=b3) (o:=0) ((h3.kp hk1 (by simpa using hne)).kp hk2 (by simp)) (by simp) hu2' fun w3 h3' hs3 hk3=>?_;have up3:=Im.kb hk3 hb3;have hJ2:=hJ1.tr hk2;exact ⟨⟨_,rfl⟩,⟨u2,h3',(hT.tv hX1).mono up3⟩,(hJ2.mono up3).kp hk3 (by simpa using Ne.symm hne),((hk1.weak (Y:=[bj,b3]) (by simp)).tr hk2).trans hk3 fun x hx _=>by simp at hx; simp [hx]⟩
theorem TmV.look {X X':List Nat} {w:World} (h:∀ y ∈ X,y ∈ X') {x:Tr} {v:Value} (hv:TmV (Im X' w) x v):TmV (Im X w) x v:=hv.mono fun b o t ht=>ht.less h
def vv' (X:List Nat) (w:World) (r:Except Int (Tr × Nat)) (e:Ending) (w':World):Prop :=
 vN' r (fun q=>∃ u,e = .returned (.tuple #[u,iV (q.2:Int),iV 0]) /\ TmV (Im X w') q.1 u) (fun er=>e = .returned (.tuple #[.slice none 0 0,iV 0,iV er])) /\ Kp [] w w'
theorem tR' (hB:GoodB B) (hcx:CxOk B cx) (hcl:cx.length <= 260) (hX:XL X w) {t:Tr} (ht:Ft (QB B) (cx.length:Int) t) {fuel:Int} {vb vc v:Value} (hb:BoV (Im X w) B vb) (hc:SV rBd (Im X w) (cx.map bdR) vc) (hv:TmV (Im X w) t v) :
  CC 16 #[vb,vc,v,iV fuel] w (vv' X w (fI' B cx t fuel)):=by
 refine oF Tryz.func16 ?_;have hbb:=hb;obtain ⟨v1,v2,v3,rfl,_,_,_⟩:=hbb;obtain ⟨av,cv,rfl,_,_⟩:=id hv;obtain ⟨ac,cc,rfl,_,_⟩:=id hc;refine cO (args:=[_,_,_,_]) 24 [.tmp 8,.tmp 9,.tmp 10] τok Tryz.func16 ?_;refine new fun b4 w1 hb4 h4 hs1 hk1=>?_;have h4:Bk w1.heap b4 [iV B.vars,v1,v2,iV B.nat,v3] 26:=h4;refine new fun b5 w2 hb5 h5 hs2 hk2=>?_;have h5:Bk w2.heap b5 [.slice ac (cx.map bdR).length cc] 27:=h5;refine new fun b6 w3 hb6 h6 hs3 hk3=>?_;have h6:Bk w3.heap b6 [.slice av (row t).length cv] 29:=h6;refine new fun b11 w4 hb11 h11 hs4 hk4=>?_;have h11:Bk w4.heap b11 [.slice none 0 0] 29:=h11;have k24:=hk3.tr hk4;have k14:=hk2.tr k24;have k04:=hk1.tr k14;have h4:=h4.kp k14 (by simp);have h5:=h5.kp k24 (by simp);have h6:=h6.kp hk4 (by simp);refine ldN [iV B.vars,v1,v2,iV B.nat,v3] rfl (bZ h4) ?_;have hnew:w.heap.size <= b5 /\ b5 < b6 /\ b6 < b11:=by
  have:=hk1.size;have:=hk2.size;have:=hk3.size;omega
 have hX4:∀ b ∈ b11 :: X,b < w4.heap.size:=fun b hb=>by
  rcases List.mem_cons.1 hb with rfl | hb
  ·exact h11.lt
  ·exact KZ (hX b hb) k04.size
 have up:∀ b o v,Im X w b o v -> Im (b11 :: X) w4 b o v:=fun b o v h=>(Im.more (X:=X) (Y:=b11 :: X) (fun y hy=>by
  rcases List.mem_cons.1 hy with rfl | hy
  ·exact .inr (by omega)
  ·exact .inl hy) h).tr k04
 have hcl':=rI' fuel;have hlk:=pI' (B:=B) (X:=b11 :: X) (w:=w4) (fid:=26) (caps:=#[pt b5,pt b6,pt b11]) (fuel:=fuel) (Y:=[b11]) (fI' B cx t fuel) (fun X' w' q=>∃ u,Bk w'.heap b11 [u] 29 /\ TmV (Im X' w') q u) hX4 (by simp) (hb.mono up)
  (fun X' w2 w3 q Z k hZ h=>by
   obtain ⟨u,h1,h2⟩:=h;exact ⟨u,h1.kp k fun hm=>(hZ _ hm).2 (by simp),h2.mono fun b o v h=>h.kp k fun y hy _=>(hZ y hy).1⟩)
  (fun X' bj w5 k45 hXX hXn hX5 hbj hbjn hJ=>by
   have upc:∀ b o v,Im (b11 :: X) w4 b o v -> Im X' w5 b o v:=fun b o v h=>(Im.more (Y:=X') (fun y hy=>hXn y hy) h).tr k45;obtain ⟨q1,q2⟩:=rJ' hB hcx hcl hX5 hbj hJ hcl' ht (hXX b11 (by simp)) (by have:=h11.lt; omega) (h5.kp k45 (by simp)) (h6.kp k45 (by simp)) (h11.kp k45 (by simp)) (hc.mono fun _ _ _ h=>upc _ _ _ (up _ _ _ h)) (hv.mono fun _ _ _ h=>upc _ _ _ (up _ _ _ h));exact ⟨q1,q2⟩)
 refine ab' hlk ?_;intro e w5 he;have hk05:∀ {Y:List Nat},Kp Y w4 w5 -> (∀ y ∈ Y,y = b11) -> Kp [] w w5:=fun k hY=>k04.trans k fun x hx hl=>by
  have:=hY x hx;omega
 cases hr:fI' B cx t fuel with
 | error er =>
  rw [hr] at he;obtain ⟨rfl,hk5⟩:=he;refine lb (h11.kp hk5 (by simp)) ?_;exact ⟨rfl,k04.tr hk5⟩
 | ok q =>
  rw [hr] at he;obtain ⟨rfl,⟨X',hX',u,hu1,hu2⟩,hk5⟩:=he;have o1:=(TmV.sv.1 hu2).one;refine lb hu1 ?_;exact ⟨⟨u,rfl,TmV.look (fun y hy=>hX' y (by simp [hy])) hu2⟩,hk05 hk5 (by simp)⟩
end
mutual
theorem dp':∀ (x:Tr) (s:Md),okT cnt nx x s -> ∀ m ∈ row x,ah' m = true
 | .mk n ks,s,h,m,hm=>by
  obtain ⟨h1,h2⟩:=h;simp only [row,JJ] at hm;rcases hm with rfl | hm
  ·cases s with
   | tm=>exact (bG' h1).1
   | fn =>
    simp only [cnt] at h1;split at h1
    ·rename_i q; exact q.2
    ·cases h1
   | am =>
    simp only [cnt] at h1;split at h1
    ·rename_i q; exact q.2
    ·cases h1
  ·exact kI' ks n s 0 h2 m hm
theorem kI':∀ (l:List Tr) (n:Nd) (s:Md) (k:Nat),okL cnt nx l n s k -> ∀ m ∈ rows l,ah' m = true
 | [],n,s,k,_,m,hm=>by simp [rows] at hm
 | y :: r,n,s,k,h,m,hm=>by
  obtain ⟨h1,h2⟩:=h;simp only [rows,JW] at hm;rcases hm with hm | hm
  ·exact dp' y _ h1 m hm
  ·exact kI' r n s (k + 1) h2 m hm
end
def kJ' (B:BoT) (known:Nat) (self:Int) (l:List Nd) (below:Int):Int :=
 if bC' l ≠ 0 then bC' l else if im' (tr l) below = false then 8 else if l.any (fun m=>!bR' B known self m) = true then 8 else 0
def ct' (B:BoT) (known:Nat) (self step:Int):List (List Nd) -> Int -> Int
 | [],_=>0
 | l :: r,below=>if kJ' B known self l below ≠ 0 then kJ' B known self l below else ct' B known self step r (below + step)
def eD' (l:List Nd):Int:=if (l.getD 0 ⟨0,0,0⟩).op ≠ 2 then 8 else 0
def dJ' (B:BoT) (i:Nat) (x:EnT):List CtT -> Int
 | []=>0
 | c :: r=>if 16 < c.args.length then 5 else if c.out.length ≠ x.indices.length then 8
  else if ct' B i i 1 c.args (x.params.length:Int) ≠ 0 then ct' B i i 1 c.args (x.params.length:Int)
  else if ct' B i i 0 c.out ((x.params.length:Int) + (c.args.length:Int)) ≠ 0 then ct' B i i 0 c.out ((x.params.length:Int) + (c.args.length:Int))
  else dJ' B i x r
def bh' (a b:Int):Int:=if a ≠ 0 then a else b
def dd' (B:BoT) (i:Nat) (x:EnT):Int :=
 if x.kind = 1 then (if 0 < x.type.length + x.body.length then 8 else if 16 < x.params.length \/ 16 < x.indices.length \/ 16 < x.ctors.length then 5
  else bh' (kJ' B i (-1) x.sort 0) (bh' (eD' x.sort) (bh' (ct' B i (-1) 1 x.params 0) (bh' (ct' B i (-1) 1 x.indices (x.params.length:Int)) (dJ' B i x x.ctors)))))
 else if x.kind = 2 then (if 0 < x.sort.length + x.params.length + x.indices.length + x.ctors.length then 8 else ct' B i (-1) 0 [x.type,x.body] 0)
 else 8
def ch' (B:BoT):List EnT -> Nat -> Int
 | [],_=>0
 | x :: r,i=>bh' (dd' B i x) (ch' B r (i + 1))
def vw' (B:BoT) (a:Int):Bool :=
 if a < 0 \/ (B.ents.length:Int) <= a \/ (cr' B a).kind ≠ 1 then false
 else if (cr' B a).sort.length ≠ 2 \/ ((cr' B a).sort.getD 0 ⟨0,0,0⟩).a ≠ 1 \/ (cr' B a).sort.getD 1 ⟨0,0,0⟩ ≠ ⟨3,0,0⟩ \/ 0 < (cr' B a).params.length + (cr' B a).indices.length \/ (cr' B a).ctors.length ≠ 2 then false
 else decide (((cr' B a).ctors.getD 0 default).args.length = 0) && (decide (((cr' B a).ctors.getD 1 default).args.length = 1) && (decide ((((cr' B a).ctors.getD 1 default).args.getD 0 []).length = 1) && decide ((((cr' B a).ctors.getD 1 default).args.getD 0 []).getD 0 ⟨0,0,0⟩ = ⟨9,a,0⟩)))
def nD' (B:BoT):List (Int × Int) -> G -> Bool
 | [],_=>true
 | p :: r,g=>if p.1 < 0 \/ (B.ents.length:Int) <= p.1 \/ (cr' B p.1).kind ≠ 2 \/ p.2 < 1 \/ 3 < p.2 \/ 0 < (g p.1 (-1)).getD 0 + (g (-1) p.2).getD 0 then false else nD' B r (putG (putG g p.1 (-1) 1) (-1) p.2 1)
def rK' (B:BoT):Bool:=if (B.nat ≠ -1 /\ vw' B B.nat = false) \/ (B.nat = -1 /\ 0 < B.prims.length) then false else nD' B B.prims fun _ _=>none
def be' (B:BoT):Int:=if gR' B.vars B.orders ≠ 0 then gR' B.vars B.orders else if 64 < B.ents.length then 5 else bh' (ch' B B.ents 0) (if rK' B = true then 0 else 22)
def bE' (B:BoT) (below:Int) (t:List Nd):Int:=if be' B ≠ 0 then be' B else if below < 0 then 1 else kJ' B B.ents.length (-1) t below
def dK' (B:BoT):List (List Nd × List Nd) -> Nat -> Int
 | [],_=>0
 | q :: r,i=>if bE' B i q.1 ≠ 0 then bE' B i q.1 else if q.2.length = 0 then dK' B r (i + 1) else if bE' B i q.2 ≠ 0 then bE' B i q.2 else dK' B r (i + 1)
def cm' (B:BoT) (c:List (List Nd × List Nd)) (t:List Nd):Int :=
 if be' B ≠ 0 then be' B else if 256 < c.length then 5 else if dK' B c 0 ≠ 0 then dK' B c 0 else bE' B c.length t
theorem cb' {a b:Int}:bh' a b = 0 ↔ a = 0 /\ b = 0:=by
 unfold bh';split
 ·rename_i h
  exact ⟨fun e=>absurd e h,fun e=>absurd e.1 h⟩
 ·rename_i h
  exact ⟨fun e=>⟨by omega,e⟩,fun e=>e.2⟩
theorem iH' {l:List Nd} (h:bC' l = 0):l.length <= 4096 /\ l = row (tr l) /\ Ok .tm (tr l):=by
 unfold bC' at h;split at h
 ·cases h
 ·split at h
  ·rename_i g1 g2
   obtain ⟨x,hx⟩:=Option.isSome_iff_exists.1 g2;obtain ⟨h1,h2⟩:=oj' hx;have:tr l = x:=by unfold tr; rw [hx]; rfl
   rw [this];exact ⟨by omega,h1,h2⟩
  ·cases h
section
variable {B:BoT}
theorem mS' {x:Tr} {N:Int} (h0:0 <= N):im' x N = true ↔ Bl x N:=by
 unfold im';rw [List.all_eq_true];constructor
 ·intro h q hq
  have:=h q hq;simp only [decide_eq_true_eq] at this;omega
 ·intro h q hq
  have:=h q hq;simp only [decide_eq_true_eq];omega
theorem jz' {known:Nat} {self:Int} {l:List Nd} {N:Int} (h0:0 <= N) (h:kJ' B known self l N = 0):l = row (tr l) /\ Ft (aZ' B known self) N (tr l):=by
 unfold kJ' at h;split at h
 ·rename_i g; exact absurd h g
 rename_i g1;obtain ⟨h1,h2,h3⟩:=iH' (l:=l) (by omega);split at h
 ·cases h
 rename_i g2;split at h
 ·cases h
 rename_i g3;refine ⟨h2,h3,by rw [<- h2]; exact h1,(mS' h0).1 (by simpa using g2),fun m hm=>?_⟩;rw [<- h2] at hm;have:¬ (l.any fun m=>!bR' B known self m) = true:=g3;rw [List.any_eq_true] at this;unfold aZ';cases hn:bR' B known self m with
 | true=>rfl
 | false=>exact absurd ⟨m,hm,by simp [hn]⟩ this
theorem tS' {known:Nat} {self:Int} {x:Tr} {N:Int} (h0:0 <= N) (h:Ft (aZ' B known self) N x):kJ' B known self (row x) N = 0:=by
 unfold kJ';have hs:=bH' h.ok h.len;rw [if_neg (by omega),cJ' h.ok,if_neg (by rw [(mS' h0).2 h.bl]; simp),if_neg ?_];rw [List.any_eq_true];rintro ⟨m,hm,hn⟩;have:=h.al m hm;unfold aZ' at this;rw [this] at hn;cases hn
theorem em' {known:Nat} {self step:Int} (hs:0 <= step):∀ (ls:List (List Nd)) (N:Int),0 <= N -> ct' B known self step ls N = 0 -> ls = (ls.map tr).map row /\ ∀ (k:Nat) y,(ls.map tr)[k]? = some y -> Ft (aZ' B known self) (N + k * step) y
 | [],N,h0,h=>⟨rfl,fun k y hy=>by simp at hy⟩
 | l :: r,N,h0,h=>by
  simp only [ct'] at h;split at h
  ·rename_i g; exact absurd h g
  rename_i g;obtain ⟨h1,h2⟩:=jz' (l:=l) h0 (Decidable.not_not.1 g);obtain ⟨h3,h4⟩:=em' hs r (N + step) (by omega) h;refine ⟨?_,fun k y hy=>?_⟩
  ·rw [List.map_cons,List.map_cons,<- h1,<- h3]
  ·cases k with
   | zero =>
    simp only [List.map_cons,List.getElem?_cons_zero,Option.some.injEq] at hy;subst hy;exact h2.mono (by simp)
   | succ k =>
    simp only [List.map_cons,List.getElem?_cons_succ] at hy;exact (h4 k y hy).mono (by
     have:((k + 1:Nat):Int) * step = (k:Int) * step + step:=by
      rw [Int.natCast_add,Int.add_mul]; simp
     omega)
theorem kK' {i:Nat} {x:EnT}:∀ (cs:List CtT),dJ' B i x cs = 0 -> ∀ (k:Nat) c,cs[k]? = some c -> ∃ ga go,GoodC B i x.params.length x.indices.length c ga go
 | [],h,k,c,hc=>by simp at hc
 | c0 :: r,h,k,c,hc=>by
  simp only [dJ'] at h;split at h
  ·cases h
  split at h
  ·cases h
  split at h
  ·rename_i g; exact absurd h g
  split at h
  ·rename_i g; exact absurd h g
  rename_i g1 g2 g3 g4;cases k with
  | succ k=>exact kK' r h k c (by simpa using hc)
  | zero =>
   simp only [List.getElem?_cons_zero,Option.some.injEq] at hc;subst hc;obtain ⟨a1,a2⟩:=em' (step:=1) (by omega) c0.args (x.params.length:Int) (by omega) (Decidable.not_not.1 g3);obtain ⟨b1,b2⟩:=em' (step:=0) (by omega) c0.out ((x.params.length:Int) + (c0.args.length:Int)) (by omega) (Decidable.not_not.1 g4);refine ⟨c0.args.map tr,c0.out.map tr,a1,b1,by simp; omega,by simp; omega,fun k y hy=>(a2 k y hy).mono (by omega),fun y hy=>?_⟩;obtain ⟨k,hk⟩:=JH hy;exact (b2 k y hk).mono (by simp)
theorem pJ' {i:Nat} {x:EnT} (h:dd' B i x = 0):(∃ s ps qi,GoodF B i x s ps qi) \/ ∃ ty bo,tt' B i x ty bo:=by
 unfold dd' at h;split at h
 ·rename_i gk
  split at h
  ·cases h
  split at h
  ·cases h
  rename_i g1 g2;obtain ⟨h1,h⟩:=cb'.1 h;obtain ⟨h2,h⟩:=cb'.1 h;obtain ⟨h3,h⟩:=cb'.1 h;obtain ⟨h4,h5⟩:=cb'.1 h;obtain ⟨s1,s2⟩:=jz' (by omega) h1;obtain ⟨p1,p2⟩:=em' (step:=1) (by omega) x.params 0 (by omega) h3;obtain ⟨q1,q2⟩:=em' (step:=1) (by omega) x.indices (x.params.length:Int) (by omega) h4;refine .inl ⟨tr x.sort,x.params.map tr,x.indices.map tr,gk,s1,s2,?_,p1,q1,by simp; omega,by simp; omega,by omega,fun k y hy=>(p2 k y hy).mono (by omega),fun k y hy=>(q2 k y hy).mono (by simp),fun k c hc=>?_⟩
  ·unfold eD' at h2
   split at h2
   ·cases h2
   ·rename_i g3
    have:(x.sort.getD 0 ⟨0,0,0⟩).op = (tr x.sort).n.op:=by
     rw [s1,cJ' s2.ok];obtain ⟨n,ks⟩:=tr x.sort;simp [row,Tr.n]
    omega
  ·obtain ⟨ga,go,hg⟩:=kK' x.ctors h5 k c hc
   exact ⟨ga,go,by simpa using hg⟩
 split at h
 ·rename_i gk0 gk
  split at h
  ·cases h
  obtain ⟨h1,h2⟩:=em' (step:=0) (by omega) [x.type,x.body] 0 (by omega) h;simp only [List.map_cons,List.map_nil,List.cons.injEq] at h1;exact .inr ⟨tr x.type,tr x.body,gk,h1.1,h1.2.1,(h2 0 _ rfl).mono (by simp),(h2 1 _ rfl).mono (by simp)⟩
 ·cases h
theorem hL':∀ (l:List EnT) (i:Nat),ch' B l i = 0 -> ∀ (k:Nat) x,l[k]? = some x -> dd' B (i + k) x = 0
 | [],i,h,k,x,hx=>by simp at hx
 | y :: r,i,h,k,x,hx=>by
  obtain ⟨h1,h2⟩:=cb'.1 h;cases k with
  | zero =>
   simp only [List.getElem?_cons_zero,Option.some.injEq] at hx;subst hx;exact h1
  | succ k =>
   have:=hL' r (i + 1) h2 k x (by simpa using hx)
   rwa [show i + (k + 1) = i + 1 + k by omega]
theorem nE' (h:be' B = 0):GoodB B:=by
 unfold be' at h;split at h
 ·rename_i g; exact absurd h g
 split at h
 ·cases h
 rename_i g1 g2;obtain ⟨h1,h2⟩:=cb'.1 h;refine ⟨by omega,by omega,fun i x hx=>?_⟩;have:=hL' B.ents 0 h1 i x hx;rw [KW] at this;exact pJ' this
theorem jA' {t:List Nd} {N:Int} (h0:0 <= N) (h:bE' B N t = 0):t = row (tr t) /\ Ft (QB B) N (tr t):=by
 unfold bE' at h;split at h
 ·rename_i g; exact absurd h g
 rw [if_neg (by omega)] at h;exact jz' h0 h
theorem jB' (hr:be' B = 0) {x:Tr} {N:Int} (h0:0 <= N) (h:Ft (QB B) N x):bE' B N (row x) = 0:=by
 unfold bE';rw [if_neg (by omega),if_neg (by omega)];exact tS' h0 h
def cxR (c:List (List Nd × List Nd)):Ctx:=c.map fun q=>(tr q.1,if q.2.length = 0 then none else some (tr q.2))
theorem mT':∀ (c:List (List Nd × List Nd)) (i:Nat),dK' B c i = 0 -> c = (cxR c).map bdR /\ ∀ (k:Nat) q,(cxR c)[k]? = some q -> Ft (QB B) ((i + k:Nat):Int) q.1 /\ ∀ x,q.2 = some x -> Ft (QB B) ((i + k:Nat):Int) x
 | [],i,h=>⟨rfl,fun k q hq=>by simp [cxR] at hq⟩
 | q :: r,i,h=>by
  simp only [dK'] at h;split at h
  ·rename_i g; exact absurd h g
  rename_i g1;obtain ⟨h1,h2⟩:=jA' (t:=q.1) (N:=(i:Int)) (by omega) (Decidable.not_not.1 g1);have tailP:dK' B r (i + 1) = 0 -> ∀ o:Option Tr,bdR (tr q.1,o) = q -> (if q.2.length = 0 then none else some (tr q.2)) = o -> (∀ x,o = some x -> Ft (QB B) (i:Int) x) -> q :: r = (cxR (q :: r)).map bdR /\ ∀ (k:Nat) q',(cxR (q :: r))[k]? = some q' -> Ft (QB B) ((i + k:Nat):Int) q'.1 /\ ∀ x,q'.2 = some x -> Ft (QB B) ((i + k:Nat):Int) x:=fun hr o ho ho2 hof=>by
   obtain ⟨t1,t2⟩:=mT' r (i + 1) hr;have e:cxR (q :: r) = (tr q.1,o) :: cxR r:=by simp only [cxR,List.map_cons,ho2]
   rw [e];refine ⟨?_,fun k q' hq'=>?_⟩
   ·rw [List.map_cons,<- t1,ho]
   ·cases k with
    | zero =>
     simp only [List.getElem?_cons_zero,Option.some.injEq] at hq';subst hq';exact ⟨h2,hof⟩
    | succ k =>
     simp only [List.getElem?_cons_succ] at hq';have:=t2 k q' hq'
     rwa [show i + 1 + k = i + (k + 1) by omega] at this
  split at h
  ·rename_i g2
   refine tailP h none ?_ (by rw [if_pos g2]) (fun x hx=>by cases hx);have:q.2 = []:=List.length_eq_zero_iff.1 g2;obtain ⟨qa,qb⟩:=q;simp only at this h1;simp [bdR,nM',this,<- h1]
  ·rename_i g2
   split at h
   ·rename_i g; exact absurd h g
   rename_i g3;obtain ⟨h3,h4⟩:=jA' (t:=q.2) (N:=(i:Int)) (by omega) (Decidable.not_not.1 g3);refine tailP h (some (tr q.2)) ?_ (by rw [if_neg g2]) (fun x hx=>by injection hx with hx; rw [<- hx]; exact h4);obtain ⟨qa,qb⟩:=q;simp only at h1 h3;simp [bdR,nM',<- h1,<- h3]
theorem gt' {c:List (List Nd × List Nd)} {t:List Nd} (h:cm' B c t = 0):GoodB B /\ be' B = 0 /\ c.length <= 256 /\ c = (cxR c).map bdR /\ CxOk B (cxR c) /\ t = row (tr t) /\ Ft (QB B) (c.length:Int) (tr t):=by
 unfold cm' at h;split at h
 ·rename_i g; exact absurd h g
 split at h
 ·cases h
 split at h
 ·rename_i g; exact absurd h g
 rename_i g1 g2 g3;obtain ⟨h1,h2⟩:=mT' c 0 (Decidable.not_not.1 g3);obtain ⟨h3,h4⟩:=jA' (t:=t) (N:=(c.length:Int)) (by omega) h;refine ⟨nE' (by omega),by omega,by omega,h1,fun i q hq=>?_,h3,h4⟩;have:=h2 i q hq
 rwa [KW] at this
theorem mU' (hr:be' B = 0):∀ (c:Ctx) (i:Nat),(∀ (k:Nat) q,c[k]? = some q -> Ft (QB B) ((i + k:Nat):Int) q.1 /\ ∀ x,q.2 = some x -> Ft (QB B) ((i + k:Nat):Int) x) -> dK' B (c.map bdR) i = 0
 | [],i,h=>rfl
 | q :: r,i,h=>by
  have h0:=h 0 q rfl;rw [Nat.add_zero] at h0;have ht:=mU' hr r (i + 1) fun k q' hq'=>by
   have:=h (k + 1) q' (by simpa using hq')
   rwa [show i + (k + 1) = i + 1 + k by omega] at this
  simp only [List.map_cons,dK'];have e1:bE' B (i:Int) (bdR q).1 = 0:=jB' hr (by omega) h0.1;rw [if_neg (by omega)];split
  ·exact ht
  ·rename_i g
   obtain ⟨ty,o⟩:=q;cases o with
   | none=>simp [bdR,nM'] at g
   | some x =>
    have e2:bE' B (i:Int) (bdR (ty,some x)).2 = 0:=jB' hr (by omega) (h0.2 x rfl);rw [if_neg (by omega)];exact ht
theorem jC' (hr:be' B = 0) {c:Ctx} (hc:CxOk B c) (hl:c.length <= 256) {x:Tr} (hx:Ft (QB B) (c.length:Int) x):cm' B (c.map bdR) (row x) = 0:=by
 unfold cm';have:=mU' hr c 0 fun k q hq=>by rw [KW]; exact hc k q hq
 rw [if_neg (by omega),if_neg (by simp; omega),if_neg (by omega)];exact jB' hr (by omega) (by simpa using hx)
end
end Go.Proofs.YtpealcfjbcpoiaaGreat
