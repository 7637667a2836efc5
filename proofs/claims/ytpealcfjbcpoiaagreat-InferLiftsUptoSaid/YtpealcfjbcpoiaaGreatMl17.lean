import Derived.Test.YtpealcfjbcpoiaaGreatMl16
set_option linter.unusedVariables false
set_option linter.unusedSimpArgs false
set_option maxRecDepth 100000
set_option maxHeartbeats 4000000
namespace Go.Proofs.YtpealcfjbcpoiaaGreat
open Go.Wx Cd Tm Lv
theorem vp' {X:List Nat} {w:World} {b T:Nat} {z u:Value} {x:Tr} {o:Option Tr} (hB:Bk w.heap b [z,u] T) (hb:b ∉ X) (hz:TmV (Im X w) x z) (hu:SV rNd (Im X w) (nM' o) u):SV rBd (Im X w) (List.map bdR [(x,o)]) (.slice (some ⟨b,0,none⟩) 1 1):=by
 refine ⟨some ⟨b,0,none⟩,1,rfl,⟨by simp,.inr ⟨b,0,rfl,fun i q hq=>?_⟩⟩,by simp⟩
 match i,hq with
 | 0,hq =>
  obtain rfl:(row x,nM' o) = q:=by simpa [bdR] using hq
  refine ⟨[z,u],⟨z,u,rfl,hz,hu⟩,fun j v hj=>⟨?_,hb⟩⟩;rw [Nat.zero_mul,Nat.add_zero,KW];exact hB.cl hj
 | i + 1,hq=>simp at hq
theorem dc' {X:List Nat} {w:World} {cx:Ctx} {vc z u:Value} {t:Tr} {o:Option Tr} {b T:Nat} (hX:XL X w) (hc:SV rBd (Im X w) (cx.map bdR) vc) (hcl:cx.length <= 300) (hB:Bk w.heap b [z,u] T) (hb:b ∉ X) (hz:TmV (Im X w) t z) (hu:SV rNd (Im X w) (nM' o) u) :
  CC 58 #[vc,.slice (some ⟨b,0,none⟩) 1 1] w (fun e w'=>(∃ v,e = .returned v /\ SV rBd (Im X w') ((cx ++ [(t,o)]).map bdR) v) /\ Kp [] w w'):=by
 obtain ⟨q1,q2⟩:=pD' (Im.sub X w) hc (vp' hB hb hz hu) (by simp) (by simp; omega) (by simp);refine ⟨q1,q2.mono fun e w' h=>?_⟩;obtain ⟨⟨v,rfl,hv⟩,hk⟩:=h;refine ⟨⟨v,rfl,?_⟩,hk⟩;rw [List.map_append];exact hv.mono (Im.cn hX hk)
structure MoS where
 i:Nat
 cx:Ctx
 m:Tr
 n:Nat
 vc:Value
 vm:Value
section
variable {B:BoT} {g k:Nat} {cx:Ctx} {X:List Nat} {w:World} {bj:Nat} {n:Nat}
theorem pE' (hB:GoodB B) (hX:XL X w) (hbj:bj ∈ X) (hcx:CxOk B cx) (hcl:cx.length <= 256) (hJ:JudC (Im X w) w bj B n) (hn:n <= 100000) {a:Int} (ha:ev' B B.ents.length a = true) {ps:List Tr} (hps:∀ y ∈ ps,Ft (QB B) (cx.length:Int) y) (hpl:ps.length = (psM B a).length) {m:Tr} (hm:Ft (QB B) (cx.length:Int) m)
  {vc vp vm:Value} (hc:SV rBd (Im X w) (cx.map bdR) vc) (hvp:TmsV (Im X w) ps vp) (hvm:TmV (Im X w) m vm) :
  CC 87 #[pt bj,vc,iV a,vp,vm] w (JdP (fun _ q u=>u = iV q) X w bj B (hH' B cx a ps m n)):=by
 refine oF Tryz.func87 ?_;have hal:=fg' hB ha;have ha':=ha;obtain ⟨i,x,s,ps0,qi,rfl,_,hi,hxD,hF⟩:=hB.fam ha (KJ _);obtain ⟨e1,e2,e3⟩:=hF.ps_eq hi;rw [e1] at hpl;obtain ⟨RES,hRES⟩:∃ r,hH' B cx (i:Int) ps m n = r:=⟨_,rfl⟩
 rw [hRES];unfold hH' at hRES;rw [e2] at hRES;have hlp:=hF.lp;have hli:=hF.li;have hJ0:=hJ;obtain ⟨v1,v2,v3,hJb,hO,hE,hP⟩:=hJ;obtain ⟨be,oe,ce,rfl,hat⟩:=hE.at hi;obtain ⟨w1e,w2e,w3e,w4e,w5e,w6e,hcs,hki,hso,hpa,hin,hct,hty,hbo⟩:=eB' hat;rw [hF.indices] at hin;have hin:=TmsV.sv.2 hin;have hone:∀ v ∈ [iV x.kind,w1e,w2e,w3e,w4e,w5e,w6e],v.oneCell' = true:=fun v hv=>by
  simp at hv;rcases hv with rfl | rfl | rfl | rfl | rfl | rfl | rfl
  ·rfl
  ·exact hso.one
  ·exact hpa.one
  ·exact (TmsV.sv.1 hin).one
  ·exact hct.one
  ·exact hty.one
  ·exact hbo.one
 obtain ⟨ai,ci,rfl,_,_⟩:=id hin;obtain ⟨ap,cp,rfl,_,_⟩:=id hvp;obtain ⟨am,cm,rfl,_,_⟩:=id hvm;obtain ⟨ac,cc,rfl,_,_⟩:=id hc;refine cO (args:=[_,_,_,_,_]) 148 [.tmp 10] τok Tryz.func87 ?_;refine lb hJb ?_;refine ix i rfl (ai' hi) ?_;refine ldN _ rfl (fun j v hj=>(hcs j v hj).1) ?_;refine new fun b11 w1 hb11 h11 hs1 hk1=>?_;refine stN (vs:=[iV x.kind,w1e,w2e,.slice ai qi.length ci,w4e,w5e,w6e]) h11 rfl hone fun w2 h11 hs2 hk2=>?_;have k02:=hk1.newSt hb11 hk2;refine lb h11 ?_;have hne:b11 ≠ bj:=by have:=hX bj hbj; omega
 have tr2:∀ b o v,Im X w b o v -> Im X w2 b o v:=fun b o v h=>h.tr k02;have h11:Bk w2.heap b11 [iV x.kind,w1e,w2e,.slice ai qi.length ci,w4e,w5e,w6e] 55:=h11;refine lp τok (σ:=MoS) (fun q=>[(0,pt bj),(1,q.vc),(2,iV (i:Int)),(3,.slice ap ps.length cp),(4,q.vm),(11,pt b11),(12,iV (qi.length:Int)),(13,iV (q.i:Int))])
  (fun q w'=>q.i <= qi.length + 1 /\ q.cx.length = cx.length + q.i /\ CxOk B q.cx /\ Ft (QB B) (q.cx.length:Int) q.m /\ SV rBd (Im X w') (q.cx.map bdR) q.vc /\ TmV (Im X w') q.m q.vm /\ JudC (Im X w') w' bj B q.n /\ q.n <= n /\ Kp [bj] w w' /\
   Bk w'.heap b11 [iV x.kind,w1e,w2e,.slice ai qi.length ci,w4e,w5e,w6e] 55 /\ hG' B (i:Int) ps qi.length (qi.length + 1 - q.i) q.i q.cx q.m q.n = RES /\ q.cx.length <= 260) (fun q=>qi.length + 1 - q.i) ⟨0,cx,m,n,_,_⟩ rfl
  ⟨rfl,rfl,rfl,rfl,rfl,rfl,rfl,rfl,trivial⟩ ⟨KV _,rfl,hcx,hm,hc.mono tr2,hvm.mono tr2,hJ0.tr k02,KJ _,k02.weak (by simp),h11,hRES,by simp only; omega⟩ ?_
 clear hRES
 rintro ⟨qi0,qcx,qm,qn,qvc,qvm⟩ w3 ⟨hqi,hql,q1cx,hqm,hqc,hqvm,hJ3,hqn,k03,h11q,hres,hq260⟩;simp only at hqi hql q1cx hqm hqc hqvm hJ3 hqn hres hq260;have hX3:=xU hX k03;obtain ⟨aqm,cqm,rfl,_,_⟩:=id hqvm;obtain ⟨aqc,cqc,rfl,_,_⟩:=id hqc;refine ac' (fun g1=>?_) (fun g1=>?_)
 ·have g1:(qi0:Int) <= (qi.length:Int):=g1
  obtain ⟨kk,hkk⟩:∃ kk,kk = qi.length - qi0:=⟨_,rfl⟩
  rw [show qi.length + 1 - qi0 = kk + 1 by omega] at hres;simp only [hG'] at hres;refine ab' (fn' hB q1cx hq260 hX3 hbj hJ3 (by omega) hqm hqc hqvm) ?_;rintro e w4 he;rcases he.cs with ⟨er,hz,rfl,hk4⟩ | ⟨z,u,hz,rfl,hu,hJ4,hk4⟩
  ·rw [hz] at hres
   obtain rfl:.error er = RES:=hres;exact ⟨rfl,k03.tq hk4⟩
  rw [hz] at hres;simp only [bdJ] at hres;have k04:Kp [bj] w w4:=k03.tq hk4;have hX4:=xU hX k04;obtain ⟨uh,ua,rfl,hh,haa⟩:=hu;obtain ⟨hq256,hzn,hzf⟩:=ea' hB q1cx hqm hz;have hh4:=hh;obtain ⟨bh,oh,ch,rfl,hi1,hi2,hi3,hhc⟩:=hh.hd;obtain ⟨aa,ca,rfl,_,_⟩:=id haa;have tr4:=Im.kb hk4 hbj;have hc4:=hqc.mono tr4;refine ix 0 rfl (ag' _) ?_;refine ld (Im.sub X w4 _ _ _ (by simpa using hhc 0 _ rfl)).cell ?_;refine ac' (fun g2=>?_) (fun g2=>?_)
  ·have g2:(headT z.1).n.op ≠ 4:=g2
   rw [if_pos (.inl g2)] at hres;subst hres;refine ab' (aN' 16 (by decide) w4) ?_;rintro e w5 ⟨rfl,hk5⟩;exact ⟨rfl,k04.tr hk5⟩
  have g2:¬ (headT z.1).n.op ≠ 4:=g2;refine ac' (fun g3=>?_) (fun g3=>?_)
  ·have g3:(0:Int) < ((argsT z.1).length:Int):=g3
   rw [if_pos (.inr (by omega))] at hres;subst hres;refine ab' (aN' 16 (by decide) w4) ?_;rintro e w5 ⟨rfl,hk5⟩;exact ⟨rfl,k04.tr hk5⟩
  have g3:¬ (0:Int) < ((argsT z.1).length:Int):=g3;rw [if_neg (by omega)] at hres;obtain ⟨hkl,kf0,kf1⟩:=aB' hzf.head (.inl (by omega));have h11q4:=h11q.kp hk4 (by simpa using hne);refine ac' (fun g4=>?_) (fun g4=>?_)
  ·have g4:(qi0:Int) < (qi.length:Int):=g4
   obtain ⟨y,hy,_⟩:=af' (l:=qi) (k:=qi0) (by omega);have hyF:=hF.up_i hB hi hy;refine lb h11q4 ?_;have up4:=Im.kb k04 hbj;have hin4:=hin.mono up4;obtain ⟨by_,oy,cy,py,zy,hzy,hzyT⟩:=hin4.get hy;injection py with q1 q2 q3
   subst q1 q3;refine ix qi0 rfl (by omega) ?_;refine ld (Im.sub X w4 _ _ _ hzy).cell ?_;have egd:(qiM B (i:Int)).getD qi0 (varX 0) = y:=by rw [e2,List.getD_eq_getElem?_getD,hy]; rfl
   unfold ju' at hres;rw [if_pos (by omega),egd] at hres;obtain ⟨r5,hr5⟩:∃ r,aS' ps (qi0:Int) ps.length y = r:=⟨_,rfl⟩
   have hinst:=lL' (Q:=QB B) (qk B) (Im.sub X w4) (fun _ _ _ h=>h.hold) (N:=(cx.length:Int)) (by omega) (by omega) hps (by omega) (more:=qi0) (by omega) (t:=y) (hyF.mono (by omega)) (hvp.mono up4) hzyT;rw [hr5] at hinst hres;refine ab' hinst ?_;rintro e w5 ⟨he,hk5⟩;have k05:Kp [bj] w w5:=k04.tr hk5;cases r5 with
   | error er =>
    obtain rfl:e = .panicked (dA' er):=he;obtain rfl:.error er = RES:=hres;exact ⟨rfl,k05⟩
   | ok zw =>
    obtain ⟨uw,rfl,huw⟩:=he;have huw:=huw.mono (Im.cn hX4 hk5);have hzw0:=js' (qk B) (N:=(cx.length:Int)) (more:=(qi0:Int)) (by omega) (by omega) (by omega) (by omega) hps ps.length y zw (KJ _) (by omega) (hyF.mono (by omega)) hr5;have hzw:Ft (QB B) (qcx.length:Int) zw:=hzw0.mono (by omega);simp only [puJ,bdJ] at hres;have k35:Kp [bj] w3 w5:=hk4.tr hk5;have hh5:=hh4.mono fun _ _ _ h=>h.tr hk5;have hc5:=hc4.mono fun _ _ _ h=>h.tr hk5;have hJ5:=hJ4.tr hk5;obtain ⟨bw,cw,rfl,_,_⟩:=id huw;refine ab' (dU' (Im.sub X w5) (fun _ _ _ h=>h.hold) hzf.head hh5) ?_;rintro e w6 ⟨uk,rfl,hks,hk6⟩;have hX5:=xU hX k05;have hks:=hks.tv hX5;have k06:Kp [bj] w w6:=k05.tr hk6;have tr6:∀ b o v,Im X w5 b o v -> Im X w6 b o v:=fun b o v h=>h.tr hk6;have hX6:=xU hX k06;obtain ⟨e0,_⟩:=hzf.head.kidD (k:=0) (by omega);obtain ⟨e1,_⟩:=hzf.head.kidD (k:=1) (by omega);obtain ⟨bk,ok,ck,p0,z0,hz0,hzT0⟩:=hks.get e0;obtain ⟨bk1,ok1,ck1,p1,z1,hz1,hzT1⟩:=hks.get e1;subst p0;injection p1 with q1 q2 q3
    injection q1 with q1
    injection q1 with q1 q4
    subst q1 q4;obtain ⟨az0,cz0,rfl,_,_⟩:=id hzT0;refine ix 0 rfl (by omega) ?_;refine ld (Im.sub X w6 _ _ _ hz0).cell ?_;refine ab' (jx' hB q1cx (by omega) hX6 hbj (hJ5.tr hk6) (by omega) kf0 hzw (hc5.mono tr6) hzT0 (huw.mono tr6) false) ?_;rintro e w7 he;rcases he.cs with ⟨er,hz,rfl,hk7⟩ | ⟨z7,u7,hz,rfl,hu7,hJ7,hk7⟩
    ·rw [hz] at hres
     obtain rfl:.error er = RES:=hres;exact ⟨rfl,k06.tq hk7⟩
    rw [hz] at hres;simp only [bdJ] at hres;subst hu7;have hm7:=(fi' hz).2;have k07:Kp [bj] w w7:=k06.tq hk7;obtain ⟨b7,m7⟩:=z7;simp only at hm7 hres hJ7;cases b7 with
    | false =>
     rw [if_neg (by simp)] at hres;subst hres;refine ab' (aN' 16 (by decide) w7) ?_;rintro e w8 ⟨rfl,hk8⟩;exact ⟨rfl,k07.tr hk8⟩
    | true =>
     rw [if_pos rfl] at hres;have tr7:=Im.kb hk7 hbj;have hX7:=xU hX k07;obtain ⟨az1,cz1,rfl,_,_⟩:=id hzT1;refine as' τok (fun z=>Kp [] w7 z) ?_;refine rV τok [0,1,2,3,4,7,8,9] 4 (mB 12 [5,6,10,11]) (kQd w7) ?_;refine ix 0 rfl (by omega) ?_;refine ldK (tr7 _ _ _ hz0).1 ?_;refine ix 1 rfl (by omega) ?_;refine ldK (tr7 _ _ _ hz1).1 ?_;refine nV τok 5 3 (mB 12 [6,10,11]) ?_;refine fill [.slice az0 (row (kidD (headT z.1) 0)).length cz0,.slice none 0 0] rfl ?_;refine new fun b8 w8 hb8 h8 hs8 hk8=>?_;have hk8:Kp [] w7 w8:=hk8.rd;refine ⟨.inl hk8,?_⟩;have hb8X:b8 ∉ X:=fun hm=>by
      have h1:=hX7 _ hm;have h2:b8 = w7.heap.size:=hb8;omega
     have hX8:=xU hX7 hk8;have tr8:∀ b o v,Im X w6 b o v -> Im X w8 b o v:=fun b o v h=>(tr7 b o v h).tr hk8;refine nV τok 6 2 (mR 12 10) ?_;refine ab' (dc' (t:=kidD (headT z.1) 0) (o:=none) hX8 (hc5.mono fun b o v h=>tr8 _ _ _ (tr6 _ _ _ h)) (by omega) h8 hb8X (hzT0.mono tr8) (SV.nil _ _)) ?_;rintro e w9 ⟨⟨vc9,rfl,hc9⟩,hk9⟩;have k79:=hk8.tr hk9;refine ⟨.inl k79,?_⟩;refine rV τok [10,11] 0 (mR 12 12) k79 ?_;refine dV ?_;refine i6 ?_;have k09:Kp [bj] w w9:=k07.tr k79;exact ⟨⟨qi0 + 1,qcx ++ [(kidD (headT z.1) 0,none)],kidD (headT z.1) 1,m7,vc9,_⟩,by simp only; omega,rfl,⟨rfl,rfl,rfl,rfl,rfl,rfl,rfl,rfl,trivial⟩,
      by simp only; omega,by simp only [JK,List.length_singleton]; omega,q1cx.snoc kf0 (fun x hx=>by cases hx),by simp only [JK,List.length_singleton]; exact kf1.mono (by omega),hc9,hzT1.mono (fun b o v h=>(tr7 b o v h).tr k79),hJ7.tr k79,by simp only; omega,k09,(((h11q.kp k35 (by simpa using hne)).kp hk6 (by simp)).kp hk7 (by simpa using hne)).kp k79 (by simp),by
       simp only;rw [show qi.length + 1 - (qi0 + 1) = kk by omega];exact hres,by simp only [JK,List.length_singleton]; omega⟩
  ·have g4:¬ (qi0:Int) < (qi.length:Int):=g4
   obtain rfl:qi0 = qi.length:=by omega
   unfold ju' at hres;rw [if_neg (by omega)] at hres;have up4:=Im.kb k04 hbj;have hvp4:=hvp.mono up4;obtain ⟨C,hC⟩:∃ C,C = Im X w4:=⟨_,rfl⟩
   have hS4:Sub C w4:=by rw [hC]; exact Im.sub X w4
   have hold4:∀ b o t,C b o t -> b < w4.heap.size:=fun b o t h=>by rw [hC] at h; exact h.hold
   have hvpC:TmsV C ps (.slice ap ps.length cp):=by rw [hC]; exact hvp4
   refine lp τok (σ:=Nat × Value) (fun q=>[(0,pt bj),(1,.slice aqc (qcx.map bdR).length cqc),(2,iV (i:Int)),(3,.slice ap ps.length cp),(11,pt b11),(12,iV (qi.length:Int)),(13,iV (qi.length:Int)),(14,.slice (some ⟨bh,oh,none⟩) (row (headT z.1)).length ch),(17,q.2),(69,.slice ap ps.length cp),(70,iV (ps.length:Int)),(71,iV (q.1:Int))])
    (fun q w'=>q.1 <= ps.length /\ VsO C w4.heap.size w' q.2 ((ps.map fun p=>aq' p qi.length 0).take q.1) /\ Kp [] w4 w') (fun q=>ps.length - q.1) (0,.slice none 0 0) rfl
    ⟨rfl,rfl,rfl,rfl,rfl,rfl,rfl,rfl,rfl,rfl,rfl,rfl,trivial⟩ ⟨KV _,VsO.nil (KJ _),Kp.refl _ _⟩ ?_
   rintro ⟨j,vv⟩ w5 ⟨hj,hV5,hk5⟩;simp only at hj hV5;refine ac' (fun g5=>?_) (fun g5=>?_)
   ·have g5:(j:Int) < (ps.length:Int):=g5
    obtain ⟨p,hp,_⟩:=af' (l:=ps) (k:=j) (by omega);have hpF:=hps p (JQ hp);obtain ⟨bq,oq,cq,pq,zp,hzp,hzpT⟩:=hvpC.get hp;injection pq with q1 q2 q3
    subst q1 q3;have hpl:(ps.map fun p=>aq' p qi.length 0)[j]? = some (aq' p qi.length 0):=by rw [JX,hp]; rfl
    refine ix j rfl (by omega) ?_;refine ldC (hS4.tr hk5) hzp ?_;obtain ⟨azp,czp,rfl,_,_⟩:=id hzpT;obtain ⟨avv,cvv,hvv⟩:=hV5.len;subst hvv;refine ab' (dG' (hS4.tr hk5) (Kp.hold hk5 hold4) hpF (by omega) hzpT (b:=(qi.length:Int)) (by omega)) ?_;rintro e w6 ⟨ul,rfl,hul,hk6⟩;obtain ⟨aul,cul,rfl,_,_⟩:=id hul;refine ab' (aC' _ ⟨_,_,_,rfl⟩ w6) ?_;rintro e w7 ⟨rfl,hk7⟩;refine fill [.slice aul (row (aq' p qi.length 0)).length cul] rfl ?_;refine new fun b8 w8 hb8 h8 hs8 hk8=>?_;have k58:=(hk6.tr hk7).tr hk8;have k48:=hk5.tr k58;have hblk:=hV5.blk;refine (hV5.kp k58).one hold4 (hS4.tr k48) (z:=aq' p qi.length 0) (TmV.mono hul fun b o t h=>⟨.inr ⟨KQ hk5.size h.1,h.2.kp (hk7.tr hk8) (by simp)⟩,fun e=>by have:=(hblk b e.symm).2; have:=h.1; omega⟩) (by simp; omega) h8 fun v9 w9 hV9 hk9=>?_;have hbl8:=(hV5.kp k58).blk;refine i6 ?_;refine ⟨(j + 1,v9),by simp only; omega,rfl,⟨rfl,rfl,rfl,rfl,rfl,rfl,rfl,rfl,rfl,rfl,rfl,rfl,trivial⟩,by show j + 1 <= _; omega,?_,k48.trans hk9 fun y hy hl=>?_⟩
    ·simp only
     rw [al' hpl];exact hV9
    ·have:=(hbl8 y (by simpa using hy)).1
     omega
   ·have g5:¬ (j:Int) < (ps.length:Int):=g5
    rw [JG (by simp; omega)] at hV5;obtain ⟨PL,hPL⟩:∃ l,l = ps.map fun p=>aq' p qi.length 0:=⟨_,rfl⟩
    rw [<- hPL] at hV5;have hPLl:PL.length = ps.length:=by rw [hPL]; simp
    have hvl:(varsM qi.length 0).length = qi.length:=by simp [varsM]
    refine i6 ?_;refine lp τok (σ:=Nat × Value) (fun q=>[(0,pt bj),(1,.slice aqc (qcx.map bdR).length cqc),(2,iV (i:Int)),(3,.slice ap ps.length cp),(11,pt b11),(12,iV (qi.length:Int)),(13,iV (qi.length:Int)),(14,.slice (some ⟨bh,oh,none⟩) (row (headT z.1)).length ch),(17,q.2),(20,iV ((q.1:Int) - 1))])
     (fun q w'=>q.1 <= qi.length /\ VsO C w4.heap.size w' q.2 (PL ++ (varsM qi.length 0).take (qi.length - q.1)) /\ Kp [] w4 w') (fun q=>q.1) (qi.length,vv) rfl
     ⟨rfl,rfl,rfl,rfl,rfl,rfl,rfl,rfl,rfl,rfl,trivial⟩ ⟨KJ _,by simpa using hV5,hk5⟩ ?_
    clear hV5 hk5
    rintro ⟨j,vv⟩ w5 ⟨hj,hV5,hk5⟩;simp only at hj hV5;refine ac' (fun g6=>?_) (fun g6=>?_)
    ·have g6:(0:Int) <= (j:Int) - 1:=g6
     obtain ⟨jj,rfl⟩:∃ jj,j = jj + 1:=⟨j - 1,by omega⟩
     have e0:((jj + 1:Nat):Int) - 1 = (jj:Int):=by omega
     rw [e0];have hget:=kB' (n:=qi.length) (fr:=0) (k:=qi.length - (jj + 1)) (by omega);rw [show qi.length - 1 - (qi.length - (jj + 1)) = jj by omega,Int.zero_add] at hget;refine fill [iV 1,iV (jj:Int),iV 0] rfl ?_;refine new fun b6 w6 hb6 h6 hs6 hk6=>?_;refine fill [.slice (some ⟨b6,0,none⟩) 1 1] rfl ?_;refine new fun b7 w7 hb7 h7 hs7 hk7=>?_;have k57:=hk6.tr hk7;have hb6n:w4.heap.size <= b6:=by have:=hk5.size; omega
     have hbl:=hV5.blk;refine (hV5.kp k57).one hold4 (hS4.tr (hk5.tr k57)) (z:=varX jj) (tm1 (n:=⟨1,jj,0⟩) (h6.kp hk7 (by simp)) ⟨⟨by simp,by simp⟩,⟨by simp only; omega,by simp only; omega⟩,⟨by simp,by simp⟩⟩ fun o t ht=>⟨.inr ⟨hb6n,ht⟩,fun e=>by have:=(hbl b6 e.symm).2; omega⟩) (by simp; omega) h7 fun v8 w8 hV8 hk8=>?_;have hbl7:=(hV5.kp k57).blk;refine i6 ?_;refine ⟨(jj,v8),by simp only; omega,rfl,⟨rfl,rfl,rfl,rfl,rfl,rfl,rfl,rfl,rfl,rfl,trivial⟩,by show jj <= _; omega,?_,(hk5.tr k57).trans hk8 fun y hy hl=>?_⟩
     ·have:=al' hget
      rw [show qi.length - (jj + 1) + 1 = qi.length - jj by omega] at this;simp only;rw [this,<- List.append_assoc];exact hV8
     ·have:=(hbl7 y (by simpa using hy)).1
      omega
    ·have g6:¬ (0:Int) <= (j:Int) - 1:=g6
     obtain rfl:j = 0:=by omega
     rw [Nat.sub_zero,JG (by omega)] at hV5;rw [<- hPL] at hres;have hV6:=hV5.tms (by simp; omega);obtain ⟨avv,cvv,hvv⟩:=hV5.len;subst hvv;refine fill [iV 9,iV (i:Int),iV 0] rfl ?_;refine new fun b6 wA hb6 h6 hsA hkA=>?_;have k4A:=hk5.tr hkA;obtain ⟨r5,hr5⟩:∃ r,aH' (.mk ⟨9,(i:Int),0⟩ []) (PL ++ varsM qi.length 0) = r:=⟨_,rfl⟩
     have hb6n:w4.heap.size <= b6:=by have:=hk5.size; omega
     have hi9:Ft (QB B) (qcx.length:Int) (.mk ⟨9,(i:Int),0⟩ []):=hE' (by simp [ah',inR]; omega) (.inl rfl) (by
      simp only [QB,aZ',bR'];simp [ha])
     have hys:∀ y ∈ PL ++ varsM qi.length 0,Ft (QB B) (qcx.length:Int) y:=fun y hy=>by
      rcases List.mem_append.1 hy with hy | hy
      ·rw [hPL] at hy
       obtain ⟨p,hp,rfl⟩:=List.mem_map.1 hy;have:=(hps p hp).lift (qk B) (b:=(qi.length:Int)) (by omega) (by omega) (by omega);exact this.mono (by omega)
      ·exact (dh' (qk B) (by omega) (by omega) y hy).mono (by omega)
     have hap:=dC' (C:=Cn C w4 wA) (w:=wA) (Cn.sub hS4 k4A) hi9 hys (by simp; omega) (tm1 (n:=⟨9,(i:Int),0⟩) h6 ⟨⟨by simp,by simp⟩,⟨by simp only; omega,by simp only; omega⟩,⟨by simp,by simp⟩⟩ fun o t ht=>.inr ⟨hb6n,ht⟩) (hV6.mono fun b o t h=>h.elim .inl fun h=>.inr ⟨h.1,h.2.kp hkA (by simp)⟩);rw [hr5] at hap hres;refine ab' hap ?_;rintro e wB ⟨he,hkB⟩;have k4B:=k4A.tr hkB;cases r5 with
     | error er =>
      obtain ⟨rfl,her⟩:=he;obtain rfl:.error er = RES:=hres;refine ab' (bm' _ ⟨_,_,_,rfl⟩ er her wB) ?_;rintro e w5 ⟨rfl,hk5⟩;exact ⟨rfl,k04.tr (k4B.tr hk5)⟩
     | ok zw =>
      obtain ⟨uw,rfl,huw⟩:=he;have huw:=huw.mono fun b o v h=>Cn.two (D:=C) hkB k4A.size h;obtain ⟨bw,cw,rfl,_,_⟩:=id huw;refine ab' (aC' _ ⟨_,_,_,rfl⟩ wB) ?_
      clear hV5 hV6 hap
      rintro e w5 ⟨rfl,hkC⟩;have hkD:=k4B.tr hkC;rw [hC] at huw;have huw:=(huw.mono (Im.cn hX4 k4B)).mono fun _ _ _ h=>h.tr hkC;have hzw:Ft (QB B) (qcx.length:Int) zw:=aL' (qk B) hi9 hys hr5;simp only [puJ,bdJ] at hres;have k05:Kp [bj] w w5:=k04.tr hkD;have k35:Kp [bj] w3 w5:=hk4.tr hkD;have hh5:=hh4.mono fun _ _ _ h=>h.tr hkD;have hc5:=hc4.mono fun _ _ _ h=>h.tr hkD;have hJ5:=hJ4.tr hkD;refine ab' (dU' (Im.sub X w5) (fun _ _ _ h=>h.hold) hzf.head hh5) ?_;rintro e w6 ⟨uk,rfl,hks,hk6⟩;have hX5:=xU hX k05;have hks:=hks.tv hX5;have k06:Kp [bj] w w6:=k05.tr hk6;have tr6:∀ b o v,Im X w5 b o v -> Im X w6 b o v:=fun b o v h=>h.tr hk6;have hX6:=xU hX k06;obtain ⟨e0,_⟩:=hzf.head.kidD (k:=0) (by omega);obtain ⟨e1,_⟩:=hzf.head.kidD (k:=1) (by omega);obtain ⟨bk,ok,ck,p0,z0,hz0,hzT0⟩:=hks.get e0;obtain ⟨bk1,ok1,ck1,p1,z1,hz1,hzT1⟩:=hks.get e1;subst p0;injection p1 with q1 q2 q3
      injection q1 with q1
      injection q1 with q1 q4
      subst q1 q4;obtain ⟨az0,cz0,rfl,_,_⟩:=id hzT0;refine ix 0 rfl (by omega) ?_;refine ld (Im.sub X w6 _ _ _ hz0).cell ?_;refine ab' (jx' hB q1cx (by omega) hX6 hbj (hJ5.tr hk6) (by omega) kf0 hzw (hc5.mono tr6) hzT0 (huw.mono tr6) false) ?_;rintro e w7 he;rcases he.cs with ⟨er,hz,rfl,hk7⟩ | ⟨z7,u7,hz,rfl,hu7,hJ7,hk7⟩
      ·rw [hz] at hres
       obtain rfl:.error er = RES:=hres;exact ⟨rfl,k06.tq hk7⟩
      rw [hz] at hres;simp only [bdJ] at hres;subst hu7;have hm7:=(fi' hz).2;have k07:Kp [bj] w w7:=k06.tq hk7;obtain ⟨b7,m7⟩:=z7;simp only at hm7 hres hJ7;cases b7 with
      | false =>
       rw [if_neg (by simp)] at hres;subst hres;refine ab' (aN' 16 (by decide) w7) ?_;rintro e w8 ⟨rfl,hk8⟩;exact ⟨rfl,k07.tr hk8⟩
      | true =>
       rw [if_pos rfl] at hres;have tr7:=Im.kb hk7 hbj;have hX7:=xU hX k07;obtain ⟨az1,cz1,rfl,_,_⟩:=id hzT1;refine as' τok (fun z=>Kp [] w7 z) ?_;refine rV τok [0,1,2,3,4,7,8,9] 4 (mB 12 [5,6,10,11]) (kQd w7) ?_;refine ix 0 rfl (by omega) ?_;refine ldK (tr7 _ _ _ hz0).1 ?_;refine ix 1 rfl (by omega) ?_;refine ldK (tr7 _ _ _ hz1).1 ?_;refine nV τok 5 3 (mB 12 [6,10,11]) ?_;refine fill [.slice az0 (row (kidD (headT z.1) 0)).length cz0,.slice none 0 0] rfl ?_;refine new fun b8 w8 hb8 h8 hs8 hk8=>?_;have hk8:Kp [] w7 w8:=hk8.rd;refine ⟨.inl hk8,?_⟩;have hb8X:b8 ∉ X:=fun hm=>by
        have h1:=hX7 _ hm;have h2:b8 = w7.heap.size:=hb8;omega
       have hX8:=xU hX7 hk8;have tr8:∀ b o v,Im X w6 b o v -> Im X w8 b o v:=fun b o v h=>(tr7 b o v h).tr hk8;refine nV τok 6 2 (mR 12 10) ?_;refine ab' (dc' (t:=kidD (headT z.1) 0) (o:=none) hX8 (hc5.mono fun b o v h=>tr8 _ _ _ (tr6 _ _ _ h)) (by omega) h8 hb8X (hzT0.mono tr8) (SV.nil _ _)) ?_;rintro e w9 ⟨⟨vc9,rfl,hc9⟩,hk9⟩;have k79:=hk8.tr hk9;refine ⟨.inl k79,?_⟩;refine rV τok [10,11] 0 (mR 12 12) k79 ?_;refine dV ?_;refine i6 ?_;have k09:Kp [bj] w w9:=k07.tr k79;exact ⟨⟨qi.length + 1,qcx ++ [(kidD (headT z.1) 0,none)],kidD (headT z.1) 1,m7,vc9,_⟩,by simp only; omega,rfl,⟨rfl,rfl,rfl,rfl,rfl,rfl,rfl,rfl,trivial⟩,
        by simp only; omega,by simp only [JK,List.length_singleton]; omega,q1cx.snoc kf0 (fun x hx=>by cases hx),by simp only [JK,List.length_singleton]; exact kf1.mono (by omega),hc9,hzT1.mono (fun b o v h=>(tr7 b o v h).tr k79),hJ7.tr k79,by simp only; omega,k09,(((h11q.kp k35 (by simpa using hne)).kp hk6 (by simp)).kp hk7 (by simpa using hne)).kp k79 (by simp),by
         simp only;rw [show qi.length + 1 - (qi.length + 1) = kk by omega];exact hres,by simp only [JK,List.length_singleton]; omega⟩
 ·have g1:¬ (qi0:Int) <= (qi.length:Int):=g1
  rw [show qi.length + 1 - qi0 = 0 by omega] at hres;simp only [hG'] at hres;refine ab' (fn' hB q1cx hq260 hX3 hbj hJ3 (by omega) hqm hqc hqvm) ?_;rintro e w4 he;rcases he.cs with ⟨er,hz,rfl,hk4⟩ | ⟨z,u,hz,rfl,hu,hJ4,hk4⟩
  ·rw [hz] at hres
   obtain rfl:.error er = RES:=hres;exact ⟨rfl,k03.tq hk4⟩
  rw [hz] at hres;simp only [bdJ] at hres;have k04:Kp [bj] w w4:=k03.tq hk4;obtain ⟨uh,ua,rfl,hh,haa⟩:=hu;obtain ⟨bh,oh,ch,rfl,hi1,hi2,hi3,hhc⟩:=hh.hd;obtain ⟨aa,ca,rfl,_,_⟩:=id haa;refine ix 0 rfl (ag' _) ?_;refine ld (Im.sub X w4 _ _ _ (by simpa using hhc 0 _ rfl)).cell ?_;refine ac' (fun g2=>?_) (fun g2=>?_)
  ·have g2:(headT z.1).n.op ≠ 2:=g2
   rw [if_pos (.inl g2)] at hres;subst hres;refine ab' (aN' 16 (by decide) w4) ?_;rintro e w5 ⟨rfl,hk5⟩;exact ⟨rfl,k04.tr hk5⟩
  have g2:¬ (headT z.1).n.op ≠ 2:=g2;refine ac' (fun g3=>?_) (fun g3=>?_)
  ·have g3:(0:Int) < ((argsT z.1).length:Int):=g3
   rw [if_pos (.inr (by omega))] at hres;subst hres;refine ab' (aN' 16 (by decide) w4) ?_;rintro e w5 ⟨rfl,hk5⟩;exact ⟨rfl,k04.tr hk5⟩
  have g3:¬ (0:Int) < ((argsT z.1).length:Int):=g3;rw [if_neg (by omega)] at hres;subst hres;refine ix 0 rfl (ag' _) ?_;refine ld (Im.sub X w4 _ _ _ (by simpa using hhc 1 _ rfl)).cell ?_;exact ⟨⟨_,rfl,rfl,hJ4⟩,k04⟩
end
theorem vq' {B:BoT} {i:Nat} {s:Int} {N:Int} {y:Tr} (h:Ft (aZ' B i s) N y):Mt i y:=fun m hm h11=>by
 have:=h.al m hm;simp [aZ',bR',h11,ev'] at this;exact this.2.1
theorem hK' (l:List Tr) (y:Tr):mO' (l ++ [y]) = mO' l ++ [(y,none)]:=by simp [mO']
theorem jy' (l:List Tr):(mO' l).length = l.length:=by simp [mO']
theorem tN' {B:BoT} {l:List Tr} (h:∀ (k:Nat) y,l[k]? = some y -> Ft (QB B) (k:Int) y):CxOk B (mO' l):=fun i q hq=>by
 unfold mO' at hq;rw [JX] at hq;obtain ⟨y,hy,rfl⟩:=Option.map_eq_some_iff.1 hq;exact ⟨h i y hy,fun x hx=>by cases hx⟩
section
variable {B:BoT} {g:Nat} {rc:RcJ} {X:List Nat} {w:World} {bj:Nat} {n:Nat}
theorem pF' (hB:GoodB B) (hr:fR' B rc) (hrc:nC' B g rc) (hX:XL X w) (hbj:bj ∈ X) (hJ:JudC (Im X w) w bj B n) (hn:n <= 100000) {a:Int} (ha:ev' B B.ents.length a = true) (hg:a.toNat * 5000 + 4096 <= g) :
  CC 88 #[pt bj,iV a] w (JdP (fun _ q u=>u = .bool q) X w bj B (dZ' B rc a n)):=by
 refine oF Tryz.func88 ?_;have hal:=fg' hB ha;obtain ⟨i,x,s,ps,qi,rfl,_,hi,hxD,hF⟩:=hB.fam ha (KJ _);obtain ⟨e1,e2,e3⟩:=hF.ps_eq hi;have hg:i * 5000 + 4096 <= g:=by simpa using hg
 obtain ⟨RES,hRES⟩:∃ r,dZ' B rc (i:Int) n = r:=⟨_,rfl⟩
 rw [hRES];unfold dZ' at hRES;rw [e1,hxD] at hRES;have hlp:=hF.lp;have hlc:=hF.lc;have hJ0:=hJ;obtain ⟨v1,v2,v3,hJb,hO,hE,hP⟩:=hJ;obtain ⟨be,oe,ce,rfl,hat⟩:=hE.at hi;obtain ⟨w1e,w2e,w3e,w4e,w5e,w6e,hcs,hki,hso,hpa,hin,hct,hty,hbo⟩:=eB' hat;rw [hF.params] at hpa;have hpa:=TmsV.sv.2 hpa;have hone:∀ v ∈ [iV x.kind,w1e,w2e,w3e,w4e,w5e,w6e],v.oneCell' = true:=fun v hv=>by
  simp at hv;rcases hv with rfl | rfl | rfl | rfl | rfl | rfl | rfl
  ·rfl
  ·exact hso.one
  ·exact (TmsV.sv.1 hpa).one
  ·exact hin.one
  ·exact hct.one
  ·exact hty.one
  ·exact hbo.one
 obtain ⟨ap,cp,rfl,_,_⟩:=id hpa;obtain ⟨ac,cc,rfl,_,_⟩:=id hct;refine cO (args:=[_,_]) 67 [.tmp 4] τok Tryz.func88 ?_;refine lb hJb ?_;refine ix i rfl (ai' hi) ?_;refine ldN _ rfl (fun j v hj=>(hcs j v hj).1) ?_;refine new fun b5 w1 hb5 h5 hs1 hk1=>?_;refine stN (vs:=[iV x.kind,w1e,.slice ap ps.length cp,w3e,.slice ac x.ctors.length cc,w5e,w6e]) h5 rfl hone fun w2 h5 hs2 hk2=>?_;have k02:=hk1.newSt hb5 hk2;have hne:b5 ≠ bj:=by have:=hX bj hbj; omega
 have tr2:∀ b o v,Im X w b o v -> Im X w2 b o v:=fun b o v h=>h.tr k02;have h5:Bk w2.heap b5 [iV x.kind,w1e,.slice ap ps.length cp,w3e,.slice ac x.ctors.length cc,w5e,w6e] 55:=h5;refine lb h5 ?_;refine ac' (fun g1=>?_) (fun g1=>?_)
 ·have g1:(x.ctors.length:Int) = 0:=g1
  rw [if_pos (by omega)] at hRES;subst hRES;exact ⟨⟨_,rfl,rfl,hJ0.tr k02⟩,k02.weak (by simp)⟩
 have g1:¬ (x.ctors.length:Int) = 0:=g1;rw [if_neg (by omega)] at hRES;refine lb h5 ?_;refine ac' (fun g2=>?_) (fun g2=>?_)
 ·have g2:(1:Int) < (x.ctors.length:Int):=g2
  rw [if_pos (by omega)] at hRES;subst hRES;exact ⟨⟨_,rfl,rfl,hJ0.tr k02⟩,k02.weak (by simp)⟩
 have g2:¬ (1:Int) < (x.ctors.length:Int):=g2;rw [if_neg (by omega)] at hRES;refine lb h5 ?_;obtain ⟨c,hc,_⟩:=af' (l:=x.ctors) (k:=0) (by omega);obtain ⟨ga,go,hC⟩:=hF.ct 0 c hc;obtain ⟨e4,e5,e6⟩:=hC.ag_eq hi hc;have e4:agM B (i:Int) 0 = ga:=e4;rw [e4] at hRES;have hla:=hC.la;have hpsF:∀ (k:Nat) y,ps[k]? = some y -> Ft (QB B) (k:Int) y:=fun k y hy=>hF.up_p hB hi hy;refine lp τok (σ:=Nat × Value) (fun q=>[(0,pt bj),(5,pt b5),(6,q.2),(30,.slice ap ps.length cp),(31,iV (ps.length:Int)),(32,iV (q.1:Int))])
  (fun q w'=>q.1 <= ps.length /\ SV rBd (Im X w') ((mO' (ps.take q.1)).map bdR) q.2 /\ Kp [] w2 w') (fun q=>ps.length - q.1) (0,.slice none 0 0) rfl
  ⟨rfl,rfl,rfl,rfl,rfl,rfl,trivial⟩ ⟨KV _,SV.nil _ _,Kp.refl _ _⟩ ?_
 rintro ⟨j,vv⟩ w3 ⟨hj,hV3,hk3⟩;simp only at hj hV3;obtain ⟨avv,cvv,rfl,_,_⟩:=id hV3;have k03:=k02.tr hk3;have hX3:=xU hX k03;have tr3:∀ b o v,Im X w b o v -> Im X w3 b o v:=fun b o v h=>h.tr k03;refine ac' (fun g3=>?_) (fun g3=>?_)
 ·have g3:(j:Int) < (ps.length:Int):=g3
  obtain ⟨p,hp,_⟩:=af' (l:=ps) (k:=j) (by omega);obtain ⟨bq,oq,cq,pq,zp,hzp,hzpT⟩:=(hpa.mono tr3).get hp;injection pq with q1 q2 q3
  subst q1 q3;obtain ⟨azp,czp,rfl,_,_⟩:=id hzpT;refine ix j rfl (by omega) ?_;refine ld (Im.sub X w3 _ _ _ hzp).cell ?_;refine fill [.slice azp (row p).length czp,.slice none 0 0] rfl ?_;refine new fun b4 w4 hb4 h4 hs4 hk4=>?_;have hX4:=xU hX3 hk4;have hb4X:b4 ∉ X:=fun hm=>by
   have h1:=hX3 _ hm;omega
  refine ab' (dc' (t:=p) (o:=none) hX4 (hV3.mono fun _ _ _ h=>h.tr hk4) (by rw [jy']; simp; omega) h4 hb4X (hzpT.mono fun _ _ _ h=>h.tr hk4) (SV.nil _ _)) ?_;rintro e w5 ⟨⟨v5,rfl,hv5⟩,hk5⟩;have o5:=hv5.one;refine i6 ?_;refine ⟨(j + 1,v5),by simp only; omega,rfl,⟨rfl,rfl,rfl,rfl,rfl,rfl,trivial⟩,by show j + 1 <= _; omega,?_,(hk3.tr hk4).tr hk5⟩;simp only;rw [al' hp,hK'];exact hv5
 have g3:¬ (j:Int) < (ps.length:Int):=g3;obtain rfl:j = ps.length:=by omega
 refine lb (h5.kp hk3 (by simp)) ?_;obtain ⟨bc,oc,cc',pc,hca⟩:=hct.at hc;obtain ⟨va,vo,hccs,hva,hvo⟩:=jg' hca;rw [hC.args] at hva;have hva:=TmsV.sv.2 hva;obtain ⟨aa,ca,rfl,_,_⟩:=id hva;injection pc with q1 q2 q3
 subst q1 q3;refine ix 0 rfl (ai' hc) ?_;refine ld (Cl.cell (tr3 _ _ _ (hccs 0 _ rfl)).1) ?_;refine lp τok (σ:=Nat × Nat × Value) (fun q=>[(0,pt bj),(6,q.2.2),(46,.slice aa ga.length ca),(47,iV (ga.length:Int)),(48,iV (q.1:Int))])
  (fun q w'=>q.1 <= ga.length /\ q.2.1 <= n /\ SV rBd (Im X w') ((mO' (ps ++ ga.take q.1)).map bdR) q.2.2 /\ JudC (Im X w') w' bj B q.2.1 /\ Kp [bj] w w' /\ lG' B rc (mO' (ps ++ ga.take q.1)) (ga.drop q.1) q.2.1 = RES) (fun q=>ga.length - q.1) (0,n,_) rfl
  ⟨rfl,rfl,rfl,rfl,rfl,trivial⟩ ⟨KV _,KJ _,by simpa using hV3,hJ0.tr k03,k03.weak (by simp),by simpa using hRES⟩ ?_
 clear hRES hV3
 rintro ⟨j2,n2,vv⟩ w4 ⟨hj2,hn2,hV4,hJ4,k04,hres⟩;simp only at hj2 hn2 hV4 hJ4 hres;obtain ⟨avv,cvv,rfl,_,_⟩:=id hV4;have hX4:=xU hX k04;have up4:=Im.kb k04 hbj;refine ac' (fun g4=>?_) (fun g4=>?_)
 ·have g4:(j2:Int) < (ga.length:Int):=g4
  obtain ⟨p,hp,hd⟩:=af' (l:=ga) (k:=j2) (by omega);rw [hd] at hres;simp only [lG'] at hres;obtain ⟨bq,oq,cq,pq,zp,hzp,hzpT⟩:=(hva.mono up4).get hp;injection pq with q1 q2 q3
  subst q1 q3;obtain ⟨azp,czp,rfl,_,_⟩:=id hzpT;have hlen:(mO' (ps ++ ga.take j2)).length = ps.length + j2:=by rw [jy']; simp; omega
  have hpF:Ft (QB B) ((mO' (ps ++ ga.take j2)).length:Int) p:=by rw [hlen]; exact hC.up_a hi hF.kind hp
  have hcx:CxOk B (mO' (ps ++ ga.take j2)):=tN' fun k y hy=>by
   by_cases hk:k < ps.length
   ·rw [List.getElem?_append_left hk] at hy
    exact hpsF k y hy
   ·rw [List.getElem?_append_right (by omega)] at hy
    have hlt:=ai' hy;rw [List.getElem?_take] at hy;split at hy
    ·have:=hC.up_a hi hF.kind hy
     exact this.mono (by omega)
    ·cases hy
  refine ix j2 rfl (by omega) ?_;refine ld (Im.sub X w4 _ _ _ hzp).cell ?_;refine ab' (fH' (k:=i) hB hr hrc hX4 hbj hcx (by omega) hJ4 (by omega) hpF (vq' (hC.fa j2 p hp)) (by have:=hpF.len; omega) hV4 hzpT) ?_;rintro e w5 he;rcases he.cs with ⟨er,hz,rfl,hk5⟩ | ⟨z,u,hz,rfl,hu,hJ5,hk5⟩
  ·rw [hz] at hres
   obtain rfl:.error er = RES:=hres;exact ⟨rfl,k04.tq hk5⟩
  rw [hz] at hres;simp only [bdJ] at hres;obtain ⟨al,cl,rfl,hl⟩:=hu;have k05:Kp [bj] w w5:=k04.tq hk5;have hzn:=(bA' hB hr hz).2.1;refine ac' (fun g5=>?_) (fun g5=>?_)
  ·have g5:z.1.1 ≠ 0:=g5
   rw [if_pos g5] at hres;subst hres;exact ⟨⟨_,rfl,rfl,hJ5⟩,k05⟩
  have g5:¬ z.1.1 ≠ 0:=g5;rw [if_neg g5] at hres;have tr5:=Im.kb hk5 hbj;have hX5:=xU hX k05;refine fill [.slice azp (row p).length czp,.slice none 0 0] rfl ?_;refine new fun b6 w6 hb6 h6 hs6 hk6=>?_;have hX6:=xU hX5 hk6;have hb6X:b6 ∉ X:=fun hm=>by
   have h1:=hX5 _ hm;omega
  refine ab' (dc' (t:=p) (o:=none) hX6 (hV4.mono fun _ _ _ h=>(tr5 _ _ _ h).tr hk6) (by rw [jy']; simp; omega) h6 hb6X (hzpT.mono fun _ _ _ h=>(tr5 _ _ _ h).tr hk6) (SV.nil _ _)) ?_;rintro e w7 ⟨⟨v7,rfl,hv7⟩,hk7⟩;have o7:=hv7.one;refine i6 ?_;refine ⟨(j2 + 1,z.2,v7),by simp only; omega,rfl,⟨rfl,rfl,rfl,rfl,rfl,trivial⟩,by show j2 + 1 <= _; omega,by simp only; omega,?_,hJ5.tr (hk6.tr hk7),k05.tr (hk6.tr hk7),?_⟩
  ·simp only
   rw [al' hp,<- List.append_assoc,hK'];exact hv7
  ·simp only
   rw [al' hp,<- List.append_assoc,hK'];exact hres
 ·have g4:¬ (j2:Int) < (ga.length:Int):=g4
  rw [JY (by omega)] at hres;simp only [lG'] at hres;subst hres;exact ⟨⟨_,rfl,rfl,hJ4⟩,k04⟩
end
theorem Mt.kid {k:Nat} {t y:Tr} (h:Mt k t) (hy:y ∈ kidsT t):Mt k y /\ (row y).length < (row t).length:=by
 obtain ⟨n,ks⟩:=t;have hsub:∀ (l:List Tr) (z:Tr),z ∈ l -> (∀ m ∈ row z,m ∈ rows l) /\ (row z).length <= (rows l).length:=by
  intro l
  induction l with
  | nil=>intro z hz; cases hz
  | cons a l ih =>
   intro z hz;rcases List.mem_cons.1 hz with rfl | hz
   ·exact ⟨fun m hm=>by simp [rows,hm],by simp [rows]⟩
   ·obtain ⟨h1,h2⟩:=ih z hz
    exact ⟨fun m hm=>by simp [rows,h1 m hm],by simp [rows]; omega⟩
 have hrow:row (.mk n ks) = n :: rows ks:=by simp [row]
 have key:∀ z ∈ ks,(∀ m ∈ row z,m ∈ row (.mk n ks)) /\ (row z).length < (row (.mk n ks)).length:=fun z hz=>by
  obtain ⟨h1,h2⟩:=hsub ks z hz;rw [hrow];exact ⟨fun m hm=>List.mem_cons_of_mem _ (h1 m hm),by simp; omega⟩
 have main:(∀ m ∈ row y,m ∈ row (.mk n ks)) /\ (row y).length < (row (.mk n ks)).length:=by
  simp only [kidsT] at hy;split at hy
  ·simp at hy
  split at hy
  ·obtain ⟨z,hz,hyz⟩:=List.mem_flatMap.1 hy
   obtain ⟨h1,h2⟩:=key z hz;obtain ⟨zn,zk⟩:=z;have hyz:y ∈ zk:=hyz;obtain ⟨h3,h4⟩:=hsub zk y hyz;have hzr:row (.mk zn zk) = zn :: rows zk:=by simp [row]
   rw [hzr] at h1 h2;exact ⟨fun m hm=>h1 m (List.mem_cons_of_mem _ (h3 m hm)),by simp at h2; omega⟩
  ·exact key y hy
 exact ⟨fun m hm h11=>h m (main.1 m hm) h11,main.2⟩
theorem lM' {f:Tr} {i:Nat} (hi:i < f.n.b.toNat):(aI' f).take (i + 1) = (aI' f).take i ++ [(aq' (kidD f (2 * i)) i 0,none)]:=al' (dm' hi)
section
variable {B:BoT} {g k:Nat} {rc:RcJ} {cx:Ctx} {X:List Nat} {w:World} {bj:Nat} {n:Nat}
theorem tO' (hB:GoodB B) (hr:fR' B rc) (hrc:nC' B g rc) (hX:XL X w) (hbj:bj ∈ X) (hcx:CxOk B cx) (hcl:cx.length <= 260) (hJ:JudC (Im X w) w bj B n) (hn:n <= 100000) {t:Tr} (ht:Ft (QB B) (cx.length:Int) t) (h12:t.n.op = 12) (hm:Mt k t) (hg:k * 5000 + (row t).length <= g + 1)
  {vc v vk:Value} (hc:SV rBd (Im X w) (cx.map bdR) vc) (hv:TmV (Im X w) t v) (hvk:TmsV (Im X w) (kidsT t) vk) :
  CC 65 #[pt bj,vc,v,vk] w (JdP (fun w' x u=>TmV (Im X w') x u) X w bj B (sC' B rc cx t n)):=by
 refine oF Tryz.func65 ?_;obtain ⟨RES,hRES⟩:∃ r,sC' B rc cx t n = r:=⟨_,rfl⟩
 rw [hRES];unfold sC' at hRES;have hl:=aG' ht.ok h12;have hkl:=bg' ht.ok h12;obtain ⟨nb,hnb⟩:∃ nb:Nat,t.n.b = (nb:Int):=⟨t.n.b.toNat,by omega⟩
 have hnb':t.n.b.toNat = nb:=by omega
 rw [hnb'] at hRES;have hvv:=hv;obtain ⟨bt,ot,ct,rfl,hi1,hi2,hi3,hhc⟩:=hv.hd;obtain ⟨ak,ck,rfl,_,_⟩:=id hvk;obtain ⟨ac,cc,rfl,_,_⟩:=id hc;obtain ⟨KK,hKK⟩:∃ f:Unit -> Nat -> Except Int (Tr × Nat),f = fun _ n=>if dX' B t ≠ 0 then .error (dX' B t) else bdJ (cK' B rc (cx ++ aI' t) t nb nb 0 n) fun _ n=>.ok (kidD t (2 * t.n.a.toNat),n):=⟨_,rfl⟩
 rw [<- hKK] at hRES;refine cO (args:=[_,_,_,_]) 84 [.tmp 8] τok Tryz.func65 ?_;refine ix 0 rfl (ag' _) ?_;refine ld (Im.sub X w _ _ _ (by simpa using hhc 2 _ rfl)).cell ?_;rw [hnb];refine lp τok (σ:=Nat × Nat × Value) (fun q=>[(0,pt bj),(1,.slice ac (cx.map bdR).length cc),(2,.slice (some ⟨bt,ot,none⟩) (row t).length ct),(3,.slice ak (kidsT t).length ck),(9,iV (nb:Int)),(10,q.2.2),(18,iV (nb:Int)),(19,iV (q.1:Int))])
  (fun q w'=>q.1 <= nb /\ q.2.1 <= n /\ (0 < q.1 -> cx.length <= 256) /\ SV rBd (Im X w') ((cx ++ (aI' t).take q.1).map bdR) q.2.2 /\ JudC (Im X w') w' bj B q.2.1 /\ Kp [bj] w w' /\ bdJ (ex' B rc cx t (nb - q.1) q.1 q.2.1) KK = RES) (fun q=>nb - q.1) (0,n,_) rfl
  ⟨rfl,rfl,rfl,rfl,rfl,rfl,rfl,rfl,trivial⟩ ⟨KV _,KJ _,fun h=>absurd h (Nat.lt_irrefl _),by simpa using hc,hJ,Kp.refl _ _,hRES⟩ ?_
 clear hRES
 rintro ⟨j,m,vv⟩ w1 ⟨hj,hmn,hc256,hV1,hJ1,k01,hres⟩;simp only at hj hmn hc256 hV1 hJ1 hres;obtain ⟨avv,cvv,rfl,_,_⟩:=id hV1;have hX1:=xU hX k01;have up1:=Im.kb k01 hbj;have hfl:=aK' t;refine ac' (fun g1=>?_) (fun g1=>?_)
 ·have g1:(j:Int) < (nb:Int):=g1
  rw [show nb - j = (nb - (j + 1)) + 1 by omega] at hres;simp only [ex'] at hres;obtain ⟨e1,e2,h1,h2⟩:=bt' ht h12 (i:=j) (by omega);obtain ⟨hm1,hm2⟩:=hm.kid (JQ e1);obtain ⟨bk,ok,ck',pk,z,hz,hzT⟩:=(hvk.mono up1).get e1;injection pk with q1 q2 q3
  subst q1 q3;obtain ⟨az,cz,rfl,_,_⟩:=id hzT;have hj2:(2:Int) * (j:Int) = ((2 * j:Nat):Int):=by omega
  refine i6 ?_;rw [hj2];refine ix (2 * j) rfl (by omega) ?_;refine ld (Im.sub X w1 _ _ _ hz).cell ?_;refine ab' (fH' (k:=k) hB hr hrc hX1 hbj hcx hcl hJ1 (by omega) h1 hm1 (by omega) (hc.mono up1) hzT) ?_;rintro e w2 he;rcases he.cs with ⟨er,hq,rfl,hk2⟩ | ⟨q,u,hq,rfl,hu,hJ2,hk2⟩
  ·rw [hq] at hres
   obtain rfl:.error er = RES:=hres;exact ⟨rfl,k01.tq hk2⟩
  rw [hq] at hres;simp only [bdJ] at hres;obtain ⟨al,cl,rfl,hl'⟩:=hu;have k02:Kp [bj] w w2:=k01.tq hk2;have hqn:=bA' hB hr hq;have up2:=Im.kb hk2 hbj;have hX2:=xU hX k02;refine i6 ?_;rw [hj2];refine ix (2 * j) rfl (by omega) ?_;refine ld (Im.sub X w2 _ _ _ (up2 _ _ _ hz)).cell ?_;refine ab' (dG' (Im.sub X w2) (fun _ _ _ h=>h.hold) h1 (by omega) (hzT.mono up2) (b:=(j:Int)) (by omega)) ?_;rintro e w3 ⟨ul,rfl,hul,hk3⟩;have hul:=hul.tv hX2;obtain ⟨aul,cul,rfl,_,_⟩:=id hul;refine ab' (aC' _ ⟨_,_,_,rfl⟩ w3) ?_;rintro e w4 ⟨rfl,hk4⟩;refine fill [.slice aul (row (aq' (kidD t (2 * j)) j 0)).length cul,.slice none 0 0] rfl ?_;refine new fun b5 w5 hb5 h5 hs5 hk5=>?_;have hX4:XL X w4:=fun b hb=>KZ (hX2 b hb) (hk3.tr hk4).size;have hX5:=xU hX4 hk5;have hb5X:b5 ∉ X:=fun hm=>by
   have h1:=hX4 _ hm;omega
  have k25:=(hk3.tr hk4).tr hk5;refine ab' (dc' (t:=aq' (kidD t (2 * j)) j 0) (o:=none) hX5 (hV1.mono fun _ _ _ h=>(up2 _ _ _ h).tr k25) (by simp; omega) h5 hb5X (hul.mono fun _ _ _ h=>h.tr (hk4.tr hk5)) (SV.nil _ _)) ?_;rintro e w6 ⟨⟨v6,rfl,hv6⟩,hk6⟩;have o6:=hv6.one;refine i6 ?_;refine ⟨(j + 1,q.2,v6),by simp only; omega,rfl,⟨rfl,rfl,rfl,rfl,rfl,rfl,rfl,rfl,trivial⟩,by show j + 1 <= _; omega,by simp only; omega,fun _=>hqn.1,?_,hJ2.tr (k25.tr hk6),k02.tr (k25.tr hk6),hres⟩;simp only;rw [lM' (by omega),<- List.append_assoc];exact hv6
 have g1:¬ (j:Int) < (nb:Int):=g1;obtain rfl:j = nb:=by omega
 rw [Nat.sub_self] at hres;simp only [ex',bdJ] at hres;have hc256:=hc256 (by omega);obtain ⟨CX,hCX⟩:∃ c,c = cx ++ aI' t:=⟨_,rfl⟩
 have htk:cx ++ (aI' t).take j = CX:=by rw [JG (by omega),hCX]
 have hCXl:CX.length = cx.length + j:=by rw [hCX,JK]; omega
 have hCXok:CxOk B CX:=by rw [hCX]; exact fc' hcx (by omega) ht h12
 rw [htk] at hV1 ⊢;rw [hKK] at hres;rw [<- hCX] at hres;simp only at hres;obtain ⟨v1,v2,v3,hJb,hO,hE,hP⟩:=id hJ1;refine ldN [iV B.vars,v1,v2,iV B.nat,v3] rfl (fun j u hj=>by
  refine hJb.cl ?_;rw [KW]
  match j,hj with
  | 0,hj=>exact hj
  | 1,hj=>exact hj
  | 2,hj=>exact hj
  | 3,hj=>exact hj
  | 4,hj=>exact hj
  | j + 5,hj=>cases hj) ?_
 refine ab' (nx' hB (Im.sub X w1) ht h12 ⟨v1,v2,v3,rfl,hO,hE,hP⟩ (hvv.mono up1)) ?_;rintro e w2 ⟨rfl,hk2⟩
 by_cases gg:dX' B t = 0
 rotate_left
 ·rw [if_pos gg] at hres
  subst hres;refine ab' (aN' _ gg w2) ?_;rintro e w3 ⟨rfl,hk3⟩;exact ⟨rfl,k01.tr (hk2.tr hk3)⟩
 rw [if_neg (fun h=>h gg)] at hres;rw [gg];refine ab' (hJ' w2) ?_;rintro e w3 ⟨⟨v9,rfl⟩,hk3⟩;have k13:=hk2.tr hk3;have k03:Kp [bj] w w3:=k01.tr k13;obtain ⟨K2,hK2⟩:∃ f:Unit -> Nat -> Except Int (Tr × Nat),f = fun _ n=>.ok (kidD t (2 * t.n.a.toNat),n):=⟨_,rfl⟩
 rw [<- hK2] at hres;have hV3:=hV1.mono fun _ _ _ h=>Im.tr k13 h;refine lp τok (σ:=Nat × Nat) (fun q=>[(0,pt bj),(2,.slice (some ⟨bt,ot,none⟩) (row t).length ct),(3,.slice ak (kidsT t).length ck),(9,iV (j:Int)),(10,.slice avv (CX.map bdR).length cvv),(52,iV (j:Int)),(53,iV (q.1:Int))])
  (fun q w'=>q.1 <= j /\ q.2 <= n /\ JudC (Im X w') w' bj B q.2 /\ Kp [bj] w3 w' /\ bdJ (cK' B rc CX t j (j - q.1) q.1 q.2) K2 = RES) (fun q=>j - q.1) (0,m) rfl
  ⟨rfl,rfl,rfl,rfl,rfl,rfl,rfl,trivial⟩ ⟨KV _,hmn,hJ1.tr k13,Kp.refl _ _,hres⟩ ?_
 clear hres hJ1 hJb hO hE hP
 rintro ⟨i,m2⟩ w4 ⟨hi,hmn2,hJ4,k34,hres⟩;simp only at hi hmn2 hJ4 hres;have k04:Kp [bj] w w4:=k03.tq k34;have up4:=Im.kb k04 hbj;have up34:=Im.kb k34 hbj;have hX4:=xU hX k04;have hV4:=hV3.mono up34;refine ac' (fun g2=>?_) (fun g2=>?_)
 ·have g2:(i:Int) < (j:Int):=g2
  rw [show j - i = (j - (i + 1)) + 1 by omega] at hres;simp only [cK'] at hres;obtain ⟨e1,e2,h1,h2⟩:=bt' ht h12 (i:=i) (by omega);obtain ⟨hm1,hm2⟩:=hm.kid (JQ e2);obtain ⟨bk,ok,ck',pk,z,hz,hzT⟩:=(hvk.mono up4).get e1;obtain ⟨bk2,ok2,ck2,pk2,z2,hz2,hzT2⟩:=(hvk.mono up4).get e2;rw [pk] at pk2;injection pk with q1 q2 q3
  injection pk2 with r1 r2 r3
  injection r1 with r1
  injection r1 with r1 r4
  subst q1 q3 r1 r4;obtain ⟨az,cz,rfl,_,_⟩:=id hzT;obtain ⟨az2,cz2,rfl,_,_⟩:=id hzT2;have hj2:(2:Int) * (i:Int) = ((2 * i:Nat):Int):=by omega
  have hj3:((2 * i:Nat):Int) + 1 = ((2 * i + 1:Nat):Int):=by omega
  refine cO' τok (fun z=>Kp [] w4 z) ?_;refine rP τok (rg 0 14) 5 (mR 19 14) (kQd w4) ?_;refine i6 ?_;rw [hj2];refine i6 ?_;rw [hj3];refine ix (2 * i + 1) rfl (by omega) ?_;refine ldK hz2.1 ?_;refine i6 ?_;rw [hj2];refine ix (2 * i) rfl (by omega) ?_;refine ldK hz.1 ?_;refine am' τok 14 4 (mR 19 15) rfl rfl rfl (by kernel_rfl) ?_;refine ab' (dG' (C:=Im X w4) (w:=(dr w4)) (Im.sub X w4) (fun _ _ _ h=>h.hold) h1 (by omega) hzT (b:=(j:Int)) (by omega)) ?_;rintro e w5 ⟨ul,rfl,hul,hk5⟩;have hk5:Kp [] w4 w5:=hk5.rd;have hul:=IsTm.tv (w:=w4) hul hX4;obtain ⟨aul,cul,rfl,_,_⟩:=id hul;refine ⟨.inl hk5,?_⟩;refine rP τok [15,16] 2 (mR 19 17) hk5 ?_;refine am' τok 17 1 (mR 19 18) rfl rfl rfl (by kernel_rfl) ?_;refine ab' (aC' _ ⟨_,_,_,rfl⟩ w5) ?_;rintro e w6 ⟨rfl,hk6⟩;have k46:=hk5.tr hk6;refine ⟨.inl k46,?_⟩;refine am' τok 18 0 (mR 19 19) rfl rfl rfl (by kernel_rfl) ?_;have hX6:=xU hX4 k46;have up6:∀ b o v,Im X w4 b o v -> Im X w6 b o v:=fun b o v h=>h.tr k46;have h2':Ft (QB B) (CX.length:Int) (kidD t (2 * i + 1)):=h2.mono (by omega);have hlF:=h1.lift (qk B) (b:=(j:Int)) (by omega) (by omega) (by omega);refine ab' (dn' (k:=k) hB hr hrc hX6 hbj hCXok (by omega) (hJ4.tr k46) (by omega) h2' hm1 (by omega) (hlF.mono (by omega)) (hV4.mono up6) (hzT2.mono up6) (hul.mono fun _ _ _ h=>h.tr hk6)) ?_;rintro e w7 he;rcases he.cs with ⟨er,hq,rfl,hk7⟩ | ⟨q,u,hq,rfl,hu,hJ7,hk7⟩
  ·rw [hq] at hres
   obtain rfl:.error er = RES:=hres;exact ⟨rfl,rfl,(k04.tr k46).tq hk7⟩
  rw [hq] at hres;simp only [bdJ] at hres;have hqn:=bP' hr hq;refine ⟨.inr (by kernel_rfl),?_⟩;refine dP ?_;refine i6 ?_;exact ⟨(i + 1,q.2),by simp only; omega,rfl,⟨rfl,rfl,rfl,rfl,rfl,rfl,rfl,trivial⟩,by show i + 1 <= _; omega,by simp only; omega,hJ7,(k34.tr k46).tq hk7,hres⟩
 have g2:¬ (i:Int) < (j:Int):=g2;rw [show j - i = 0 by omega] at hres;simp only [cK',bdJ] at hres;rw [hK2] at hres;subst hres;obtain ⟨e1,e2,h1,h2⟩:=bt' ht h12 (i:=t.n.a.toNat) (by omega);obtain ⟨bk,ok,ck',pk,z,hz,hzT⟩:=(hvk.mono up4).get e1;injection pk with q1 q2 q3
 subst q1 q3;obtain ⟨az,cz,rfl,_,_⟩:=id hzT;refine ix 0 rfl (ag' _) ?_;refine ld (Im.sub X w4 _ _ _ (up4 _ _ _ (by simpa using hhc 1 _ rfl))).cell ?_;refine i6 ?_;rw [show (2:Int) * t.n.a = ((2 * t.n.a.toNat:Nat):Int) by omega];refine ix (2 * t.n.a.toNat) rfl (by omega) ?_;refine ld (Im.sub X w4 _ _ _ hz).cell ?_;exact ⟨⟨_,rfl,hzT,hJ4⟩,k04⟩
end
end Go.Proofs.YtpealcfjbcpoiaaGreat
