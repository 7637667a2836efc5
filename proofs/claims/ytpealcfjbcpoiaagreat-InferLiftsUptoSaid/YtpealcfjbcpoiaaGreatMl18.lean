import Derived.Test.YtpealcfjbcpoiaaGreatMl17
set_option linter.unusedVariables false
set_option linter.unusedSimpArgs false
set_option maxRecDepth 100000
set_option maxHeartbeats 4000000
namespace Go.Proofs.YtpealcfjbcpoiaaGreat
open Go.Wx Cd Tm Lv
theorem bS' {α β:Type} {q:α × Nat} {k:α -> Nat -> Except Int (β × Nat)}:bdJ (.ok q) k = k q.1 q.2:=rfl
theorem TmsV.take {C:Mem} {ys:List Tr} {v:Value} (h:TmsV C ys v) {k:Nat} (hk:k <= ys.length):∃ a c,v = .slice a ys.length c /\ k <= c /\ ∃ v',sliced a 0 k c 1 = v' /\ TmsV C (ys.take k) v':=by
 obtain ⟨a,c,rfl,h2,h3⟩:=h;have e:sliced a 0 k c 1 = .slice a k c:=by
  cases a with
  | none=>simp [sliced]
  | some ad =>
   simp only [sliced,Option.map_some];have:ad.add (0 * 1) = ad:=by simp [Addr.add]
   simp [this]
 refine ⟨a,c,rfl,by omega,_,rfl,?_⟩;rw [e];have:=h2.takeN k;rw [<- List.map_take] at this;exact ⟨a,c,by rw [List.length_take]; congr 1; omega,this,by rw [List.length_take]; omega⟩
section
variable {B:BoT} {g k:Nat} {rc:RcJ} {cx:Ctx} {X:List Nat} {w:World} {bj:Nat} {n:Nat}
theorem pG' (hB:GoodB B) (hr:fR' B rc) (hrc:nC' B g rc) (hX:XL X w) (hbj:bj ∈ X) (hcx:CxOk B cx) (hcl:cx.length <= 260) (hJ:JudC (Im X w) w bj B n) (hn:n <= 100000) {t:Tr} (ht:Ft (QB B) (cx.length:Int) t) (h11:t.n.op = 11) (hm:Mt k t) (hg:k * 5000 + (row t).length <= g + 1)
  {vc vk:Value} (hc:SV rBd (Im X w) (cx.map bdR) vc) (hvk:TmsV (Im X w) (kidsT t) vk) (hi:I64 t.n.op /\ I64 t.n.a /\ I64 t.n.b) :
  CC 64 #[pt bj,vc,.agg #[iV t.n.op,iV t.n.a,iV t.n.b],vk] w (JdP (fun w' x u=>TmV (Im X w') x u) X w bj B (ew' B rc cx t.n (kidsT t) n)):=by
 refine oF Tryz.func64 ?_;obtain ⟨RES,hRES⟩:∃ r,ew' B rc cx t.n (kidsT t) n = r:=⟨_,rfl⟩
 rw [hRES];unfold ew' at hRES;simp only at hRES;have hfam:=jk' ht.node' (.inr h11);have hal:=fg' hB hfam;obtain ⟨nd,hnd⟩:∃ nd,nd = t.n:=⟨_,rfl⟩
 have hmk:nd.a < (k:Int):=by
  rw [hnd];refine hm t.n ?_ h11;obtain ⟨q1,q2⟩:=t;simp [row,Tr.n]
 obtain ⟨l1,l2,l3,kf⟩:=ej' ht h11;rw [<- hnd] at hRES hfam hal hi l1 l2 l3 ⊢;obtain ⟨i,x,s,ps0,qi,hia,_,hi0,hxD,hF⟩:=hB.fam hfam (KJ _);obtain ⟨e1,e2,e3⟩:=hF.ps_eq hi0;rw [<- hia] at e1 e2 e3;have hxD':=hxD;rw [e1,e2,e3,hxD] at hRES;have hlp:=hF.lp;have hli:=hF.li;have hlc:=hF.lc;have hJ0:=hJ;obtain ⟨v1,v2,v3,hJb,hO,hE,hP⟩:=hJ;obtain ⟨be,oe,ce,rfl,hat⟩:=hE.at hi0;obtain ⟨w1e,w2e,w3e,w4e,w5e,w6e,hcs,hki,hso,hpa,hin,hct,hty,hbo⟩:=eB' hat;rw [hF.params] at hpa;rw [hF.indices] at hin;rw [hF.sort] at hso;have hpa:=TmsV.sv.2 hpa;have hin:=TmsV.sv.2 hin;have hso:=TmV.sv.2 hso;have hone:∀ v ∈ [iV x.kind,w1e,w2e,w3e,w4e,w5e,w6e],v.oneCell' = true:=fun v hv=>by
  simp at hv;rcases hv with rfl | rfl | rfl | rfl | rfl | rfl | rfl
  ·rfl
  ·exact (TmV.sv.1 hso).one
  ·exact (TmsV.sv.1 hpa).one
  ·exact (TmsV.sv.1 hin).one
  ·exact hct.one
  ·exact hty.one
  ·exact hbo.one
 obtain ⟨ap,cp,rfl,_,_⟩:=id hpa;obtain ⟨ai,ci,rfl,_,_⟩:=id hin;obtain ⟨bs,os,cs,rfl,his1,his2,his3,hsc⟩:=hso.hd;obtain ⟨acc,ccc,rfl,_,_⟩:=id hct;obtain ⟨ak,ck,rfl,_,_⟩:=id hvk;obtain ⟨ac,cc,rfl,_,_⟩:=id hc;obtain ⟨mo,e0,_⟩:=af' (l:=kidsT t) (k:=0) (by omega);obtain ⟨sc,e1',_⟩:=af' (l:=kidsT t) (k:=1) (by omega);have hmo0:(kidsT t).getD 0 (varX 0) = mo:=by rw [List.getD_eq_getElem?_getD,e0]; rfl
 have hsc0:(kidsT t).getD 1 (varX 0) = sc:=by rw [List.getD_eq_getElem?_getD,e1']; rfl
 rw [hmo0,hsc0] at hRES;have hmoF:=kf mo (JQ e0);have hscF:=kf sc (JQ e1');obtain ⟨hmm1,hmm2⟩:=hm.kid (JQ e0);obtain ⟨hms1,hms2⟩:=hm.kid (JQ e1');refine cO (args:=[_,_,_,_]) 154 [.tmp 8] τok Tryz.func64 ?_;refine new fun b6 w1 hb6 h6 hs1 hk1=>?_;have h6:Bk w1.heap b6 [iV nd.op,iV nd.a,iV nd.b] 45:=h6;have hJ1:=hJb.kp hk1 (by simp);refine as' τok (fun z=>Kp [] w1 z) ?_;refine rV τok (rg 0 9) 2 (mR 11 9) (kQd w1) ?_;refine lk hJ1 ?_;refine lk h6 ?_;refine ix i hia (ai' hi0) ?_;refine dP' [iV x.kind,.slice (some ⟨bs,os,none⟩) (row s).length cs,.slice ap ps0.length cp,.slice ai qi.length ci,.slice acc x.ctors.length ccc,w5e,w6e] rfl (fun j v hj=>(hcs j v hj).1.kp hk1 (by simp)) ?_;refine nV τok 9 1 (mR 11 10) ?_;refine new fun b9 w2 hb9 h9 hs2 hk2=>?_;have hk2:Kp [] w1 w2:=hk2.rd;refine ⟨.inl hk2,?_⟩;refine nV τok 10 0 (mR 11 11) ?_;refine stN (vs:=[iV x.kind,.slice (some ⟨bs,os,none⟩) (row s).length cs,.slice ap ps0.length cp,.slice ai qi.length ci,.slice acc x.ctors.length ccc,w5e,w6e]) h9 rfl hone fun w3 h9 hs3 hk3=>?_;refine ⟨.inr (by kernel_rfl),?_⟩;refine dV ?_;have k13:=hk2.newSt hb9 hk3;have k03:=hk1.tr k13;have h6:=h6.kp k13 (by simp);have h9:Bk w3.heap b9 [iV x.kind,.slice (some ⟨bs,os,none⟩) (row s).length cs,.slice ap ps0.length cp,.slice ai qi.length ci,.slice acc x.ctors.length ccc,w5e,w6e] 55:=h9;have hne6:b6 ≠ bj:=by have:=hX bj hbj; omega
 have hne9:b9 ≠ bj:=by
  have h1:=hX bj hbj;have h2:=hk1.size;have h3:b9 = w1.heap.size:=hb9;omega
 have up3:∀ b o v,Im X w b o v -> Im X w3 b o v:=fun b o v h=>h.tr k03;have hX3:=xU hX k03;have hJ3:=hJ0.tr k03;obtain ⟨bk,ok,ck',pk,zmo,hzmo,hzmoT⟩:=(hvk.mono up3).get e0;obtain ⟨bk2,ok2,ck2,pk2,zsc,hzsc,hzscT⟩:=(hvk.mono up3).get e1';obtain ⟨adr,cdr,pdr,vre,hsre,hvre⟩:=(hvk.mono up3).drop (k:=2) (by omega);rw [pk] at pk2 pdr;injection pk with q1 q2 q3
 injection pk2 with r1 r2 r3
 injection r1 with r1
 injection r1 with r1 r4
 injection pdr with s1 s2 s3
 subst q1 q3 r1 r4 s1 s3;obtain ⟨azm,czm,rfl,_,_⟩:=id hzmoT;obtain ⟨azs,czs,rfl,_,_⟩:=id hzscT;obtain ⟨are,cre,rfl,_,_⟩:=id hvre;have hrel:((kidsT t).drop 2).length = nd.b.toNat:=by simp; omega
 obtain ⟨rest,hrest⟩:∃ r,r = (kidsT t).drop 2:=⟨_,rfl⟩
 rw [<- hrest] at hRES hrel hvre hsre;have hrestm:∀ y ∈ rest,y ∈ kidsT t:=fun y hy=>by rw [hrest] at hy; exact List.mem_of_mem_drop hy
 refine as' τok (fun z=>Kp [] w3 z) ?_;refine rV τok (rg 0 11) 0 (mR 11 11) (kQd w3) ?_;refine ix 0 rfl (by omega) ?_;refine ldK hzmo.1 ?_;refine ix 1 rfl (by omega) ?_;refine ldK hzsc.1 ?_;refine jU' τok rfl 2 (.slice are rest.length cre) rfl (by omega) hsre ?_;refine dV ?_;refine ab' (hrc X (dr w3) bj cx k sc n _ _ hX3 hbj hcx hcl hJ3 hn hscF hms1 (by omega) (hc.mono up3) hzscT) ?_;rintro e w4 he;rcases he.cs with ⟨er,hq,rfl,hk4⟩ | ⟨q,u,hq,rfl,hu,hJ4,hk4⟩
 ·have hk4:Kp [bj] w3 w4:=hk4.rd
  rw [hq] at hRES;obtain rfl:.error er = RES:=hRES;exact ⟨rfl,(k03.weak (by simp)).tq hk4⟩
 have hk4:Kp [bj] w3 w4:=hk4.rd;have k04:Kp [bj] w w4:=(k03.weak (by simp)).tq hk4;rw [hq] at hRES;simp only [bS'] at hRES;have hqF:=hr.ft _ _ _ _ hcx hcl hscF hq;have hqn:=hr.le _ _ _ _ hq;have hX4:=xU hX k04;obtain ⟨_,_,rfl,_,_⟩:=id hu;refine ab' (fn' hB hcx hcl hX4 hbj hJ4 (by omega) hqF (hc.mono (Im.kb k04 hbj)) hu) ?_;rintro e w5 he;rcases he.cs with ⟨er,hz,rfl,hk5⟩ | ⟨z,u,hz,rfl,hu,hJ5,hk5⟩
 ·rw [hz] at hRES
  obtain rfl:.error er = RES:=hRES;exact ⟨rfl,k04.tq hk5⟩
 rw [hz] at hRES;simp only [bS'] at hRES;have k05:Kp [bj] w w5:=k04.tq hk5;have k35:Kp [bj] w3 w5:=hk4.tq hk5;have hX5:=xU hX k05;obtain ⟨uh,ua,rfl,hh,haa⟩:=hu;obtain ⟨hc256,hzn,hzf⟩:=ea' hB hcx hqF hz;obtain ⟨bh,oh,ch,rfl,hi1,hi2,hi3,hhc⟩:=hh.hd;obtain ⟨aa,ca,rfl,_,_⟩:=id haa;have h65:=h6.kp k35 (by simpa using hne6);have h95:=h9.kp k35 (by simpa using hne9);have h3b:=Im.sub X w5;have kd5:Kp [] w5 (dr w5):=(Kp.refl [] w5).dr _;have hfew:=hzf.few;have bad:∀ {w6:World},Kp [] w5 w6 -> RES = .error 14 -> JdP (fun w' x u=>TmV (Im X w') x u) X w bj B RES (.panicked (dA' 14)) w6:=fun kk h=>by
  subst h;exact ⟨rfl,k05.tr kk⟩
 refine as' τok (fun z=>Kp [] w5 z) ?_;refine rV τok (rg 0 26) 0 (mR 26 26) (kQd w5) ?_;refine ix 0 rfl (ag' _) ?_;refine ldK (h3b _ _ _ (by simpa using hhc 0 _ rfl)) ?_;refine ac' (fun g1=>?_) (fun g1=>?_)
 ·have g1:(headT z.1).n.op ≠ 9:=g1
  rw [if_pos (.inl g1)] at hRES;refine dV ?_;refine ab' (aN' 14 (by decide) _) ?_;rintro e w6 ⟨rfl,hk6⟩;exact bad hk6.rd hRES.symm
 have g1:¬ (headT z.1).n.op ≠ 9:=g1;refine ix 0 rfl (ag' _) ?_;refine ldK (h3b _ _ _ (by simpa using hhc 1 _ rfl)) ?_;refine lk h65 ?_;refine ac' (fun g2=>?_) (fun g2=>?_)
 ·have g2:(headT z.1).n.a ≠ nd.a:=g2
  rw [if_pos (.inr (.inl g2))] at hRES;refine dV ?_;refine ab' (aN' 14 (by decide) _) ?_;rintro e w6 ⟨rfl,hk6⟩;exact bad hk6.rd hRES.symm
 have g2:¬ (headT z.1).n.a ≠ nd.a:=g2;refine lk h95 ?_;refine lk h95 ?_;refine i6 ?_;refine dV ?_;refine ac' (fun g3=>?_) (fun g3=>?_)
 ·have g3:((argsT z.1).length:Int) ≠ (ps0.length:Int) + (qi.length:Int):=g3
  rw [if_pos (.inr (.inr (by omega)))] at hRES;refine ab' (aN' 14 (by decide) _) ?_;rintro e w6 ⟨rfl,hk6⟩;exact bad hk6.rd hRES.symm
 have g3:¬ ((argsT z.1).length:Int) ≠ (ps0.length:Int) + (qi.length:Int):=g3;rw [if_neg (by omega)] at hRES;refine lb h95 ?_;refine ac' (fun g4=>?_) (fun g4=>?_)
 ·have g4:(rest.length:Int) ≠ (x.ctors.length:Int):=g4
  rw [if_pos (by omega)] at hRES;subst hRES;refine ab' (aN' 15 (by decide) _) ?_;rintro e w6 ⟨rfl,hk6⟩;have hk6:Kp [] w5 w6:=hk6.rd;exact ⟨rfl,k05.tr hk6⟩
 have g4:¬ (rest.length:Int) ≠ (x.ctors.length:Int):=g4;rw [if_neg (by omega)] at hRES;obtain ⟨at1,ct1,pt1,hle1,vps,hsps,hvps⟩:=haa.take (k:=ps0.length) (by omega);obtain ⟨at2,ct2,pt2,vix,hsix,hvix⟩:=haa.drop (k:=ps0.length) (by omega);injection pt1 with q1 q2 q3
 injection pt2 with r1 r2 r3
 subst q1 q3 r1 r3;obtain ⟨PS,hPS⟩:∃ l,l = (argsT z.1).take ps0.length:=⟨_,rfl⟩
 obtain ⟨IX,hIX⟩:∃ l,l = (argsT z.1).drop ps0.length:=⟨_,rfl⟩
 rw [<- hPS] at hvps hRES;rw [<- hIX] at hvix hRES;have hPSl:PS.length = ps0.length:=by rw [hPS,List.length_take]; omega
 have hIXl:IX.length = qi.length:=by rw [hIX,List.length_drop]; omega
 have hPSF:∀ y ∈ PS,Ft (QB B) (cx.length:Int) y:=fun y hy=>hzf.args y (by rw [hPS] at hy; exact List.mem_of_mem_take hy);have hIXF:∀ y ∈ IX,Ft (QB B) (cx.length:Int) y:=fun y hy=>hzf.args y (by rw [hIX] at hy; exact List.mem_of_mem_drop hy);obtain ⟨aps,cps,rfl,_,_⟩:=id hvps;obtain ⟨aix,cix,rfl,_,_⟩:=id hvix;refine as' τok (fun z=>Kp [] w5 z) ?_;refine rV τok (rg 0 12) 0 (mR 12 12) (kd5.dr _) ?_;refine lk h95 ?_;refine uH' τok rfl ps0.length (.slice aps PS.length cps) rfl (by omega) hsps ?_;refine lk h95 ?_;refine jU' τok rfl ps0.length (.slice aix IX.length cix) rfl (by omega) hsix ?_;refine dV ?_;have hb6X:b6 ∉ X:=fun hm=>by
  have h1:=hX _ hm;omega
 have h65a:Im X w5 b6 1 (iV nd.a):=⟨h65.cl rfl,hb6X⟩
 have kd7:Kp [bj] w5 { w5 with drawn:=w5.drawn + 1 + 1 + 1 }:=((kd5.dr _).dr _).weak (by simp);refine cO' τok (fun z=>Kp [bj] w5 z) ?_;refine rP τok (rg 0 8) 3 (mR 11 8) kd7 ?_;refine ldI hbj h65a ?_;refine am' τok 8 2 (mR 11 9) rfl rfl rfl (by kernel_rfl) ?_;have hX5':∀ b ∈ X,b < ({ w5 with drawn:=w5.drawn + 1 + 1 + 1 }:World).heap.size:=hX5;have up5:=Im.kb k05 hbj;have up35:=Im.kb k35 hbj;refine ab' (hrc X { w5 with drawn:=w5.drawn + 1 + 1 + 1 } bj cx k mo z.2 _ _ hX5 hbj hcx hcl hJ5 (by omega) hmoF hmm1 (by omega) (hc.mono up5) (hzmoT.mono up35)) ?_;rintro e w6 he;rcases he.cs with ⟨er,hq6,rfl,hk6⟩ | ⟨q6,u6,hq6,rfl,hu6,hJ6,hk6⟩
 ·have hk6:Kp [bj] w5 w6:=hk6.rd
  rw [hq6] at hRES;obtain rfl:.error er = RES:=hRES;exact ⟨rfl,rfl,k05.tq hk6⟩
 have hk6:Kp [bj] w5 w6:=hk6.rd;have k06:Kp [bj] w w6:=k05.tq hk6;rw [hq6] at hRES;simp only [bS'] at hRES;have hq6F:=hr.ft _ _ _ _ hcx hcl hmoF hq6;have hq6n:=hr.le _ _ _ _ hq6;have hX6:=xU hX k06;have up6:=Im.kb k06 hbj;have up56:=Im.kb hk6 hbj;obtain ⟨_,_,rfl,_,_⟩:=id hu6;refine ⟨.inl hk6,?_⟩;refine am' τok 9 1 (mR 11 10) rfl rfl rfl (by kernel_rfl) ?_;refine ab' (pE' hB hX6 hbj hcx hc256 hJ6 (by omega) hfam hPSF (by rw [e1]; exact hPSl) hq6F (hc.mono up6) (hvps.mono up56) hu6) ?_;rintro e w7 he;rcases he.cs with ⟨er,hq7,rfl,hk7⟩ | ⟨q7,u7,hq7,rfl,hu7,hJ7,hk7⟩
 ·rw [hq7] at hRES
  obtain rfl:.error er = RES:=hRES;exact ⟨rfl,rfl,k06.tq hk7⟩
 rw [hq7] at hRES;simp only [bS'] at hRES;subst hu7;have hq7n:=jw' _ _ _ _ _ hq7;have k07:Kp [bj] w w7:=k06.tq hk7;have k57:Kp [bj] w5 w7:=hk6.tq hk7;have k37:Kp [bj] w3 w7:=k35.tq k57;refine ⟨.inl k57,?_⟩;refine rP τok [10] 0 (mR 11 11) k57 ?_;refine dP ?_;have h97:=h9.kp k37 (by simpa using hne9);have up7:=Im.kb k07 hbj;have hX7:=xU hX k07;refine lb h97 ?_;refine ix 0 rfl (ag' _) ?_;refine ld (Cl.cell (up7 _ _ _ (by simpa using hsc 1 _ rfl)).1) ?_;obtain ⟨KK,hKK⟩:∃ f:Unit -> Nat -> Except Int (Tr × Nat),f = fun _ n=>puJ (aH' mo (IX ++ [sc])) n:=⟨_,rfl⟩
 rw [<- hKK] at hRES;refine ac' (fun g5=>?_) (fun g5=>?_)
 ·have g5:s.n.a = 0:=g5
  refine ac' (fun g6=>?_) (fun g6=>?_)
  ·have g6:q7.1 = 1:=g6
   rw [if_pos ⟨g5,g6⟩] at hRES;have h67:=h6.kp k37 (by simpa using hne6);refine lb h67 ?_;refine ab' (pF' hB hr hrc hX7 hbj hJ7 (by omega) hfam (by omega)) ?_;rintro e w8 he;rcases he.cs with ⟨er,hq8,rfl,hk8⟩ | ⟨q8,u8,hq8,rfl,hu8,hJ8,hk8⟩
   ·rw [hq8] at hRES
    obtain rfl:.error er = RES:=hRES;exact ⟨rfl,k07.tq hk8⟩
   rw [hq8] at hRES;simp only [bS'] at hRES;subst hu8;have hq8n:=iE' hB hr hq8;have k08:Kp [bj] w w8:=k07.tq hk8;have k38:Kp [bj] w3 w8:=k37.tq hk8;have k58:Kp [bj] w5 w8:=k57.tq hk8;obtain ⟨b8,m8⟩:=q8;simp only at hRES hq8n hJ8;cases b8 with
   | false =>
    rw [if_pos rfl] at hRES;subst hRES;refine ab' (aN' 17 (by decide) w8) ?_;rintro e w9 ⟨rfl,hk9⟩;exact ⟨rfl,k08.tr hk9⟩
   | true =>
    rw [if_neg (by simp)] at hRES;refine lp τok (σ:=Nat × Nat) (fun q=>[(0,pt bj),(1,.slice ac (cx.map bdR).length cc),(6,pt b6),(10,.slice azm (row mo).length czm),(11,.slice azs (row sc).length czs),(15,.slice aps PS.length cps),(16,.slice aix IX.length cix),(119,.slice are rest.length cre),(120,iV (rest.length:Int)),(121,iV (q.1:Int))])
     (fun q w'=>q.1 <= rest.length /\ q.2 <= n /\ JudC (Im X w') w' bj B q.2 /\ Kp [bj] w w' /\ Kp [bj] w3 w' /\ Kp [bj] w5 w' /\ bdJ (aE' B rc cx nd.a PS mo q.1 (rest.drop q.1) q.2) KK = RES) (fun q=>rest.length - q.1) (0,m8) rfl
     ⟨rfl,rfl,rfl,rfl,rfl,rfl,rfl,rfl,rfl,rfl,trivial⟩ ⟨KV _,by simp only; omega,hJ8,k08,k38,k58,by simpa using hRES⟩ ?_
    clear hRES
    rintro ⟨j,m⟩ wa ⟨hj,hmn,hJa,k0a,k3a,k5a,hres⟩;simp only at hj hmn hJa hres;have upa:=Im.kb k0a hbj;have up3a:=Im.kb k3a hbj;have up5a:=Im.kb k5a hbj;have hXa:=xU hX k0a;refine ac' (fun g7=>?_) (fun g7=>?_)
    ·have g7:(j:Int) < (rest.length:Int):=g7
     obtain ⟨br,hbr,hd⟩:=af' (l:=rest) (k:=j) (by omega);rw [hd] at hres;simp only [aE'] at hres;have hbrm:=hrestm br (JQ hbr);obtain ⟨hmb1,hmb2⟩:=hm.kid hbrm;have hbrF:=kf br hbrm;obtain ⟨bb,ob,cb,pb,zb,hzb,hzbT⟩:=(hvre.mono up3a).get hbr;injection pb with q1 q2 q3
     subst q1 q3;obtain ⟨azb,czb,rfl,_,_⟩:=id hzbT;obtain ⟨v1,v2,v3,hJb,hO,hE,hP⟩:=id hJa;have h6a:=h6.kp k3a (by simpa using hne6);refine ix j rfl (by omega) ?_;refine ld (Im.sub X wa _ _ _ hzb).cell ?_;refine cO' τok (fun z=>Kp [] wa z) ?_;refine rP τok (rg 0 12) 5 (mR 17 12) (kQd wa) ?_;refine dP' [iV B.vars,v1,v2,iV B.nat,v3] rfl (fun j u hj=>by
      refine hJb.cl ?_;rw [KW]
      match j,hj with
      | 0,hj=>exact hj
      | 1,hj=>exact hj
      | 2,hj=>exact hj
      | 3,hj=>exact hj
      | 4,hj=>exact hj
      | j + 5,hj=>cases hj) ?_
     refine lk h6a ?_;refine am' τok 12 4 (mR 17 13) rfl rfl rfl (by kernel_rfl) ?_;obtain ⟨rb,hrb⟩:∃ r,bZ' B nd.a (j:Int) PS mo = r:=⟨_,rfl⟩
     have hbrt:=fG' (C:=Im X wa) (w:=(dr wa)) hB (Im.sub X wa) (fun _ _ _ h=>h.hold) (vb:=.agg #[iV B.vars,v1,v2,iV B.nat,v3]) ⟨v1,v2,v3,rfl,hO,hE,hP⟩ (N:=(cx.length:Int)) (by omega) (by omega) hfam (b:=(j:Int)) (by omega) (by rw [hxD']; omega) hPSF (by rw [e1]; exact hPSl) hmoF (hvps.mono up5a) (hzmoT.mono up3a);rw [hrb] at hbrt hres;refine ab' hbrt ?_;rintro e wb ⟨he,hkb⟩;have hkb:Kp [] wa wb:=hkb.rd;cases rb with
     | error er =>
      obtain ⟨rfl,her⟩:=he;obtain rfl:.error er = RES:=hres;refine ⟨.inl hkb,?_⟩;refine rP τok [13,14] 2 (mR 17 15) hkb ?_;refine am' τok 15 1 (mR 17 16) rfl rfl rfl (by kernel_rfl) ?_;refine ab' (bm' _ ⟨_,_,_,rfl⟩ er her wb) ?_;rintro e wc ⟨rfl,hkc⟩;exact ⟨rfl,rfl,k0a.tr (hkb.tr hkc)⟩
     | ok tb =>
      obtain ⟨ub,rfl,hub⟩:=he;have hub:TmV (Im X wb) tb ub:=hub.mono (Im.cn (w:=wa) hXa hkb);obtain ⟨aub,cub,rfl,_,_⟩:=id hub;have htbF:=fh' hB (N:=(cx.length:Int)) (by omega) (by omega) hfam (b:=(j:Int)) (by omega) (by rw [hxD']; omega) hPSF (by rw [e1]; exact hPSl) hmoF hrb;refine ⟨.inl hkb,?_⟩;refine rP τok [13,14] 2 (mR 17 15) hkb ?_;refine am' τok 15 1 (mR 17 16) rfl rfl rfl (by kernel_rfl) ?_;refine ab' (aC' _ ⟨_,_,_,rfl⟩ wb) ?_;rintro e wc ⟨rfl,hkc⟩;have kac:=hkb.tr hkc;refine ⟨.inl kac,?_⟩;refine am' τok 16 0 (mR 17 17) rfl rfl rfl (by kernel_rfl) ?_;simp only [puJ,bS'] at hres;have hXc:=xU hXa kac;refine ab' (dn' (k:=k) hB hr hrc hXc hbj hcx hcl (hJa.tr kac) (by omega) hbrF hmb1 (by omega) htbF (hc.mono fun _ _ _ h=>(upa _ _ _ h).tr kac) (hzbT.mono fun _ _ _ h=>h.tr kac) (hub.mono fun _ _ _ h=>h.tr hkc)) ?_;rintro e wd he;rcases he.cs with ⟨er,hqd,rfl,hkd⟩ | ⟨qd,ud,hqd,rfl,hud,hJd,hkd⟩
      ·rw [hqd] at hres
       obtain rfl:.error er = RES:=hres;exact ⟨rfl,rfl,(k0a.tr kac).tq hkd⟩
      rw [hqd] at hres;simp only [bS'] at hres;have hqdn:=(bP' hr hqd).2;have kad:Kp [bj] wa wd:=(kac.weak (by simp)).tq hkd;refine ⟨.inr (by kernel_rfl),?_⟩;refine dP ?_;refine i6 ?_;exact ⟨(j + 1,qd.2),by simp only; omega,rfl,⟨rfl,rfl,rfl,rfl,rfl,rfl,rfl,rfl,rfl,rfl,trivial⟩,by show j + 1 <= _; omega,by simp only; omega,hJd,k0a.tq kad,k3a.tq kad,k5a.tq kad,hres⟩
    have g7:¬ (j:Int) < (rest.length:Int):=g7;rw [JY (by omega)] at hres;simp only [aE',bS'] at hres;rw [hKK] at hres;obtain ⟨avx,cvx,vsx,pvx,_,hslx,hpcx⟩:=(hvix.mono up5a).vals;injection pvx with q1 q2 q3
    subst q1 q3;have hlx:=hpcx.1;rw [<- hlx];refine ab' (eg' (C:=Im X wa) (w:=wa) (Im.sub X wa) vsx _ _ hslx (by omega)) ?_;rintro e wb ⟨⟨vcl,rfl,hOcl⟩,hkb⟩;have hVcl:VsO (Im X wa) wa.heap.size wb vcl IX:=⟨vsx,hOcl,hpcx.mono fun b o t h=>⟨.inl h,fun e=>by
     have h1:=(hOcl.block b e.symm).1;have h2:=h.hold;omega⟩⟩
    obtain ⟨acl,ccl,hcl'⟩:=hVcl.len;subst hcl';refine fill [.slice azs (row sc).length czs] rfl ?_;refine new fun bc wc hbc hbc' hsc' hkc=>?_;have kac:=hkb.tr hkc;refine (hVcl.kp hkc).one (fun _ _ _ h=>h.hold) ((Im.sub X wa).tr kac) (z:=sc) ((hzscT.mono up3a).mono fun b o t h=>⟨.inl h,fun e=>by
     have h1:=(hVcl.blk b e.symm).1;have h2:=h.hold;omega⟩) (by omega) hbc' fun vd wd hVd hkd=>?_
    have hbkc:=(hVcl.kp hkc).blk;have kad:Kp [] wa wd:=kac.trans hkd fun y hy hl=>by
     have:=(hbkc y (by simpa using hy)).1;omega
    have hVdt:=hVd.tms (by simp; omega);obtain ⟨avd,cvd,hvd⟩:=hVd.len;subst hvd;obtain ⟨rz,hrz⟩:∃ r,aH' mo (IX ++ [sc]) = r:=⟨_,rfl⟩
    have hysF:∀ y ∈ IX ++ [sc],Ft (QB B) (cx.length:Int) y:=fun y hy=>by
     rcases List.mem_append.1 hy with hy | hy
     ·exact hIXF y hy
     ·obtain rfl:y = sc:=by simpa using hy
      exact hscF
    have hap:=dC' (C:=Cn (Im X wa) wa wd) (w:=wd) (Cn.sub (Im.sub X wa) kad) hmoF hysF (by simp; omega) ((hzmoT.mono up3a).mono fun b o t h=>.inl h) hVdt;rw [hrz] at hap hres;refine ab' hap ?_;rintro e we ⟨he,hke⟩;have kae:=kad.tr hke;cases rz with
    | error er =>
     obtain ⟨rfl,her⟩:=he;obtain rfl:.error er = RES:=hres;refine ab' (bm' _ ⟨_,_,_,rfl⟩ er her we) ?_;rintro e wf ⟨rfl,hkf⟩;exact ⟨rfl,k0a.tr (kae.tr hkf)⟩
    | ok tz =>
     obtain ⟨uz,rfl,huz⟩:=he;have huz:=(huz.mono fun b o v h=>Cn.two (D:=Im X wa) hke kad.size h).mono (Im.cn hXa kae);obtain ⟨auz,cuz,rfl,_,_⟩:=id huz;refine ab' (aC' _ ⟨_,_,_,rfl⟩ we) ?_;rintro e wf ⟨rfl,hkf⟩;have kaf:=kae.tr hkf;obtain rfl:.ok (tz,m) = RES:=hres;exact ⟨⟨_,rfl,huz.mono fun _ _ _ h=>h.tr hkf,hJa.tr kaf⟩,k0a.tr kaf⟩
  ·have g6:¬ q7.1 = 1:=g6
   rw [if_neg (fun h=>g6 h.2)] at hRES;simp only [bS'] at hRES;rw [if_neg (by simp)] at hRES;refine lp τok (σ:=Nat × Nat) (fun q=>[(0,pt bj),(1,.slice ac (cx.map bdR).length cc),(6,pt b6),(10,.slice azm (row mo).length czm),(11,.slice azs (row sc).length czs),(15,.slice aps PS.length cps),(16,.slice aix IX.length cix),(119,.slice are rest.length cre),(120,iV (rest.length:Int)),(121,iV (q.1:Int))])
    (fun q w'=>q.1 <= rest.length /\ q.2 <= n /\ JudC (Im X w') w' bj B q.2 /\ Kp [bj] w w' /\ Kp [bj] w3 w' /\ Kp [bj] w5 w' /\ bdJ (aE' B rc cx nd.a PS mo q.1 (rest.drop q.1) q.2) KK = RES) (fun q=>rest.length - q.1) (0,q7.2) rfl
    ⟨rfl,rfl,rfl,rfl,rfl,rfl,rfl,rfl,rfl,rfl,trivial⟩ ⟨KV _,by simp only; omega,hJ7,k07,k37,k57,by simpa using hRES⟩ ?_
   clear hRES
   rintro ⟨j,m⟩ wa ⟨hj,hmn,hJa,k0a,k3a,k5a,hres⟩;simp only at hj hmn hJa hres;have upa:=Im.kb k0a hbj;have up3a:=Im.kb k3a hbj;have up5a:=Im.kb k5a hbj;have hXa:=xU hX k0a;refine ac' (fun g7=>?_) (fun g7=>?_)
   ·have g7:(j:Int) < (rest.length:Int):=g7
    obtain ⟨br,hbr,hd⟩:=af' (l:=rest) (k:=j) (by omega);rw [hd] at hres;simp only [aE'] at hres;have hbrm:=hrestm br (JQ hbr);obtain ⟨hmb1,hmb2⟩:=hm.kid hbrm;have hbrF:=kf br hbrm;obtain ⟨bb,ob,cb,pb,zb,hzb,hzbT⟩:=(hvre.mono up3a).get hbr;injection pb with q1 q2 q3
    subst q1 q3;obtain ⟨azb,czb,rfl,_,_⟩:=id hzbT;obtain ⟨v1,v2,v3,hJb,hO,hE,hP⟩:=id hJa;have h6a:=h6.kp k3a (by simpa using hne6);refine ix j rfl (by omega) ?_;refine ld (Im.sub X wa _ _ _ hzb).cell ?_;refine cO' τok (fun z=>Kp [] wa z) ?_;refine rP τok (rg 0 12) 5 (mR 17 12) (kQd wa) ?_;refine dP' [iV B.vars,v1,v2,iV B.nat,v3] rfl (fun j u hj=>by
     refine hJb.cl ?_;rw [KW]
     match j,hj with
     | 0,hj=>exact hj
     | 1,hj=>exact hj
     | 2,hj=>exact hj
     | 3,hj=>exact hj
     | 4,hj=>exact hj
     | j + 5,hj=>cases hj) ?_
    refine lk h6a ?_;refine am' τok 12 4 (mR 17 13) rfl rfl rfl (by kernel_rfl) ?_;obtain ⟨rb,hrb⟩:∃ r,bZ' B nd.a (j:Int) PS mo = r:=⟨_,rfl⟩
    have hbrt:=fG' (C:=Im X wa) (w:=(dr wa)) hB (Im.sub X wa) (fun _ _ _ h=>h.hold) (vb:=.agg #[iV B.vars,v1,v2,iV B.nat,v3]) ⟨v1,v2,v3,rfl,hO,hE,hP⟩ (N:=(cx.length:Int)) (by omega) (by omega) hfam (b:=(j:Int)) (by omega) (by rw [hxD']; omega) hPSF (by rw [e1]; exact hPSl) hmoF (hvps.mono up5a) (hzmoT.mono up3a);rw [hrb] at hbrt hres;refine ab' hbrt ?_;rintro e wb ⟨he,hkb⟩;have hkb:Kp [] wa wb:=hkb.rd;cases rb with
    | error er =>
     obtain ⟨rfl,her⟩:=he;obtain rfl:.error er = RES:=hres;refine ⟨.inl hkb,?_⟩;refine rP τok [13,14] 2 (mR 17 15) hkb ?_;refine am' τok 15 1 (mR 17 16) rfl rfl rfl (by kernel_rfl) ?_;refine ab' (bm' _ ⟨_,_,_,rfl⟩ er her wb) ?_;rintro e wc ⟨rfl,hkc⟩;exact ⟨rfl,rfl,k0a.tr (hkb.tr hkc)⟩
    | ok tb =>
     obtain ⟨ub,rfl,hub⟩:=he;have hub:TmV (Im X wb) tb ub:=hub.mono (Im.cn (w:=wa) hXa hkb);obtain ⟨aub,cub,rfl,_,_⟩:=id hub;have htbF:=fh' hB (N:=(cx.length:Int)) (by omega) (by omega) hfam (b:=(j:Int)) (by omega) (by rw [hxD']; omega) hPSF (by rw [e1]; exact hPSl) hmoF hrb;refine ⟨.inl hkb,?_⟩;refine rP τok [13,14] 2 (mR 17 15) hkb ?_;refine am' τok 15 1 (mR 17 16) rfl rfl rfl (by kernel_rfl) ?_;refine ab' (aC' _ ⟨_,_,_,rfl⟩ wb) ?_;rintro e wc ⟨rfl,hkc⟩;have kac:=hkb.tr hkc;refine ⟨.inl kac,?_⟩;refine am' τok 16 0 (mR 17 17) rfl rfl rfl (by kernel_rfl) ?_;simp only [puJ,bS'] at hres;have hXc:=xU hXa kac;refine ab' (dn' (k:=k) hB hr hrc hXc hbj hcx hcl (hJa.tr kac) (by omega) hbrF hmb1 (by omega) htbF (hc.mono fun _ _ _ h=>(upa _ _ _ h).tr kac) (hzbT.mono fun _ _ _ h=>h.tr kac) (hub.mono fun _ _ _ h=>h.tr hkc)) ?_;rintro e wd he;rcases he.cs with ⟨er,hqd,rfl,hkd⟩ | ⟨qd,ud,hqd,rfl,hud,hJd,hkd⟩
     ·rw [hqd] at hres
      obtain rfl:.error er = RES:=hres;exact ⟨rfl,rfl,(k0a.tr kac).tq hkd⟩
     rw [hqd] at hres;simp only [bS'] at hres;have hqdn:=(bP' hr hqd).2;have kad:Kp [bj] wa wd:=(kac.weak (by simp)).tq hkd;refine ⟨.inr (by kernel_rfl),?_⟩;refine dP ?_;refine i6 ?_;exact ⟨(j + 1,qd.2),by simp only; omega,rfl,⟨rfl,rfl,rfl,rfl,rfl,rfl,rfl,rfl,rfl,rfl,trivial⟩,by show j + 1 <= _; omega,by simp only; omega,hJd,k0a.tq kad,k3a.tq kad,k5a.tq kad,hres⟩
   have g7:¬ (j:Int) < (rest.length:Int):=g7;rw [JY (by omega)] at hres;simp only [aE',bS'] at hres;rw [hKK] at hres;obtain ⟨avx,cvx,vsx,pvx,_,hslx,hpcx⟩:=(hvix.mono up5a).vals;injection pvx with q1 q2 q3
   subst q1 q3;have hlx:=hpcx.1;rw [<- hlx];refine ab' (eg' (C:=Im X wa) (w:=wa) (Im.sub X wa) vsx _ _ hslx (by omega)) ?_;rintro e wb ⟨⟨vcl,rfl,hOcl⟩,hkb⟩;have hVcl:VsO (Im X wa) wa.heap.size wb vcl IX:=⟨vsx,hOcl,hpcx.mono fun b o t h=>⟨.inl h,fun e=>by
    have h1:=(hOcl.block b e.symm).1;have h2:=h.hold;omega⟩⟩
   obtain ⟨acl,ccl,hcl'⟩:=hVcl.len;subst hcl';refine fill [.slice azs (row sc).length czs] rfl ?_;refine new fun bc wc hbc hbc' hsc' hkc=>?_;have kac:=hkb.tr hkc;refine (hVcl.kp hkc).one (fun _ _ _ h=>h.hold) ((Im.sub X wa).tr kac) (z:=sc) ((hzscT.mono up3a).mono fun b o t h=>⟨.inl h,fun e=>by
    have h1:=(hVcl.blk b e.symm).1;have h2:=h.hold;omega⟩) (by omega) hbc' fun vd wd hVd hkd=>?_
   have hbkc:=(hVcl.kp hkc).blk;have kad:Kp [] wa wd:=kac.trans hkd fun y hy hl=>by
    have:=(hbkc y (by simpa using hy)).1;omega
   have hVdt:=hVd.tms (by simp; omega);obtain ⟨avd,cvd,hvd⟩:=hVd.len;subst hvd;obtain ⟨rz,hrz⟩:∃ r,aH' mo (IX ++ [sc]) = r:=⟨_,rfl⟩
   have hysF:∀ y ∈ IX ++ [sc],Ft (QB B) (cx.length:Int) y:=fun y hy=>by
    rcases List.mem_append.1 hy with hy | hy
    ·exact hIXF y hy
    ·obtain rfl:y = sc:=by simpa using hy
     exact hscF
   have hap:=dC' (C:=Cn (Im X wa) wa wd) (w:=wd) (Cn.sub (Im.sub X wa) kad) hmoF hysF (by simp; omega) ((hzmoT.mono up3a).mono fun b o t h=>.inl h) hVdt;rw [hrz] at hap hres;refine ab' hap ?_;rintro e we ⟨he,hke⟩;have kae:=kad.tr hke;cases rz with
   | error er =>
    obtain ⟨rfl,her⟩:=he;obtain rfl:.error er = RES:=hres;refine ab' (bm' _ ⟨_,_,_,rfl⟩ er her we) ?_;rintro e wf ⟨rfl,hkf⟩;exact ⟨rfl,k0a.tr (kae.tr hkf)⟩
   | ok tz =>
    obtain ⟨uz,rfl,huz⟩:=he;have huz:=(huz.mono fun b o v h=>Cn.two (D:=Im X wa) hke kad.size h).mono (Im.cn hXa kae);obtain ⟨auz,cuz,rfl,_,_⟩:=id huz;refine ab' (aC' _ ⟨_,_,_,rfl⟩ we) ?_;rintro e wf ⟨rfl,hkf⟩;have kaf:=kae.tr hkf;obtain rfl:.ok (tz,m) = RES:=hres;exact ⟨⟨_,rfl,huz.mono fun _ _ _ h=>h.tr hkf,hJa.tr kaf⟩,k0a.tr kaf⟩
 ·have g5:¬ s.n.a = 0:=g5
  rw [if_neg (fun h=>g5 h.1)] at hRES;simp only [bS'] at hRES;rw [if_neg (by simp)] at hRES;refine lp τok (σ:=Nat × Nat) (fun q=>[(0,pt bj),(1,.slice ac (cx.map bdR).length cc),(6,pt b6),(10,.slice azm (row mo).length czm),(11,.slice azs (row sc).length czs),(15,.slice aps PS.length cps),(16,.slice aix IX.length cix),(119,.slice are rest.length cre),(120,iV (rest.length:Int)),(121,iV (q.1:Int))])
   (fun q w'=>q.1 <= rest.length /\ q.2 <= n /\ JudC (Im X w') w' bj B q.2 /\ Kp [bj] w w' /\ Kp [bj] w3 w' /\ Kp [bj] w5 w' /\ bdJ (aE' B rc cx nd.a PS mo q.1 (rest.drop q.1) q.2) KK = RES) (fun q=>rest.length - q.1) (0,q7.2) rfl
   ⟨rfl,rfl,rfl,rfl,rfl,rfl,rfl,rfl,rfl,rfl,trivial⟩ ⟨KV _,by simp only; omega,hJ7,k07,k37,k57,by simpa using hRES⟩ ?_
  clear hRES
  rintro ⟨j,m⟩ wa ⟨hj,hmn,hJa,k0a,k3a,k5a,hres⟩;simp only at hj hmn hJa hres;have upa:=Im.kb k0a hbj;have up3a:=Im.kb k3a hbj;have up5a:=Im.kb k5a hbj;have hXa:=xU hX k0a;refine ac' (fun g7=>?_) (fun g7=>?_)
  ·have g7:(j:Int) < (rest.length:Int):=g7
   obtain ⟨br,hbr,hd⟩:=af' (l:=rest) (k:=j) (by omega);rw [hd] at hres;simp only [aE'] at hres;have hbrm:=hrestm br (JQ hbr);obtain ⟨hmb1,hmb2⟩:=hm.kid hbrm;have hbrF:=kf br hbrm;obtain ⟨bb,ob,cb,pb,zb,hzb,hzbT⟩:=(hvre.mono up3a).get hbr;injection pb with q1 q2 q3
   subst q1 q3;obtain ⟨azb,czb,rfl,_,_⟩:=id hzbT;obtain ⟨v1,v2,v3,hJb,hO,hE,hP⟩:=id hJa;have h6a:=h6.kp k3a (by simpa using hne6);refine ix j rfl (by omega) ?_;refine ld (Im.sub X wa _ _ _ hzb).cell ?_;refine cO' τok (fun z=>Kp [] wa z) ?_;refine rP τok (rg 0 12) 5 (mR 17 12) (kQd wa) ?_;refine dP' [iV B.vars,v1,v2,iV B.nat,v3] rfl (fun j u hj=>by
    refine hJb.cl ?_;rw [KW]
    match j,hj with
    | 0,hj=>exact hj
    | 1,hj=>exact hj
    | 2,hj=>exact hj
    | 3,hj=>exact hj
    | 4,hj=>exact hj
    | j + 5,hj=>cases hj) ?_
   refine lk h6a ?_;refine am' τok 12 4 (mR 17 13) rfl rfl rfl (by kernel_rfl) ?_;obtain ⟨rb,hrb⟩:∃ r,bZ' B nd.a (j:Int) PS mo = r:=⟨_,rfl⟩
   have hbrt:=fG' (C:=Im X wa) (w:=(dr wa)) hB (Im.sub X wa) (fun _ _ _ h=>h.hold) (vb:=.agg #[iV B.vars,v1,v2,iV B.nat,v3]) ⟨v1,v2,v3,rfl,hO,hE,hP⟩ (N:=(cx.length:Int)) (by omega) (by omega) hfam (b:=(j:Int)) (by omega) (by rw [hxD']; omega) hPSF (by rw [e1]; exact hPSl) hmoF (hvps.mono up5a) (hzmoT.mono up3a);rw [hrb] at hbrt hres;refine ab' hbrt ?_;rintro e wb ⟨he,hkb⟩;have hkb:Kp [] wa wb:=hkb.rd;cases rb with
   | error er =>
    obtain ⟨rfl,her⟩:=he;obtain rfl:.error er = RES:=hres;refine ⟨.inl hkb,?_⟩;refine rP τok [13,14] 2 (mR 17 15) hkb ?_;refine am' τok 15 1 (mR 17 16) rfl rfl rfl (by kernel_rfl) ?_;refine ab' (bm' _ ⟨_,_,_,rfl⟩ er her wb) ?_;rintro e wc ⟨rfl,hkc⟩;exact ⟨rfl,rfl,k0a.tr (hkb.tr hkc)⟩
   | ok tb =>
    obtain ⟨ub,rfl,hub⟩:=he;have hub:TmV (Im X wb) tb ub:=hub.mono (Im.cn (w:=wa) hXa hkb);obtain ⟨aub,cub,rfl,_,_⟩:=id hub;have htbF:=fh' hB (N:=(cx.length:Int)) (by omega) (by omega) hfam (b:=(j:Int)) (by omega) (by rw [hxD']; omega) hPSF (by rw [e1]; exact hPSl) hmoF hrb;refine ⟨.inl hkb,?_⟩;refine rP τok [13,14] 2 (mR 17 15) hkb ?_;refine am' τok 15 1 (mR 17 16) rfl rfl rfl (by kernel_rfl) ?_;refine ab' (aC' _ ⟨_,_,_,rfl⟩ wb) ?_;rintro e wc ⟨rfl,hkc⟩;have kac:=hkb.tr hkc;refine ⟨.inl kac,?_⟩;refine am' τok 16 0 (mR 17 17) rfl rfl rfl (by kernel_rfl) ?_;simp only [puJ,bS'] at hres;have hXc:=xU hXa kac;refine ab' (dn' (k:=k) hB hr hrc hXc hbj hcx hcl (hJa.tr kac) (by omega) hbrF hmb1 (by omega) htbF (hc.mono fun _ _ _ h=>(upa _ _ _ h).tr kac) (hzbT.mono fun _ _ _ h=>h.tr kac) (hub.mono fun _ _ _ h=>h.tr hkc)) ?_;rintro e wd he;rcases he.cs with ⟨er,hqd,rfl,hkd⟩ | ⟨qd,ud,hqd,rfl,hud,hJd,hkd⟩
    ·rw [hqd] at hres
     obtain rfl:.error er = RES:=hres;exact ⟨rfl,rfl,(k0a.tr kac).tq hkd⟩
    rw [hqd] at hres;simp only [bS'] at hres;have hqdn:=(bP' hr hqd).2;have kad:Kp [bj] wa wd:=(kac.weak (by simp)).tq hkd;refine ⟨.inr (by kernel_rfl),?_⟩;refine dP ?_;refine i6 ?_;exact ⟨(j + 1,qd.2),by simp only; omega,rfl,⟨rfl,rfl,rfl,rfl,rfl,rfl,rfl,rfl,rfl,rfl,trivial⟩,by show j + 1 <= _; omega,by simp only; omega,hJd,k0a.tq kad,k3a.tq kad,k5a.tq kad,hres⟩
  have g7:¬ (j:Int) < (rest.length:Int):=g7;rw [JY (by omega)] at hres;simp only [aE',bS'] at hres;rw [hKK] at hres;obtain ⟨avx,cvx,vsx,pvx,_,hslx,hpcx⟩:=(hvix.mono up5a).vals;injection pvx with q1 q2 q3
  subst q1 q3;have hlx:=hpcx.1;rw [<- hlx];refine ab' (eg' (C:=Im X wa) (w:=wa) (Im.sub X wa) vsx _ _ hslx (by omega)) ?_;rintro e wb ⟨⟨vcl,rfl,hOcl⟩,hkb⟩;have hVcl:VsO (Im X wa) wa.heap.size wb vcl IX:=⟨vsx,hOcl,hpcx.mono fun b o t h=>⟨.inl h,fun e=>by
   have h1:=(hOcl.block b e.symm).1;have h2:=h.hold;omega⟩⟩
  obtain ⟨acl,ccl,hcl'⟩:=hVcl.len;subst hcl';refine fill [.slice azs (row sc).length czs] rfl ?_;refine new fun bc wc hbc hbc' hsc' hkc=>?_;have kac:=hkb.tr hkc;refine (hVcl.kp hkc).one (fun _ _ _ h=>h.hold) ((Im.sub X wa).tr kac) (z:=sc) ((hzscT.mono up3a).mono fun b o t h=>⟨.inl h,fun e=>by
   have h1:=(hVcl.blk b e.symm).1;have h2:=h.hold;omega⟩) (by omega) hbc' fun vd wd hVd hkd=>?_
  have hbkc:=(hVcl.kp hkc).blk;have kad:Kp [] wa wd:=kac.trans hkd fun y hy hl=>by
   have:=(hbkc y (by simpa using hy)).1;omega
  have hVdt:=hVd.tms (by simp; omega);obtain ⟨avd,cvd,hvd⟩:=hVd.len;subst hvd;obtain ⟨rz,hrz⟩:∃ r,aH' mo (IX ++ [sc]) = r:=⟨_,rfl⟩
  have hysF:∀ y ∈ IX ++ [sc],Ft (QB B) (cx.length:Int) y:=fun y hy=>by
   rcases List.mem_append.1 hy with hy | hy
   ·exact hIXF y hy
   ·obtain rfl:y = sc:=by simpa using hy
    exact hscF
  have hap:=dC' (C:=Cn (Im X wa) wa wd) (w:=wd) (Cn.sub (Im.sub X wa) kad) hmoF hysF (by simp; omega) ((hzmoT.mono up3a).mono fun b o t h=>.inl h) hVdt;rw [hrz] at hap hres;refine ab' hap ?_;rintro e we ⟨he,hke⟩;have kae:=kad.tr hke;cases rz with
  | error er =>
   obtain ⟨rfl,her⟩:=he;obtain rfl:.error er = RES:=hres;refine ab' (bm' _ ⟨_,_,_,rfl⟩ er her we) ?_;rintro e wf ⟨rfl,hkf⟩;exact ⟨rfl,k0a.tr (kae.tr hkf)⟩
  | ok tz =>
   obtain ⟨uz,rfl,huz⟩:=he;have huz:=(huz.mono fun b o v h=>Cn.two (D:=Im X wa) hke kad.size h).mono (Im.cn hXa kae);obtain ⟨auz,cuz,rfl,_,_⟩:=id huz;refine ab' (aC' _ ⟨_,_,_,rfl⟩ we) ?_;rintro e wf ⟨rfl,hkf⟩;have kaf:=kae.tr hkf;obtain rfl:.ok (tz,m) = RES:=hres;exact ⟨⟨_,rfl,huz.mono fun _ _ _ h=>h.tr hkf,hJa.tr kaf⟩,k0a.tr kaf⟩
end
end Go.Proofs.YtpealcfjbcpoiaaGreat
