import Derived.Test.YtdfeclpphaccnaaGreatMs13
set_option linter.all false
set_option maxRecDepth 100000
set_option maxHeartbeats 4000000
open Go.Proofs Go.Proofs.Tryz Cd Go.Wx Lv Tm
namespace Go.Q
section
variable{B:ak}{cx:Ctx}{t:Tr}{n g:Nat}{rs:RcS}{rc:RcJ}
variable(hS:dG B)(hR:cT B=0)(hB:GoodB B)(hcx:CxOk B cx)(hcl:cx.length<=260)(ht:Ft (QB B) (cx.length:Int) t)(hfg:Fg rs rc)(hr:cG B rc)
include hS hR hB hcx hcl ht hfg hr
theorem Pb(b5:t.n.op=11)(hn:n<=100000)(c6:qX B rs g)(hg:t.n.a.toNat*5000+4096<=g)(hT:∀i,i<(kidsT t).length ->∀n,n<=100000 ->ec B rs cx (kidD t i) n):
  VP prog 104 103 (cC B n 0) (dS B (smatch B rs cx t.n (kidsT t) n)) [aH (cx.map aA),ah (row t),bD ((kidsT t).map row)] (qU (smatch B rs cx t.n (kidsT t) n)):=by
 obtain⟨lk,i4,i1,kf⟩:=mc ht b5;have wt:=aC ht;have ha:=iS ht.node' (.inr b5);obtain⟨i0,x,s,ps,qi,ei,_,hi,a5,hF⟩:=hB.fam ha (KJ _);obtain⟨e1,e2,e3⟩:=hF.ps_eq hi;rw[<- ei]at e1 e2 e3;have i2:=kW hB ha;generalize o:smatch B rs cx t.n (kidsT t) n=K;unfold smatch Bx at o;simp only at o;rw[e1,e2,e3,a5]at o;have c7:(kidsT t).getD 0 (varX 0)=kidD t 0:=rfl;have c8:(kidsT t).getD 1 (varX 0)=kidD t 1:=rfl;rw[c7,c8]at o;have i5:=hF.lp;have i7:=hF.li;have eK:=au (λt=>[ah t]) ((kidsT t).map row);have i8:=au row (kidsT t);have i9:=au aA cx;have l1:=au cd x.ctors;have l2:=au (λt=>[ah t]) x.params;have l3:=KG List.length hF.params;have l4:=au (λt=>[ah t]) x.indices;have l5:=KG List.length hF.indices;rw[KF]at l3 l5;obtain⟨F,a2⟩:∃k,ps.length=k:=⟨_,rfl⟩
 obtain⟨C,c9⟩:∃k,qi.length=k:=⟨_,rfl⟩
 rw[a2,c9]at o;have c':=(cq wt (k:=0)).1;have d':=(cq wt (k:=1)).1;have k0:=kf _ (JQ c');have k1:=kf _ (JQ d');refine aP (r:=.ok (_,_)) 337 [.tmp 8] τok func104 ?_;refine aD<|aD<|aI 0 (aL wt) ?_;refine aD<|de i0 hi ?_ (hi:=ei);refine aD<|aD<|aD<|az 1 (aF wt) ?_;have s1:=hT 1 Uo n hn;unfold ec at s1;cases e4:rs cx (kidD t 1) n with
 |error e=>
  have D:=hr.er _ _ _ _ (pz hfg e4);rw[e4]at s1;simp only[e4,iK]at o;subst o;refine ax s1 ?_;refine ax (tz e.2 D _ _) ?_;exact aD<|vE D<|eP9
 |ok q=>
 obtain⟨y,m⟩:=q;have fy:=hr.ft _ _ _ _ hcx hcl k1 (kt hfg e4);have hm:=hr.le _ _ _ _ (kt hfg e4);simp only at fy hm;rw[e4]at s1;simp only[e4,jS]at o;have hW:=qW hS hB hcx hcl fy (n:=m) Uo;refine ax s1 ?_;cases e5:gf B cx y m with
 |error e=>
  have D:=ki (dL (ik y m) e5);rw[e5]at hW;simp only[e5,iK]at o;subst o;refine ax hW ?_;exact aD<|vE D<|eP9
 |ok q=>
 obtain⟨z,m2⟩:=q;obtain⟨i3,e0,fz⟩:=jb hB hcx fy (eb (ik y m) e5);simp only at fz e0;rw[e5]at hW;simp only[e5,jS]at o;refine ax hW ?_;refine aD<|v0<|aD<|ae (AI (aC fz)) ?_;have wh:=aC fz.head;have l6:=au (λt=>[ah t]) ((argsT z).map row);have l7:=au row (argsT z);have i':=oG (aC fz) 4096 fz.len;refine aD<|aI 0 (aL wh) ?_;have P:(headT z).n.op≠9 \/(headT z).n.a≠t.n.a \/(argsT z).length≠F+C -> .error (14,m2)=K:=λh=>by
  rw[KX h]at o;exact o
 refine af (λg1=>?_) (λg1=>?_)
 ·have:=P (.inl g1)
  subst this;exact eP9
 refine aI 0 (aL wh) ?_;refine af (λg2=>?_) (λg2=>?_)
 ·have:=P (.inr (.inl g2))
  subst this;exact eP9
 refine vi ?_;refine af (λg3=>?_) (λg3=>?_)
 ·have g3:¬ ((((argsT z).map row).map λt=>[ah t]).length:Int)=((x.params.map λt=>[ah t]).length:Int)+((x.indices.map λt=>[ah t]).length:Int):=g3
  have:=P (.inr (.inr Uo));subst this;exact eP9
 have g3:¬ ¬ ((((argsT z).map row).map λt=>[ah t]).length:Int)=((x.params.map λt=>[ah t]).length:Int)+((x.indices.map λt=>[ah t]).length:Int):=g3;have j0:(headT z).n.op=9:=QY g1;have j1:(headT z).n.a=t.n.a:=QY g2;rw[KY Uo]at o;refine aD<|vi ?_;refine af (λg4=>?_) (λg4=>?_)
 ·have g4:¬ ((((kidsT t).map row).map λt=>[ah t]).length:Int)-2=((x.ctors.map cd).length:Int):=g4
  rw[KX (by rw[VK];omega)]at o;subst o;exact eP9
 have g4:¬ ¬ ((((kidsT t).map row).map λt=>[ah t]).length:Int)-2=((x.ctors.map cd).length:Int):=g4;rw[KY (by rw[VK];omega)]at o;obtain⟨H,W⟩:∃l,(argsT z).take F=l:=⟨_,rfl⟩
 have a6:H.length=F:=by rw[<- W,VJ];omega
 have b6:∀k:Nat,k<F ->∃p,(argsT z)[k]?=some p/\H.getD k (varX 0)=p/\Ft (QB B) (cx.length:Int) p:=λk hk=>by
  obtain⟨p,hp,_⟩:=ay (l:=argsT z) (k:=k);refine⟨p,hp,?_,fz.args p (JQ hp)⟩;rw[<- W,QK,List.getElem?_take,KX hk,hp]
  rfl
 have a7:∀y∈H,Ft (QB B) (cx.length:Int) y:=λy M=>fz.args y (List.mem_of_mem_take (by rw[W];exact M));rw[W]at o;refine aD<|az 0 (aF wt) ?_;have s0:=hT 0 Uo m2 Uo;unfold ec at s0;refine ax s0 ?_;refine aD<|aD ?_;obtain⟨KK,b7⟩:∃f:Int ->Nat ->RS Tr,f=λb8 n=>aY (if s.n.a=0/\b8=1 then nG B rs t.n.a n else .ok (true,n)) λs n=>if s=false then .error (17,n)else
    aY (oJ B rs cx t.n.a H (kidD t 0) 0 ((kidsT t).drop 2) n) λ_ n=>dK (aO (kidD t 0) ((argsT z).drop F++[kidD t 1])) n:=⟨_,rfl⟩
 rw[<- b7]at o;have a0:∀q,rs cx (kidD t 0) m2= .ok q ->Ft (QB B) (cx.length:Int) q.1/\q.2<=m2:=λq h=>⟨hr.ft _ _ _ _ hcx hcl k0 (kt hfg h),hr.le _ _ _ _ (kt hfg h)⟩
 have a4:∀e,rs cx (kidD t 0) m2= .error e ->e.1≠0:=λe h=>hr.er _ _ _ _ (pz hfg h)
 generalize rs cx (kidD t 0) m2=r0 at *
 refine aB τok (σ:=Nat×Ctx×RS Tr) [(0,_),(1,_),(3,_),(9,_),(10,_),(11,_),(12,_),(15,_)] [(10,_)] (λq=>[(16,vP (qU q.2.2)),(17,vP (aH (q.2.1.map aA))),(18,vI q.1)]) (λq=>[(0,.st 1 103 ((dS B q.2.2).map .p))])
  (λq=>q.1<=C+1/\CxOk B q.2.1/\(q.2.1.length=cx.length+q.1/\q.2.1.length<=257)/\(match q.2.2 with
   | .ok p=>Ft (QB B) (q.2.1.length:Int) p.1/\p.2<=n/\aY (oI B t.n.a H C (C+1-q.1) q.1 q.2.1 p.1 p.2) KK=K
   | .error e=>q.1=0/\e.1≠0/\ .error e=K)) (λq=>C+1-q.1) (0,cx,r0) ⟨KV _,hcx,⟨rfl,by show cx.length<=257;omega⟩,(by
   cases r0 with
   |error e=>exact⟨rfl,a4 e rfl,o⟩
   |ok q=>exact⟨(a0 q rfl).1,by have:=(a0 q rfl).2;omega,o⟩)⟩ ?_ (y1:=⟨KG (λl=>some (SE.st 1 103 l)) (show (dS B r0).map AC.p=((dS B r0).map AC.p).map (AC.ren id) by rw[List.map_map];rfl),trivial⟩)
 clear o a0 a4
 rintro⟨i,A,r⟩ ⟨e6,I,⟨e',b9⟩,d⟩;simp only at e6 I e' b9 d;have j2:=au aA A;refine aj<|af (λg5=>?_) (λg5=>?_)
 ·have g5:(i:Int)<=((x.indices.map λt=>[ah t]).length:Int):=g5
  cases r with
  |error e=>
   obtain⟨_,D,d⟩:=d;subst d;refine ax (tz e.2 D _ _) ?_;exact vF D<|vE D<|eP9
  |ok p=>
  obtain⟨mm,n1⟩:=p;obtain⟨fm,a8,d⟩:=d;simp only at fm a8 d;rw[show C+1-i=(C-i)+1 by omega]at d;simp only[oI]at d;have hW:=qW hS hB I Uo fm (n:=n1) Uo;cases X:gf B A mm n1 with
  |error e=>
   have D:=ki (dL (ik mm n1) X);rw[X]at hW;simp only[X,iK]at d;subst d;refine ax hW ?_;exact vF D<|vE D<|eP9
  |ok q=>
  obtain⟨f,R⟩:=q;obtain⟨ci,a9,ff⟩:=jb hB I fm (eb (ik mm n1) X);simp only at ff a9;have wf:=aC ff;rw[X]at hW;simp only[X,jS]at d;refine ax hW ?_;refine vz<|aI 0 (aL wf) ?_;refine af (λZ=>?_) (λZ=>?_)
  ·rw[KX ((oK wf UO).2 Z),iK]at d
   subst d;refine vy (p:=(16:Int)≠0) ?_ UO;exact eP9
  rw[KY (λh=>Z ((oK wf UO).1 h))]at d;have Z:f.n.op=4:=QY Z;rw[(ij (x:=f) Uo).1]at d;refine v0<|ae (iH wf) ?_;obtain⟨fl,f0,f1⟩:=dq ff (.inl Z);refine af (λg7=>?m1) (λg7=>?m2)
  case' m1=>
   have g7:(i:Int)<((x.indices.map λt=>[ah t]).length:Int):=g7;obtain⟨q0,a',_⟩:=ay (l:=qi) (k:=i);have f':(kc B t.n.a).getD i (varX 0)=q0:=by rw[e2,QK,a'];rfl
   have b0:jP B t.n.a H i C=cQ H (i:Int) F q0:=by
    unfold jP;rw[KX Uo,f',a6]
   rw[b0]at d;have g0:Ft (QB B) ((cx.length:Int)+F+i) q0:=(hF.up_i hB hi a').mono (by rw[a2];omega);obtain⟨T,S⟩:∃r,cQ H (i:Int) F q0=r:=⟨_,rfl⟩
   rw[S]at d;refine az i (x:=row q0) (by rw[hF.indices,JX,a'];rfl) ?_;refine vi ?_;refine aB τok (σ:=Nat×Tr×Int) [(0,_),(1,_),(3,_),(9,_),(10,_),(11,_),(12,_),(15,_),(17,_),(18,_),(19,_)] [(0,_),(10,_)] (λq=>[(20,vP (ah (row q.2.1))),(21,vI q.2.2)]) (λ_=>[])
    (λq=>q.1<=F/\q.2.2=(q.1:Int)-1/\Ft (QB B) ((cx.length:Int)+q.1+i) q.2.1/\cQ H (i:Int) q.1 q.2.1=T) (λq=>q.1) (F,q0,((x.params.map λt=>[ah t]).length:Int)-1) ⟨KJ _,Us,g0,S⟩ ?_
   clear S
   rintro⟨k,w,v⟩ ⟨hk,hv,fw,hw⟩;simp only at hk hv fw hw;refine aj<|af (λL=>?_) (λL=>?_)
   ·have L:v≥0:=L
    obtain⟨k,rfl⟩:∃j,k=j+1:=⟨k-1,Uo⟩
    obtain rfl:v=(k:Int):=Uo
    simp only[cQ]at hw;obtain⟨p,hp,b',fp⟩:=b6 k Uo;rw[b']at hw;have b1:=fp.lift (qk B) (b:=(k:Int)) Uo Uo Uo;refine az k (x:=row p) (by rw[JX,hp];rfl) ?_;refine ae (qI (x:=p) (aC fp) (fp.small Uo) (b:=(k:Int)) (fr:=0) Uo Uo) ?_;refine ax (ip R _) ?_;refine ae (v7 (x:=w) (aC fw) (u:=aK p k 0) (aC b1) (b1.small Uo) (v:=(i:Int)) Uo) ?_;cases O:bq w (aK p k 0) (i:Int)with
    |error e=>
     have D:=jp O;rw[O]at hw;obtain rfl:.error e=T:=hw;rw[Bv,iK,iK]at d;subst d;refine ax (qV R (.inr (show e≠0 by omega)) _) ?_;rw[KX rfl];refine vy (p:=e≠0) ?_;exact eP9
    |ok w'=>
     rw[O]at hw;have hw:cQ H (i:Int) k w'=T:=hw;have g':=jk (qk B) (N:=(cx.length:Int)+k) (v:=(i:Int)) (fw.mono Uo) (b1.mono Uo) Uo Uo Uo Uo O;refine ax (ip R _) ?_;refine v0<|vi ?_;exact aw (k,w',(k:Int)-1) ⟨Us,by simp only,g'.mono Us,hw⟩
   have L:¬ v≥0:=L;obtain rfl:k=0:=Uo
   obtain rfl:.ok w=T:=hw;rw[Bu,jS]at d;have fw:Ft (QB B) (A.length:Int) w:=fw.mono Uo
  case' m2=>
   have g7:¬ (i:Int)<((x.indices.map λt=>[ah t]).length:Int):=g7;have b0:jP B t.n.a H i C=aO (.mk ⟨9,t.n.a,0⟩ []) (H.map (λp=>aK p C 0)++varsM C 0):=by
    unfold jP;rw[KY Uo]
   rw[b0]at d;have c0:Ft (QB B) (A.length:Int) (.mk ⟨9,t.n.a,0⟩ []):=pk (by simp[aG,aX];omega) (.inl rfl) (by
    simp only[QB,cw,bg];simp[ha])
   have c2:∀y∈H.map (λp=>aK p (C:Int) 0)++varsM C 0,Ft (QB B) (A.length:Int) y:=λy M=>by
    rcases List.mem_append.1 M with M|M
    ·obtain⟨p,hp,rfl⟩:=List.mem_map.1 M
     exact((a7 p hp).lift (qk B) (b:=(C:Int)) Uo Uo Uo).mono Uo
    ·exact(lY (qk B) Uo Uo y M).mono Uo
   have h0:(varsM C 0).length=C:=by simp[varsM]
   have b2:=sY (aC c0) (ys:=H.map (λp=>aK p (C:Int) 0)++varsM C 0) (λy M=>aC (c2 y M)) (by rw[JK,KF,h0];omega);have E:VC prog 157 [ah (row (.mk ⟨9,t.n.a,0⟩ [])),.sl (((H.map λp=>aK p (C:Int) 0).map row).map rP++((varsM C 0).map row).map rP)] (dg (aO (.mk ⟨9,t.n.a,0⟩ []) (H.map (λp=>aK p (C:Int) 0)++varsM C 0))):=by
    rw[<- KB,<- KB];exact b2
   have hv:=AL (n:=C) (fr:=0) Uo Uo;have h1:VO prog 158 [pI (((x.indices.map rP).length:Int)-1),pI 0] 29 1 (((varsM C 0).map row).map rP):=by
    have e:((x.indices.map rP).length:Int)-1=0+(C:Int)-1:=by
     have:(x.indices.map rP).length=x.indices.length:=au rP x.indices;omega
    rw[e];exact hv
   show VCode _ _ _ _ _;refine dC 23 1000 29 1 rfl rfl<|aB τok (σ:=Nat) [(0,_),(1,_),(3,_),(9,_),(10,_),(11,_),(12,_),(15,_),(17,_),(18,_),(19,_)] [(0,_),(10,_)] (λj=>[(23,.c (.row 1000)),(24,vI j)]) (λj=>[(1000,.rw 29 1 ((((H.take j).map λp=>aK p (C:Int) 0).map row).map rP))]) (λj=>j<=F) (λj=>F-j) 0 (KV _) ?_;intro j hj;have ej:(H.take j).length=j:=by rw[VJ];omega
   refine aj<|af (λL=>?_) (λL=>?_)
   ·have L:(j:Int)<((x.params.map λt=>[ah t]).length:Int):=L
    obtain⟨p,hp,b',fp⟩:=b6 j Uo;have h2:H[j]?=some p:=by rw[<- W,List.getElem?_take,KX Uo,hp]
    have h3:=qI (x:=p) (aC fp) (fp.small Uo) (b:=(C:Int)) (fr:=0) Uo Uo;have c3:VC prog 93 [ah (row p),pI ((x.indices.map rP).length:Int),pI 0] (.tup [ah (row (aK p (C:Int) 0)),pI 0]):=by
     have e:((x.indices.map rP).length:Int)=(C:Int):=by
      have:(x.indices.map rP).length=x.indices.length:=au rP x.indices;omega
     rw[e];exact h3
    refine az j (x:=row p) (by rw[JX,hp];rfl) ?_;refine ae c3 ?_;refine ax (ip R _) ?_;refine bi ?_ (hb:=Uk);refine vi ?_;exact aw (j+1) (by show j+1<=_;omega) (sw 1000 190) (y':=⟨KG (λl=>some (SE.rw _ _ l)) (by
     rw[dB h2,KB,KB,KB]
     rfl),trivial⟩)
   have L:¬ (j:Int)<((x.params.map λt=>[ah t]).length:Int):=L;obtain rfl:F=j:=Uo
   rw[JG Uo];refine vi ?_;refine gm h1 ?_;refine va (p:=rP) ?_ (jM _) (hb:=Uk);rcases Y:aO (.mk ⟨9,t.n.a,0⟩ []) (H.map (λp=>aK p (C:Int) 0)++varsM C 0)with e|w
   ·have D:=iX Y
    rw[Y]at E d;rw[Bv,iK,iK]at d;subst d;refine ae E ?_;refine ax (mr R (show e≠0 by omega) _) ?_;refine az 0 (aF wf) ?_;refine ax (BB R (show e≠0 by omega) _ _ _ false) ?_;have U:=jT (B:=B) R e 16;rw[KY (show ¬ e=0 by omega)]at U;refine ax U ?_;exact eP9
   rw[Y]at E d;rw[Bu,jS]at d;have fw:=gG (qk B) c0 c2 Y;refine ae E ?_;refine ax (ip R _) ?_
  all_goals
   refine az 0 (aF wf) ?_;have hC:=Hl hS hB I Uo f0 fw (n:=R) Uo false;cases O:lh B A (kidD f 0) w false R with
   |error e=>
    have D:=vO (dL (tx _ _ _ _) O);rw[O]at hC;simp only[O,iK]at d;subst d;refine ax hC ?_;have U:=jT (B:=B) e.2 e.1 16;rw[KY D]at U;refine ax U ?_;exact eP9
   |ok q=>
    obtain⟨b,n3⟩:=q;have b3:=(vL (eb (tx _ _ _ _) O)).2;simp only at b3;rw[O]at hC;simp only[O,jS]at d;cases b with
    |false=>
     rw[KY UO]at d;obtain rfl:(.error (16,n3):RS Tr)=K:=d;refine ax hC ?_;have U:=jT (B:=B) n3 0 16;rw[KX rfl]at U;refine ax U ?_;exact eP9
    |true=>
     rw[KX rfl]at d;refine ax hC ?_;refine az 0 (aF wf) ?_;refine ae (ln (cx:=A) (kidD f 0) none Uo) ?_;refine az 1 (aF wf) ?_;refine vi ?_;have h4:Ft (QB B) ((A++[(kidD f 0,none)]).length:Int) (kidD f 1):=by rw[bB];exact f1.mono Uo
     exact aw (i+1,A++[(kidD f 0,none)],.ok (kidD f 1,n3)) ⟨Us,I.snoc f0 (λx hx=>by cases hx),by rw[bB];omega,h4,Us,by simp only;rw[show C+1-(i+1)=C-i by omega];exact d⟩
 have g5:¬ (i:Int)<=((x.indices.map λt=>[ah t]).length:Int):=g5;obtain rfl:i=C+1:=Uo
 cases r with
 |error e=>exact absurd d.1 Uo
 |ok p=>
 obtain⟨mm,n1⟩:=p;obtain⟨fm,a8,d⟩:=d;simp only at fm a8 d;rw[Nat.sub_self]at d;simp only[oI]at d;refine aD ?_;have hW:=qW hS hB I Uo fm (n:=n1) Uo;cases X:gf B A mm n1 with
 |error e=>
  have D:=ki (dL (ik mm n1) X);rw[X]at hW;simp only[X,iK]at d;subst d;refine ax hW ?_;exact aD<|vF D<|aD<|vE D<|eP9
 |ok q=>
 obtain⟨f,R⟩:=q;obtain⟨ci,a9,ff⟩:=jb hB I fm (eb (ik mm n1) X);simp only at ff a9;have wf:=aC ff;rw[X]at hW;simp only[X,jS]at d;refine ax hW ?_;refine aD<|vz<|aI 0 (aL wf) ?_;refine af (λZ=>?_) (λZ=>?_)
 ·rw[KX ((oK wf UO).2 Z),iK]at d
  subst d;refine aD<|vy (p:=(16:Int)≠0) ?_ UO;exact eP9
 rw[KY (λh=>Z ((oK wf UO).1 h))]at d;have Z:f.n.op=2:=QY Z;rw[(ij (x:=f) Uo).1,jS,b7]at d;simp only at d;refine aD<|v0<|eo τok (σ:=RS Unit) [(0,_),(1,_),(3,_),(9,_),(10,_),(11,_),(15,_)] [(10,_)] (λ_=>[]) (λr=>[(0,.st 1 103 ((dS B r).map .p))])
  (λr=>(match r with
   | .ok p=>p.2<=n
   | .error e=>e.1≠0)/\aY r (λ_ n=>aY (oJ B rs cx t.n.a H (kidD t 0) 0 ((kidsT t).drop 2) n) λ_ n=>dK (aO (kidD t 0) ((argsT z).drop F++[kidD t 1])) n)=K) ?_ ?_
 ·refine aI 0 (x:=s.n) (by rw[hF.sort];exact aL (aC hF.fs)) ?_
  refine af (λg7=>?_) (λg7=>?_);rotate_left
  ·have g7:¬ s.n.a=0:=g7
   rw[KY Uo,jS,KY UO]at d;exact aw (.ok ((),R)) ⟨Us,d⟩
  have g7:s.n.a=0:=g7;refine aI 0 (aL wf) ?_;refine af (λL=>?_) (λL=>?_);rotate_left
  ·have L:¬ f.n.a=1:=L
   rw[KY Uo,jS,KY UO]at d;exact aw (.ok ((),R)) ⟨Us,d⟩
  have L:f.n.a=1:=L;rw[KX ⟨g7,L⟩]at d;have a1:=Pa hS hB hfg hr c6 (n:=R) Uo ha hg;cases O:nG B rs t.n.a R with
  |error e=>
   have D:=FB hr (dL (By hfg _ _) O);rw[O]at a1 d;rw[iK]at d;refine ax a1 ?_;have U:=jT (B:=B) e.2 e.1 17;rw[KY D]at U;refine ax U ?_;exact aw (.error e) ⟨D,d⟩
  |ok q=>
   obtain⟨b,n3⟩:=q;have b3:=Ar hB hr (eb (By hfg _ _) O);simp only at b3;rw[O]at a1 d;rw[jS]at d;cases b with
   |true=>
    rw[KY UO]at d;refine ax a1 ?_;exact aw (.ok ((),n3)) ⟨Us,d⟩
   |false=>
    rw[KX rfl]at d;refine ax a1 ?_;have U:=jT (B:=B) n3 0 17;rw[KX rfl]at U;refine ax U ?_;exact aw (.error (17,n3)) ⟨Us,d⟩
 clear d
 rintro r ⟨b4,d⟩;refine aj<|aB τok (σ:=Nat×RS Unit) [(0,_),(1,_),(3,_),(9,_),(10,_),(11,_),(15,_)] [(10,_)] (λq=>[(25,vI q.1)]) (λq=>[(0,.st 1 103 ((dS B q.2).map .p))])
  (λq=>q.1<=x.ctors.length/\(match q.2 with
   | .ok p=>p.2<=n/\aY (oJ B rs cx t.n.a H (kidD t 0) q.1 ((kidsT t).drop (2+q.1)) p.2) (λ_ n=>dK (aO (kidD t 0) ((argsT z).drop F++[kidD t 1])) n)=K
   | .error e=>e.1≠0/\ .error e=K)) (λq=>x.ctors.length-q.1) (0,r) ⟨KV _,(by
   cases r with
   |error e=>exact⟨b4,d⟩
   |ok q=>exact⟨b4,d⟩)⟩ ?_ (y1:=⟨KG (λl=>some (SE.st 1 103 l)) (show (dS B r).map AC.p=((dS B r).map AC.p).map (AC.ren id) by rw[List.map_map];rfl),trivial⟩)
 clear d b4
 rintro⟨k,r⟩ ⟨hk,d⟩;simp only at hk d;refine aj ?_;cases r with
 |error e=>
  obtain⟨D,d⟩:=d;subst d;refine af (λg1=>?_) (λg1=>?_)
  ·refine vF D ?_
   exact vE D<|eP9
  ·refine vE D ?_
   exact eP9
 |ok p=>
 obtain⟨_,m4⟩:=p;obtain⟨h5,d⟩:=d;simp only at h5 d;have c4:∀y∈(((argsT z).map row).map λt=>[ah t]),y.length=1:=λy M=>by
  obtain⟨_,_,rfl⟩:=List.mem_map.1 M
  rfl
 refine af (λg9=>?_) (λg9=>?_)
 ·have g9:(k:Int)<((x.ctors.map cd).length:Int):=g9
  refine vz ?_;obtain⟨b,hb,h6⟩:=ay (l:=kidsT t) (k:=2+k);have h7:kidD t (2+k)=b:=by
   have:=(cq wt (k:=2+k)).1;rw[hb]at this;exact(JB this).symm
  rw[h6]at d;simp only[oJ]at d;have fb:=kf _ (JQ hb);have h8:=Nm hS hR hB (N:=(cx.length:Int)) Uo Uo ha (b:=(k:Int)) Uo (by rw[a5];omega) a7 (by rw[a6,e1,a2]) k0;have V:VC prog 161 [bw B,pI t.n.a,pI (k:Int),.sl (((((argsT z).map row).map λt=>[ah t]).take F).drop 0),ah (row (kidD t 0))] (dg (jt B t.n.a (k:Int) H (kidD t 0))):=by
   rw[List.drop_zero,<- List.map_take,<- List.map_take,W];exact h8
  refine bH 0 F ?_ c4;refine az 0 (aF wt) ?_;cases Y:jt B t.n.a (k:Int) H (kidD t 0)with
  |error e=>
   have D:=Am Y;rw[Y]at V d;rw[Bv,iK,iK]at d;refine ae V ?_;refine ax (mr m4 (show e≠0 by omega) _) ?_;refine vk ?_;refine vn (p:=e=0) ?_;refine vi ?_;exact aw (k+1,.error (e,m4)) ⟨Us,Us,d⟩
  |ok ty=>
   have h9:=Fv hB Uo Uo ha Uo (by rw[a5];omega) a7 (by rw[a6,e1,a2]) k0 Y;rw[Y]at V d;rw[Bu,jS]at d;refine ae V ?_;refine ax (ip m4 _) ?_;refine vk ?_;refine vz<|vi ?_;refine az (2+k) (x:=row b) (by rw[JX,hb];rfl) ?_;have c5:=hT (2+k) Uo m4 Uo;rw[h7]at c5;have hC:=wX hS hB hfg hr hcx hcl fb h9 (n:=m4) Uo c5;have ek:2+(k+1)=2+k+1:=Uo
   cases a3:iL B rs cx b ty m4 with
   |error e=>
    have D:=oz hr (dL (mq hfg _ _ _) a3);rw[a3]at hC d;rw[iK,iK]at d;refine ax hC ?_;refine vi ?_;exact aw (k+1,.error e) ⟨Us,D,d⟩
   |ok q=>
    obtain⟨_,m5⟩:=q;have h':=(mb hr (eb (mq hfg _ _ _) a3)).2;simp only at h';rw[a3]at hC d;rw[jS]at d;refine ax hC ?_;refine vi ?_;exact aw (k+1,.ok ((),m5)) ⟨Us,Us,by simp only;rw[ek];exact d⟩
 have g9:¬ (k:Int)<((x.ctors.map cd).length:Int):=g9;obtain rfl:k=x.ctors.length:=Uo
 rw[List.drop_of_length_le Uo]at d;have d:dK (aO (kidD t 0) ((argsT z).drop F++[kidD t 1])) m4=K:=d;refine v0<|az 0 (aF wt) ?_;refine bH F (argsT z).length ?_ c4 (by show ((x.params.map λt=>[ah t]).length:Int)=_;omega) (by show (argsT z).length=(((argsT z).map row).map λt=>[ah t]).length;omega);have b2:=sY (aC k0) (ys:=(argsT z).drop F++[kidD t 1]) (λy M=>by
  rcases List.mem_append.1 M with M|M
  ·exact aC (fz.args _ (List.mem_of_mem_drop M))
  ·obtain rfl:y=kidD t 1:=by simpa using M
   exact aC k1) (by rw[JK,VK];simp;omega)
 have eD:((((argsT z).map row).map λt=>[ah t]).take (argsT z).length).drop F=(((argsT z).drop F).map row).map rP:=by
  rw[JG Uo,<- List.map_drop,<- List.map_drop]
  rfl
 rw[eD];refine va (p:=rP) ?_ (jM _) (hb:=by simp[dN];omega);refine az 1 (aF wt) ?_;refine bi ?_ (hb:=by simp[dN];omega);have E:VC prog 157 [ah (row (kidD t 0)),.sl ((((argsT z).drop F).map row).map rP++[rP (row (kidD t 1))])] (dg (aO (kidD t 0) ((argsT z).drop F++[kidD t 1]))):=by
  rw[show [rP (row (kidD t 1))]=([kidD t 1].map row).map rP from rfl,<- KB,<- KB];exact b2
 cases Y:aO (kidD t 0) ((argsT z).drop F++[kidD t 1])with
 |error e=>
  have D:=iX Y;rw[Y]at E d;obtain rfl:(.error (e,m4):RS Tr)=K:=d;refine ae E ?_;refine ax (mr m4 (show e≠0 by omega) _) ?_;exact kP9
 |ok w=>
  rw[Y]at E d;obtain rfl:(.ok (w,m4):RS Tr)=K:=d;refine ae E ?_;refine ax (ip m4 _) ?_;exact kP9
end
def LkP(C:Mem)(B:ak)(known:Nat)(self:Int)(v:Value):Prop:=
 ∃v1 v2 v3,v= .agg #[iV B.vars,v1,v2,iV B.nat,v3,iV (known:Int),iV self]/\SV rOr C B.orders v1/\SV rEn C B.ents v2/\SV rPr C B.prims v3/\known<=B.ents.length
def EnP(C:Mem)(x:bY)(v:Value):Prop:=
 ∃w1 w2 w3 w4 w5 w6,v= .agg #[iV x.kind,w1,w2,w3,w4,w5,w6]/\SV rNd C x.sort w1/\SV (iv rNd) C x.params w2/\SV (iv rNd) C x.indices w3/\SV rCt C x.ctors w4/\SV rNd C x.type w5/\SV rNd C x.body w6
structure Bxs(C:Mem)(w:World)(B:ak)(known:Nat)(x:bY)(b2 b3:Nat)(v1 v2 v3 w1 w2 w3 w4 w5 w6:Value):Prop where
 lk:Bk w.heap b2 [iV B.vars,v1,v2,iV B.nat,v3,iV (known:Int),iV (-1)] 110
 en:Bk w.heap b3 [iV x.kind,w1,w2,w3,w4,w5,w6] 70
 o:SV rOr C B.orders v1
 e:SV rEn C B.ents v2
 p:SV rPr C B.prims v3
 k:known<=B.ents.length
 so:SV rNd C x.sort w1
 pa:SV (iv rNd) C x.params w2
 ix:SV (iv rNd) C x.indices w3
 ct:SV rCt C x.ctors w4
 lp:x.params.length<=16
 li:x.indices.length<=16
def Gl':List Int ->Int
 |[]=>0
 |a::r=>bp a (Gl' r)
def GrP(h:Array Obj)(b:Nat)(g:Lv.G):Prop:=∃es clock l,h[b]?=some (.map es clock)/\Ents es.toList l/\∀x y,g x y=(zu x y l 0).map (·.2)
def Pc(g:G):Prop:=∀x y v,g x y=some v ->v=1
abbrev CxR:=List (List Nd×List Nd)
def Hp(B:ak)(c:CxR)(t:List Nd)(fuel:Int):Except Int (Tr×Nat):=if dX B c t≠0 then .error (dX B c t)else gR B (eQ c) (tr t) fuel
def BG(B:ak)(c:CxR)(t ty:List Nd)(fuel:Int):Except Int (Unit×Nat):=if dX B c t≠0 then .error (dX B c t)else if dX B c ty≠0 then .error (dX B c ty)else On B (eQ c) (tr t) (tr ty) fuel
def Hq(B:ak)(c:CxR)(t:List Nd)(fuel:Int):Except Int ((Int×List Atom)×Nat):=if dX B c t≠0 then .error (dX B c t)else nD B (eQ c) (tr t) fuel
def Hr(B:ak)(c:CxR)(t:List Nd)(fuel:Int):Except Int (Tr×Nat):=if dX B c t≠0 then .error (dX B c t)else dW B (eQ c) (tr t) fuel
theorem pB(c:CxR):(eQ c).length=c.length:=by simp[eQ]
section
variable{B:ak}{cx:Ctx}{t:Tr}{n g:Nat}{rs:RcS}{rc:RcJ}
variable(hS:dG B)(hR:cT B=0)(hB:GoodB B)
section
variable(hcx:CxOk B cx)(hcl:cx.length<=260)(ht:Ft (QB B) (cx.length:Int) t)(hfg:Fg rs rc)(hr:cG B rc)
include hS hR hB hcx hcl ht hfg hr
theorem Pd(a:t.n.op=11)(c:n<=100000)(b:qX B rs g)(d:t.n.a.toNat*5000+4096<=g)(f:∀i,i<(kidsT t).length ->∀n,n<=100000 ->ec B rs cx (kidD t i) n):fe B cx t n (smatch B rs cx t.n (kidsT t) n):=by
 unfold fe;have h:=Pb hS hR hB hcx hcl ht hfg hr a c b d f;have wt:=aC ht;refine aP (r:=.ok (_,_)) 379 [.tmp 6] τok func53 ?_;refine aj<|v0<|aI 0 (aL wt) ?_;refine ae (iH wt) ?_;refine vN t.n.op 1 ?_;refine vN t.n.op 2 ?_;refine vN t.n.op 4 ?_;refine vN t.n.op 5 ?_;refine vN t.n.op 6 ?_;refine vN t.n.op 7 ?_;refine vN t.n.op 8 ?_;refine vN t.n.op 9 ?_;refine vN t.n.op 10 ?_;refine vY t.n.op 11 ?_ a;refine ax h ?_;cases smatch B rs cx t.n (kidsT t) n with
 |ok q=>exact eP9
 |error e=>exact eP9
end
include hS hR hB
theorem Pe(hfg:Fg rs rc)(hr:cG B rc)(c:qX B rs g):qX B (qS B rs) (g+1):=λcx k t n hcx hcl ht o A b=>by
 have wt:=aC ht;have a:∀i,i<(kidsT t).length ->Mt k (kidD t i)/\k*5000+(row (kidD t i)).length<=g:=λi e=>by
  have:=o.kid (JQ (cq wt e).1);exact⟨this.1,Uo⟩
 show fe B cx t n (qS B rs cx t n);unfold qS;refine FI t ht.ok (λh=>?_) (λh=>?_) (λh=>?_) (λh=>?_) (λh=>?_) (λh=>?_) (λh=>?_) (λh=>?_) (λh=>?_) (λh=>?_) (λh=>?_)
 ·rw[KX h]
  exact OZ hB hcx hcl ht h
 ·rw[KY Uo,KX h]
  exact O0 hB hcx hcl ht h
 ·rw[KY Uo,KY Uo,KX h]
  exact O1 hB hcx hcl ht h
 ·rw[KY Uo,KY Uo,KY Uo,KX h]
  exact O2 hS hR hB hcx hcl ht h
 ·rw[KY Uo,KY Uo,KY Uo,KY Uo,KX h]
  exact O3 hS hR hB hcx hcl ht h
 ·rw[KY Uo,KY Uo,KY Uo,KY Uo,KY Uo,KX h]
  obtain⟨l,d,f⟩:=dq ht (.inl h);exact O4 hS hR hB hcx hcl ht hfg hr h b (λn b=>c _ k _ _ hcx hcl d (a 0 Uo).1 (a 0 Uo).2 b) λm n b=>c _ k _ _ (hcx.snoc d λx j=>by cases j) (by rw[bB];omega) (by rw[bB];exact f.mono Uo) (a 1 Uo).1 (a 1 Uo).2 b
 ·rw[KY Uo,KY Uo,KY Uo,KY Uo,KY Uo,KY Uo,KX h]
  obtain⟨l,d,f⟩:=dq ht (.inr h);exact O5 hS hR hB hcx hcl ht hfg hr h b (λn b=>c _ k _ _ hcx hcl d (a 0 Uo).1 (a 0 Uo).2 b) λm n b=>c _ k _ _ (hcx.snoc d λx j=>by cases j) (by rw[bB];omega) (by rw[bB];exact f.mono Uo) (a 1 Uo).1 (a 1 Uo).2 b
 ·rw[KY Uo,KY Uo,KY Uo,KY Uo,KY Uo,KY Uo,KY Uo,KX h]
  obtain⟨l,d,f⟩:=nc ht h;exact O6 hS hR hB hcx hcl ht hfg hr h b (λn b=>c _ k _ _ hcx hcl d (a 0 Uo).1 (a 0 Uo).2 b) λn b=>c _ k _ _ hcx hcl f (a 1 Uo).1 (a 1 Uo).2 b
 ·rw[KY Uo,KY Uo,KY Uo,KY Uo,KY Uo,KY Uo,KY Uo,KY Uo,KX h]
  obtain⟨l,d,f,q⟩:=kU ht h;exact O7 hS hR hB hcx hcl ht hfg hr h b (λn b=>c _ k _ _ hcx hcl d (a 0 Uo).1 (a 0 Uo).2 b) (λn b=>c _ k _ _ hcx hcl f (a 1 Uo).1 (a 1 Uo).2 b) λm n b=>c _ k _ _ (hcx.snoc d λx j=>by injection j with j;rw[<- j];exact f) (by rw[bB];omega) (by rw[bB];exact q.mono Uo) (a 2 Uo).1 (a 2 Uo).2 b
 ·rw[KY Uo,KY Uo,KY Uo,KY Uo,KY Uo,KY Uo,KY Uo,KY Uo,KY Uo,KX h]
  obtain⟨r,s,u,v⟩:=mc ht h;have w:=(kW hB (iS ht.node' (.inr h))).1;have y:t.n.a<(k:Int):=o t.n (JQ (aL wt)) h;have:=aZ t;exact Pd hS hR hB hcx hcl ht hfg hr h b c Uo λi e n b=>c _ k _ _ hcx hcl (v _ (JQ (cq wt e).1)) (a i e).1 (a i e).2 b
 ·rw[KY Uo,KY Uo,KY Uo,KY Uo,KY Uo,KY Uo,KY Uo,KY Uo,KY Uo,KY Uo]
  obtain⟨r,s,u,_⟩:=dp ht.ok h;have z:=fA ht.ok h;have p:(cx++aQ t).length=cx.length+t.n.b.toNat:=by rw[JK,oq]
  exact O9 hS hR hB hcx hcl ht hfg hr h b (λi e n b=>c _ k _ _ hcx hcl (gM ht h e).2.2.1 (a _ Uo).1 (a _ Uo).2 b) λm i e n b=>c _ k _ _ (ng hcx Uo ht h) Uo ((gM ht h e).2.2.2.mono Uo) (a _ Uo).1 (a _ Uo).2 b
theorem typV:∀g,qX B (lj B g) g
 |0=>λcx k t n _ _ _ _ h _=>by
  have:=aZ t;omega
 |g+1=>Pe hS hR hB (dt' g) (eN hB g) (typV g)
end
theorem Pf(n:Int):min (max n 0) 100000=((bA n:Nat):Int):=by
 unfold bA;omega
theorem BH{B:ak}(n:Int):VN prog 24 [bw B,pI n] 103 (cC B (bA n:Nat) 0):=by
 have a:=Ot n;rw[Pf]at a;refine JN 10 [.tmp 4] τok func24 ?_;refine aj ?_;refine ae a ?_;refine vk ?_;exact⟨_,_,rfl,rfl,rfl⟩
def BI(r:Except Int (Tr×Nat)):PV:=match r with
 | .ok q=>.tup [ah (row q.1),pI q.2,pI 0]
 | .error e=>.tup [.sl [],pI 0,pI e]
theorem zS':VD prog 187 .returning [0,1] [] []:=by
 refine vh ⟨_,func187,rfl,UO⟩ λj d w=>?_;obtain⟨v0,k,rfl⟩:=uX d;refine callsD_of_wpS func187 rfl λa l b=>?_;apply wpS_seq;apply wpS_region;simp[wpOpsS,go_sem,recoverD,b,Exit.thenS,Instr.typeAssert,underlying242,Tryz.zeroValue242];refine wpS_of_wp (Go.wp_mono (mC τok (n:=12) _ ⟨[(3,.bool false)],[]⟩ _ (λe s c=>e= .normal/\s.d=[]/\Kp [] w c) ?_ _ (lH Ud rfl Ud)) ?_)
 ·exact⟨rfl,rfl,Kp.alloc _ _⟩
 rintro e m c ⟨s,f,rfl,h,i⟩;exact qm f h rfl b ⟨⟨_,rfl⟩,rfl,i⟩
def BJ(x y:PV):List (Nat×SE):=[(0,.st 1 3 [.p x]),(1,.st 2 35 [.p y])]
theorem Hs(er:Int){x y:PV}:VD prog 187 (.panicking (fI er)) [0,1] (BJ x y) (BJ (pI 0) (pI er)):=by
 refine⟨⟨_,func187,rfl,UO⟩,λw X C ρ hR=>?_⟩;refine callsD_of_wpS func187 rfl λb j c=>?_;apply wpS_seq;apply wpS_region;simp[wpOpsS,go_sem,recoverD,c,Exit.thenS,Instr.typeAssert,underlying242,Tryz.zeroValue242];refine wpS_of_wp (Go.wp_mono (vj (n:=12) (m2:=BJ (pI 0) (pI er)) (q:=2) (p:=3) (k:=2) hR (aj ?_) (lH Ud rfl (by simp[ini]))) ?_)
 ·refine vk ?_
  exact⟨rfl,rfl,rfl,trivial⟩
 rintro e l m ⟨rfl,s,d,f,h,a,i⟩;exact uH d f rfl ⟨⟨_,rfl⟩,rfl,h,a,i⟩
section
variable{B:ak}{cx:Ctx}(hI:BoI B)(hB:GoodB B)(hcx:CxOk B cx)(hcl:cx.length<=260)
include hI hB hcx hcl
def tB(g:Nat)(cx:Ctx)(t:Tr)(y:PV):List (Nat×SE):=[(100,.st g 27 [.p (aH (cx.map aA))]),(101,.st (g+1) 29 [.p (ah (row t))]),(102,.st (g+2) 29 [.p y])]
theorem Pg{t:Tr}(ht:Ft (QB B) (cx.length:Int) t){n:Nat}(d:n<=100000){y:PV}:match gb B GJ cx t n with
  | .ok q=>VG prog 141 [.c (.ptr 0 0),.c (.ptr 100 0),.c (.ptr 101 0),.c (.ptr 102 0)] ((0,.st 1 259 ((fC B n).map .p))::tB 2 cx t y) (.ok (.c (.p (.tup [])),(0,.st 1 259 ((fC B q.2).map .p))::tB 2 cx t (ah (row q.1))))
  | .error e=>VG prog 141 [.c (.ptr 0 0),.c (.ptr 100 0),.c (.ptr 101 0),.c (.ptr 102 0)] ((0,.st 1 259 ((fC B n).map .p))::(tB 2 cx t y).take 2) (.error (fI e)):=by
 have h:=ht.len;have f:=vC';have a:=jgG hI hB GJ cx 64 t n hcx hcl ht (Bd hB ht) Uo d;unfold bO at a;cases hr:gb B GJ cx t n with
 |error e=>
  refine cJ 10 [] τok func141 ?_;refine aj ?_;rw[hr]at a;refine bG a ?_;exact rfl
 |ok q=>
  refine cJ 10 [] τok func141 ?_;refine aj ?_;rw[hr]at a;have b:=(eN hB GJ).ft _ _ _ _ hcx hcl ht hr;refine ax a ?_;refine ae (sG (aZ q.1) (by have:=b.len;omega)).vc ?_;exact dD
theorem Ph{t:Tr}(ht:Ft (QB B) (cx.length:Int) t)(fuel:Int){y:PV}:VG prog 140 [.c (.p (bw B)),.c (.p (pI fuel)),.c (.fn 141 [100,101,102])] (tB 1 cx t y) (.ok (match gR B cx t fuel with
  | .ok q=>(.c (.p (.tup [pI q.2,pI 0])),tB 1 cx t (ah (row q.1)))
  | .error e=>(.c (.p (.tup [pI 0,pI e])),[(102,.st 3 29 [.p y])]))):=by
 have b:min (max fuel 0) 100000=((bA fuel:Nat):Int):=by unfold bA;omega
 have a:=Pg hI hB hcx hcl ht (wF fuel) (y:=y);unfold gR
 generalize gb B GJ cx t (bA fuel)=r at a ⊢
 rcases r with e|q
 all_goals
  refine pf 23 [.cell 6 3,.cell 7 35] τok func140 ?_;refine aj<|⟨⟨rfl,rfl,rfl⟩,rfl,λd=>?_⟩;refine aj ?_
  first
   |refine mL (λk=>sw 0 15 k) a ?_ (he:=by rw[b];repeat first|exact VQ|refine And.intro rfl ?_)
    refine jn (λk=>k+6) (λ_=>0) (Hs e) ?_;exact dD
   |refine aT (λk=>sw 0 15 k) (λk=>k-99) a ?_ (he:=by rw[b];repeat first|exact VQ|refine And.intro rfl ?_)
    refine jn (λk=>k+6) (λ_=>0) zS' ?_;exact dD
theorem Pj{t:Tr}(ht:Ft (QB B) (cx.length:Int) t)(fuel:Int):VC prog 79 [bw B,aH (cx.map aA),ah (row t),pI fuel] (BI (gR B cx t fuel)):=by
 have a:=Ph hI hB hcx hcl ht fuel (y:=.raw (.slice none 0 0))
 generalize gR B cx t fuel=r at a ⊢
 rcases r with e|q
 all_goals
  refine vf 24 [.tmp 8,.tmp 9,.tmp 10] τok func79 ?_;refine aT (λk=>sw 100 5 (sw 101 6 (sw 102 11 k))) (λ_=>0) a ?_;exact aE
end
def Pk(B:ak)(a:Int)(fuel:Int):Except Int (Bool×Nat):=ke B (gb B GJ) a (bA fuel)
def IO'(B:ak)(a:Int)(fuel:Int):Except Int (Bool×Nat):=if cT B≠0 then .error (cT B)else if bF B B.ents.length a=true then Pk B a fuel else .error 1
def chP(r:Except Int (Unit×Nat)):PV:=match r with
 | .ok q=>.tup [pI q.2,pI 0]
 | .error e=>.tup [pI 0,pI e]
def Pm(r:Except Int ((Int×List Atom)×Nat)):PV:=match r with
 | .ok q=>.tup [pI q.1.1,cF q.1.2,pI q.2,pI 0]
 | .error e=>.tup [pI 0,.sl [],pI 0,pI e]
def siP(r:Except Int (Bool×Nat)):PV:=match r with
 | .ok q=>.tup [.bool q.1,pI q.2,pI 0]
 | .error e=>.tup [.bool false,pI 0,pI e]
def chC(g:Nat)(cx:Ctx)(t ty:Tr):List (Nat×SE):=[(100,.st g 27 [.p (aH (cx.map aA))]),(101,.st (g+1) 29 [.p (ah (row t))]),(102,.st (g+2) 29 [.p (ah (row ty))])]
def tC(g:Nat)(cx:Ctx)(t:Tr)(y z:PV):List (Nat×SE):=[(100,.st g 27 [.p (aH (cx.map aA))]),(101,.st (g+1) 29 [.p (ah (row t))]),(102,.st (g+2) 3 [.p y]),(103,.st (g+3) 150 [.p z])]
def siC(g:Nat)(a:Int)(y:PV):List (Nat×SE):=[(100,.st g 3 [.p (pI a)]),(101,.st (g+1) 4 [.p y])]
section
variable{B:ak}(hI:BoI B)(hB:GoodB B)
include hI hB
variable{cx:Ctx}(hcx:CxOk B cx)(hcl:cx.length<=260)
include hcx hcl
theorem Pn{t:Tr}(ht:Ft (QB B) (cx.length:Int) t){n:Nat}(b:n<=100000){y z:PV}:match dP B (gb B GJ) cx t n with
  | .ok q=>VG prog 185 [.c (.ptr 0 0),.c (.ptr 100 0),.c (.ptr 101 0),.c (.ptr 102 0),.c (.ptr 103 0)] ((0,.st 1 259 ((fC B n).map .p))::tC 2 cx t y z) (.ok (.c (.p (.tup [])),(0,.st 1 259 ((fC B q.2).map .p))::tC 2 cx t (pI q.1.1) (cF q.1.2)))
  | .error e=>VG prog 185 [.c (.ptr 0 0),.c (.ptr 100 0),.c (.ptr 101 0),.c (.ptr 102 0),.c (.ptr 103 0)] ((0,.st 1 259 ((fC B n).map .p))::(tC 2 cx t y z).take 2) (.error (fI e)):=by
 have f:=ht.len;have d:=vC';have a:=pv hI hB hcx hcl (eN hB GJ) ht (jgG hI hB GJ cx 64 t n hcx hcl ht (Bd hB ht) Uo b);cases hr:dP B (gb B GJ) cx t n with
 |error e=>
  rw[hr]at a;refine cJ 13 [] τok func185 ?_;refine aj<|bG a ?_;exact rfl
 |ok q=>
  rw[hr]at a;refine cJ 13 [] τok func185 ?_;refine aj<|ax a ?_;exact dD
theorem Po{t:Tr}(ht:Ft (QB B) (cx.length:Int) t)(fuel:Int){y z:PV}:VG prog 140 [.c (.p (bw B)),.c (.p (pI fuel)),.c (.fn 185 [100,101,102,103])] (tC 1 cx t y z) (.ok (match nD B cx t fuel with
  | .ok q=>(.c (.p (.tup [pI q.2,pI 0])),tC 1 cx t (pI q.1.1) (cF q.1.2))
  | .error e=>(.c (.p (.tup [pI 0,pI e])),[(102,.st 3 3 [.p y]),(103,.st 4 150 [.p z])]))):=by
 have b:min (max fuel 0) 100000=((bA fuel:Nat):Int):=by unfold bA;omega
 have a:=Pn hI hB hcx hcl ht (wF fuel) (y:=y) (z:=z);unfold nD
 generalize dP B (gb B GJ) cx t (bA fuel)=r at a ⊢
 rcases r with e|q
 all_goals
  refine pf 23 [.cell 6 3,.cell 7 35] τok func140 ?_;refine aj<|⟨⟨rfl,rfl,rfl⟩,rfl,λd=>?_⟩;refine aj ?_
  first
   |refine mL (λk=>sw 0 15 k) a ?_ (he:=by rw[b];repeat first|exact VQ|refine And.intro rfl ?_)
    refine jn (λk=>k+6) (λ_=>0) (Hs e) ?_;exact dD
   |refine aT (λk=>sw 0 15 k) (λk=>k-99) a ?_ (he:=by rw[b];repeat first|exact VQ|refine And.intro rfl ?_)
    refine jn (λk=>k+6) (λ_=>0) zS' ?_;exact dD
theorem Pp{t:Tr}(ht:Ft (QB B) (cx.length:Int) t)(fuel:Int):VC prog 139 [bw B,aH (cx.map aA),ah (row t),pI fuel] (Pm (nD B cx t fuel)):=by
 have a:=Po hI hB hcx hcl ht fuel (y:=pI 0) (z:=.raw (.slice none 0 0))
 generalize nD B cx t fuel=r at a ⊢
 rcases r with e|q
 all_goals
  refine vf 23 [.cell 8 3,.cell 9 150,.tmp 10,.tmp 11] τok func139 ?_;refine aT (λk=>sw 100 5 (sw 101 6 (sw 102 8 (sw 103 9 k)))) (λ_=>0) a ?_;exact kA9
end
def pC(B:ak)(cx:Ctx)(x:Tr)(n:Nat):Except Int (Bool×Nat):=aJ (nD B cx x (n:Int)) λq n=>.ok (decide (q.1=0),n)
def jf(B:ak):Nat ->Ctx ->Tr ->Nat ->Except Int (Bool×Nat)
 |0,_,_,_=>.error 5
 |g+1,cx,x,n=>aJ (dz B cx x n) λz n=>if z.n.op≠4 then .ok (decide (z.n.op=2),n)else jf B g (cx++[(kidD z 0,none)]) (kidD z 1) n
def lq(B:ak)(cx:Ctx)(x:Tr)(n:Nat):Except Int (Bool×Nat):=aJ (jf B 300 cx x n) λb n=>if b=true then .ok (true,n)else pC B cx x n
section
variable{B:ak}{cx:Ctx}
theorem mG':∀(g:Nat) (cx:Ctx) (x:Tr) (n:Nat) q,jf B g cx x n= .ok q ->cx.length<=256/\q.2<=n
 |0,cx,x,n,q,h=>by cases h
 |g+1,cx,x,n,q,h=>by
  simp only[jf]at h;obtain⟨p,b,h⟩:=aN h;obtain⟨a,d,c⟩:=pm b;split at h
  ·injection h with h
   subst h;exact⟨a,c⟩
  ·have:=mG' g _ _ _ _ h
   exact⟨a,Uo⟩
theorem vX':∀(g:Nat) (cx:Ctx) (x:Tr) (n:Nat) e,jf B g cx x n= .error e ->e≠0
 |0,cx,x,n,e,h=>by
  simp only[jf]at h;injection h with h
  omega
 |g+1,cx,x,n,e,h=>by
  simp only[jf]at h;rcases bdJ_er h with h|⟨p,_,h⟩
  ·exact ki h
  split at h
  ·cases h
  ·exact vX' g _ _ _ _ h
theorem Pq(hB:GoodB B){x:Tr}{n:Nat}{e:Int}(h:pC B cx x n= .error e):e≠0:=by
 rcases bdJ_er h with h|⟨p,_,h⟩
 ·exact jc (eN hB GJ) h
 ·cases h
end
abbrev RcE:=Ctx ->Tr ->Nat ->Except Int (List Nd×Nat)
def boxR:List Nd:=[⟨22,0,0⟩]
def bS':Nat ->List Nd ->List Nd
 |0,r=>r
 |k+1,r=>bS' k (⟨24,0,0⟩::(r++boxR))
def listE(rc:RcE)(cx:Ctx):List Tr ->Nat ->Except Int (List (List Nd)×Nat)
 |[],n=>.ok ([],n)
 |y::r,n=>aJ (rc cx y n) λa n=>aJ (listE rc cx r n) λl n=>.ok (a::l,n)
def nH(B:ak)(rc:RcE)(cx:Ctx)(x:Tr)(n:Nat):Except Int (List Nd×Nat):=
 if (tr (aR B x.n.a).sort).n.a=0 then
  if x.n.b=0 then .ok (boxR,n)else aJ (rc cx (kidD x 2) n) λr n=>.ok (bS' (cS B x.n.a 0).args.length r,n)
 else aJ (listE rc cx ((kidsT x).drop 1) n) λl n=>.ok (⟨28,x.n.a,x.n.b⟩::l.flatten,n)
def bodiesT(x:Tr):List Tr:=(List.range x.n.b.toNat).map λi=>kidD x (2*i+1)
def oN(rc:RcE)(cx:Ctx)(x:Tr)(n:Nat):Except Int (List Nd×Nat):=
 aJ (listE rc (cx++aQ x) (bodiesT x) n) λl n=>.ok (⟨29,x.n.a,x.n.b⟩::l.flatten,n)
def lr(B:ak)(rc:RcE)(cx:Ctx)(x:Tr)(n:Nat):Except Int (List Nd×Nat):=
 if x.n.op=1 then .ok ([⟨21,x.n.a,0⟩],n)
 else if x.n.op=8 then .ok ([⟨26,x.n.a,0⟩],n)
 else if x.n.op=10 then .ok ([⟨27,x.n.a,x.n.b⟩],n)
 else if x.n.op=5 then aJ (rc (cx++[(kidD x 0,none)]) (kidD x 1) n) λr n=>.ok (⟨23,0,0⟩::r,n)
 else if x.n.op=6 then aJ (rc cx (kidD x 0) n) λr n=>aJ (rc cx (kidD x 1) n) λs n=>.ok (⟨24,0,0⟩::(r++s),n)
 else if x.n.op=7 then aJ (rc cx (kidD x 1) n) λr n=>aJ (rc (cx++[(kidD x 0,some (kidD x 1))]) (kidD x 2) n) λs n=>.ok (⟨25,0,0⟩::(r++s),n)
 else if x.n.op=11 then nH B rc cx x n
 else if x.n.op=12 then oN rc cx x n
 else .ok (boxR,n)
def qY(B:ak)(rc:RcE)(cx:Ctx)(x:Tr)(n:Nat):Except Int (List Nd×Nat):=
 aJ (gR B cx x (n:Int)) λt n=>aJ (lq B cx t n) λb n=>if b=true then .ok (boxR,n)else lr B rc cx x n
def cX(B:ak):Nat ->RcE
 |0,_,_,_=>.error 5
 |g+1,cx,x,n=>qY B (cX B g) cx x n
theorem kids_rows:∀(x:Tr),(rows (kidsT x)).length+1<=(row x).length
 | .mk n ks=>by
  simp only[kidsT,row,JV];split
  ·simp[rows]
  split
  ·have:∀(l:List Tr),(rows (l.flatMap (·.ks))).length<=(rows l).length:=by
    intro l
    induction l with
    |nil=>simp[rows]
    |cons y l a=>
     obtain⟨m,s⟩:=y;have e:((Tr.mk m s::l).flatMap (·.ks))=s++l.flatMap (·.ks):=rfl;rw[e,bF'];simp only[rows,row,JK,JV];omega
   have:=this ks;omega
  ·omega
theorem mH':∀{l:List Tr} {i:Nat} {y:Tr},l[i]?=some y ->(rows (l.take i)).length+((row y).length+(rows (l.drop (i+1))).length)=(rows l).length
 |z::l,0,y,h=>by
  obtain rfl:z=y:=by simpa using h
  simp[rows]
 |z::l,i+1,y,h=>by
  have:=mH' (l:=l) (i:=i) (y:=y) (by simpa using h);simp only[List.take_succ_cons,List.drop_succ_cons,rows,JK];omega
theorem ic':∀(k:Nat) (r:List Nd),(bS' k r).length=r.length+2*k
 |0,r=>rfl
 |k+1,r=>by
  simp only[bS',ic' k,JV,JK,boxR,JU];omega
def qZ(q:List Nd×Nat)(x:Tr)(n:Nat):Prop:=q.1.length<=34*(row x).length/\q.2<=n
theorem BK{rc:RcE}{cx:Ctx}:∀(l:List Tr) (n:Nat) q,(∀y∈l,∀n q,rc cx y n= .ok q ->qZ q y n) ->listE rc cx l n= .ok q ->q.1.length=l.length/\q.1.flatten.length<=34*(rows l).length/\q.2<=n
 |[],n,q,_,h=>by
  simp only[listE]at h;injection h with h
  subst h;simp
 |y::r,n,q,hr,h=>by
  simp only[listE]at h;obtain⟨a,ha,h⟩:=aN h;obtain⟨l,b,h⟩:=aN h;injection h with h
  subst h;obtain⟨d,e⟩:=hr y Ud _ _ ha;obtain⟨f,i,j⟩:=BK r _ _ (λz c=>hr z (by simp[c])) b;simp only[JV,List.flatten_cons,JK,rows];omega
theorem BL{rc:RcE}{cx:Ctx}:∀(l:List Tr) (n:Nat) e,(∀y∈l,∀n e,rc cx y n= .error e ->e≠0) ->listE rc cx l n= .error e ->e≠0
 |[],n,e,_,h=>by cases h
 |y::r,n,e,hr,h=>by
  simp only[listE]at h;rcases bdJ_er h with h|⟨p,_,h⟩
  ·exact hr y Ud _ _ h
  rcases bdJ_er h with h|⟨p,_,h⟩
  ·exact BL r _ _ (λz a=>hr z (by simp[a])) h
  ·cases h
theorem Ht{B:ak}(hB:GoodB B){cx:Ctx}{x:Tr}{n:Nat}{e:Int}(h:lq B cx x n= .error e):e≠0:=by
 rcases bdJ_er h with h|⟨p,_,h⟩
 ·exact vX' _ _ _ _ _ h
 split at h
 ·cases h
 ·exact Pq hB h
theorem BM(n:Nat):bA (n:Int)<=n:=by unfold bA;omega
theorem tD{B:ak}(hB:GoodB B){cx:Ctx}{x:Tr}{n:Nat}{q:Bool×Nat}(h:lq B cx x n= .ok q):q.2<=n:=by
 obtain⟨p,b,h⟩:=aN h;have a:=(mG' _ _ _ _ _ b).2;split at h
 ·injection h with h
  subst h;exact a
 ·obtain⟨r,hr,h⟩:=aN h
  injection h with h
  subst h;have c:=(fQ hB (eN hB GJ) hr).2.1;have d:=BM p.2;exact KQ c (KQ d a)
theorem ra{B:ak}(hB:GoodB B){cx:Ctx}{x:Tr}{n:Nat}{q:Tr×Nat}(e:Ok .tm x)(h:gR B cx x (n:Int)= .ok q)(d:x.n.op=5 \/x.n.op=7 \/x.n.op=12):cx.length<=256:=by
 unfold gR at h;obtain⟨g,f⟩:∃g,GJ=g+1:=⟨GJ-1,by have:=vC';omega⟩
 rw[f]at h;simp only[gb]at h;unfold jv at h;rcases d with c|c|c
 ·simp only[c]at h
  rw[KY UO,KY UO,KY UO,KY UO,KY UO,KY UO,KX trivial]at h;obtain⟨p,a,_⟩:=aN h;exact(fQ hB (eN hB g) a).1
 ·simp only[c]at h
  rw[KY UO,KY UO,KY UO,KY UO,KY UO,KY UO,KY UO,KY UO,KX trivial]at h;obtain⟨p,a,_⟩:=aN h;exact(fQ hB (eN hB g) a).1
 ·simp only[c]at h
  rw[KY UO,KY UO,KY UO,KY UO,KY UO,KY UO,KY UO,KY UO,KY UO,KY UO]at h;obtain⟨p,a,_⟩:=aN h;have j:=dp e c;obtain⟨b,i⟩:∃b,x.n.b.toNat=b+1:=⟨x.n.b.toNat-1,Uo⟩
  rw[i]at a;simp only[nk]at a;obtain⟨r,hr,_⟩:=aN a;exact(fQ hB (eN hB g) hr).1
theorem Hu{B:ak}{cx:Ctx}{x:Tr}{n:Nat}{q:Tr×Nat}(h:gR B cx x (n:Int)= .ok q)(a:x.n.op=11):((kidsT x).drop 2).length=(aR B x.n.a).ctors.length:=by
 unfold gR at h;obtain⟨g,b⟩:∃g,GJ=g+1:=⟨GJ-1,by have:=vC';omega⟩
 rw[b]at h;simp only[gb]at h;unfold jv at h;simp only[a]at h;rw[KY UO,KY UO,KY UO,KY UO,KY UO,KY UO,KY UO,KY UO,KY UO,KX trivial]at h;unfold kg at h;simp only at h;obtain⟨p,c,h⟩:=aN h;obtain⟨z,d,h⟩:=aN h;split at h
 ·cases h
 split at h
 ·cases h
 ·rename_i g
  omega
def keptG(B:ak):Ctx ->List Tr ->Nat ->Except Int (List Bool×Nat)
 |_,[],n=>.ok ([],n)
 |cx,a::r,n=>aJ (lq B cx a n) λb n=>aJ (keptG B (cx++[(a,none)]) r n) λl n=>.ok ((!b)::l,n)
def pD(B:ak)(a b:Int)(n:Nat):Except Int (List Bool×Nat):=keptG B (cr (ie B a)) (ja B a b) n
theorem wY{l:List Tr}(h:l.length=2):l=[l.getD 0 (varX 0),l.getD 1 (varX 0)]:=by
 match l,h with
 |[a,b],_=>rfl
theorem Hv{l:List Tr}(h:l.length=3):l=[l.getD 0 (varX 0),l.getD 1 (varX 0),l.getD 2 (varX 0)]:=by
 match l,h with
 |[a,b,c],_=>rfl
theorem nI(x:Tr)(k:Nat):kidD x k=(kidsT x).getD k (varX 0):=rfl
theorem id':∀(b:Nat) (l:List Tr),l.length=2*b ->(rows ((List.range b).map λi=>l.getD (2*i+1) (varX 0))).length<=(rows l).length
 |0,l,h=>by simp[rows]
 |b+1,u::v::l,h=>by
  have hl:l.length=2*b:=by simp only[JV]at h;omega
  have:=id' b l hl;rw[List.range_succ_eq_map,List.map_cons,List.map_map];have e:(List.range b).map ((λi=>(u::v::l).getD (2*i+1) (varX 0))∘Nat.succ)=(List.range b).map λi=>l.getD (2*i+1) (varX 0):=by
   apply List.map_congr_left;intro i _;show (u::v::l).getD (2*(i+1)+1) (varX 0)=_;rw[show 2*(i+1)+1=(2*i+1)+1+1 by omega]
   rfl
  rw[e];show (rows (v::_)).length<=_;simp only[rows,JK];omega
 |b+1,[],h=>by simp at h
 |b+1,[_],h=>by simp at h;omega
theorem Hw{B:ak}(hB:GoodB B){a:Int}(ha:bF B B.ents.length a=true):(cS B a 0).args.length<=16:=by
 obtain⟨i,x,s,h,j,rfl,k,l,d,e⟩:=hB.fam ha (KJ _);unfold cS;rw[d]
 match f:x.ctors with
 |[]=>exact KV _
 |c::r=>
  obtain⟨m,o,b⟩:=e.ct 0 c (by rw[f];rfl);show c.args.length<=16;rw[b.args,KF];exact b.la
section
variable{B:ak}
theorem Pr(hB:GoodB B){rc:RcE}{N:Int}{cx:Ctx}{x:Tr}{n:Nat}{q:List Nd×Nat}(d:Ft (QB B) N x)(hr:∀(M:Int) cx y n q,Ft (QB B) M y ->rc cx y n= .ok q ->qZ q y n)(h:lr B rc cx x n= .ok q):qZ q x n:=by
 have F:=aZ x;have b:=kids_rows x;unfold lr at h;have a:∀m:Nd,Except.ok ([m],n)=(Except.ok q:Except Int (List Nd×Nat)) ->qZ q x n:=λm h=>by
  injection h with h
  subst h;exact⟨by show 1<=_;omega,KJ _⟩
 split at h
 ·exact a _ h
 split at h
 ·exact a _ h
 split at h
 ·exact a _ h
 split at h
 ·rename_i g
  obtain⟨k,C,o⟩:=dq d (.inr g);have e:=wY k;rw[e]at b;simp only[rows,JK,<- nI]at b;obtain⟨p,c,h⟩:=aN h;injection h with h
  subst h;obtain⟨s,f⟩:=hr _ _ _ _ _ o c;exact⟨by simp only[JV];omega,f⟩
 split at h
 ·rename_i g
  obtain⟨k,C,o⟩:=nc d g;have e:=wY k;rw[e]at b;simp only[rows,JK,<- nI]at b;obtain⟨p,c,h⟩:=aN h;obtain⟨r,j,h⟩:=aN h;injection h with h
  subst h;obtain⟨s,f⟩:=hr _ _ _ _ _ C c;obtain⟨u,I⟩:=hr _ _ _ _ _ o j;exact⟨by simp only[JV,JK];omega,Us⟩
 split at h
 ·rename_i g
  obtain⟨k,C,o,D⟩:=kU d g;have e:=Hv k;rw[e]at b;simp only[rows,JK,<- nI]at b;obtain⟨p,c,h⟩:=aN h;obtain⟨r,j,h⟩:=aN h;injection h with h
  subst h;obtain⟨s,f⟩:=hr _ _ _ _ _ o c;obtain⟨u,I⟩:=hr _ _ _ _ _ D j;exact⟨by simp only[JV,JK];omega,Us⟩
 split at h
 ·rename_i g
  obtain⟨k,C,o,D⟩:=mc d g;unfold nH at h;split at h
  ·split at h
   ·exact a _ h
   ·rename_i O
    obtain⟨p,c,h⟩:=aN h;injection h with h
    subst h;have v:(kidsT x)[2]?=some (kidD x 2):=by
     rw[nI,QK,gE]
     rfl
    have P:=mH' v;obtain⟨s,f⟩:=hr _ _ _ _ _ (D _ (JQ v)) c;have w:QB B x.n:=by
     obtain⟨m,R⟩:=x;exact d.node
    have S:=Hw hB (iS w (.inr g));exact⟨by simp only[ic'];omega,f⟩
  ·obtain⟨p,c,h⟩:=aN h
   injection h with h
   subst h;obtain⟨s,f,u⟩:=BK _ _ _ (λy z n q w=>hr N _ _ _ _ (D y (List.drop_subset _ _ z)) w) c;have T:(rows ((kidsT x).drop 1)).length<=(rows (kidsT x)).length:=by
    have:=KG (λl=>(rows l).length) (List.take_append_drop 1 (kidsT x));simp only[bF',JK]at this;omega
   exact⟨by simp only[JV];omega,u⟩
 split at h
 ·rename_i g
  have K:=fA d.ok g;have L:=dp d.ok g;unfold oN at h;obtain⟨p,c,h⟩:=aN h;injection h with h
  subst h;have A:=id' x.n.b.toNat (kidsT x) Uo;have E:∀y∈bodiesT x,Ft (QB B) (N+x.n.b) y:=λy z=>by
   obtain⟨i,H,rfl⟩:=List.mem_map.1 z;have H:=List.mem_range.1 H;exact d.kidN (2*i+1) Uo (by simp[kb,bh,g])
  obtain⟨s,f,u⟩:=BK _ _ _ (λy z n q w=>hr _ _ _ _ _ (E y z) w) c;have A:(rows (bodiesT x)).length<=(rows (kidsT x)).length:=A;exact⟨by simp only[JV];omega,u⟩
 ·exact a _ h
theorem BN(hB:GoodB B):∀(g:Nat) (N:Int) cx x n q,Ft (QB B) N x ->cX B g cx x n= .ok q ->qZ q x n
 |0,N,cx,x,n,q,a,h=>by cases h
 |g+1,N,cx,x,n,q,a,h=>by
  simp only[cX]at h;obtain⟨t,ht,h⟩:=aN h;obtain⟨b,c,h⟩:=aN h;have e:=(eN hB GJ).le _ _ _ _ ht;have f:=tD hB c;have i:=BM n;split at h
  ·injection h with h
   subst h;have:=aZ x;exact⟨by show 1<=_;omega,Us⟩
  ·obtain⟨d,j⟩:=Pr hB a (BN hB g) h
   exact⟨d,Uo⟩
theorem Ps{rc:RcE}{cx:Ctx}{x:Tr}{n:Nat}{e:Int}(hr:∀cx y n e,rc cx y n= .error e ->e≠0)(h:lr B rc cx x n= .error e):e≠0:=by
 unfold lr at h;split at h
 ·cases h
 split at h
 ·cases h
 split at h
 ·cases h
 split at h
 ·rcases bdJ_er h with h|⟨p,_,h⟩
  ·exact hr _ _ _ _ h
  ·cases h
 split at h
 ·rcases bdJ_er h with h|⟨p,_,h⟩
  ·exact hr _ _ _ _ h
  rcases bdJ_er h with h|⟨p,_,h⟩
  ·exact hr _ _ _ _ h
  ·cases h
 split at h
 ·rcases bdJ_er h with h|⟨p,_,h⟩
  ·exact hr _ _ _ _ h
  rcases bdJ_er h with h|⟨p,_,h⟩
  ·exact hr _ _ _ _ h
  ·cases h
 split at h
 ·unfold nH at h
  split at h
  ·split at h
   ·cases h
   ·rcases bdJ_er h with h|⟨p,_,h⟩
    ·exact hr _ _ _ _ h
    ·cases h
  ·rcases bdJ_er h with h|⟨p,_,h⟩
   ·exact BL _ _ _ (λy _ n e=>hr _ y n e) h
   ·cases h
 split at h
 ·unfold oN at h
  rcases bdJ_er h with h|⟨p,_,h⟩
  ·exact BL _ _ _ (λy _ n e=>hr _ y n e) h
  ·cases h
 ·cases h
theorem Hx(hB:GoodB B):∀(g:Nat) cx x n e,cX B g cx x n= .error e ->e≠0
 |0,cx,x,n,e,h=>by
  simp only[cX]at h;injection h with h
  omega
 |g+1,cx,x,n,e,h=>by
  simp only[cX]at h;rcases bdJ_er h with h|⟨p,_,h⟩
  ·exact(eN hB GJ).er _ _ _ _ h
  rcases bdJ_er h with h|⟨p,_,h⟩
  ·exact Ht hB h
  split at h
  ·cases h
  ·exact Ps (Hx hB g) h
end
theorem Pt{l:List (List Nd)}{ys:List Tr}(h:l=ys.map row)(a:∀y∈ys,Ok .tm y):l.map tr=ys:=by
 subst h;rw[List.map_map];have:∀y∈ys,(tr∘row) y=y:=λy b=>jJ (a y b);exact(List.map_congr_left this).trans (List.map_id' ys)
theorem BO{n:Nat}(h:n<=100000):bA (n:Int)=n:=by unfold bA;omega
theorem Pu{α β:Type}{m m':Except Int (α×Nat)}{k a:α ->Nat ->Except Int (β×Nat)}(hm:m=m')(h:∀q,m'= .ok q ->k q.1 q.2=a q.1 q.2):aJ m k=aJ m' a:=by
 subst hm;cases m with
 |error e=>rfl
 |ok q=>exact h q rfl
end Go.Q
namespace Go.Wx
theorem Pv{P:Program}{n:Nat}{A:AS}{K:Exit ->AS ->Prop}{c:Code}(t:Nat)(h:VCode P n c (A.upd [(t,.c (.p (.sl [])))] []) K)(ht:look A.e t=some (.c (.p (.raw (.slice none 0 0)))):=by rfl):VCode P n c A K:=by
 refine h.of λf X i s w ⟨C,ρ,hR⟩=>?_;obtain⟨v,a,hr⟩:=hR.slot t _ ht (λj d=>by cases d);have hr:RV C (.raw (.slice none 0 0)) v:=hr;cases hr;refine⟨C,ρ,hR.slots (wr:=[(t,.c (.p (.sl [])))]) (λk b e _=>?_) λ_ _=>rfl⟩;obtain⟨rfl,rfl⟩:=bI e;exact⟨_,a,.nil _ _⟩
theorem Hy{P:Program}{n:Nat}{o:Oper}{A:AS}{k:Kk}{a:List PanicEntry ->List Nat ->Prop}{f:FuncId}{xs:List AV}{q b d:Option (List PV)}{j g T:Nat}{cs cs' ps:List PV}{r:PV}(h:VP P f T cs cs' ps r)(e:fin n o.dst (.c (.p r)) λwr=>k wr ((j,.st g T (cs'.map .p))::bJ A (refsA xs)) [])(i:look A.m j=some (.st g T (cs.map .p)):=by rfl)(l:cL A xs=some ps:=by rfl):gk P n o A k a f (.c (.ptr j 0)::xs) q b d:=
 match ax (q:=q) h e i l with
 |⟨x⟩=>⟨x⟩
end Go.Wx
namespace Go.Q
def Hz{α:Type}(r:RS α):RS Unit:=aY r λ_ n=>.ok ((),n)
def iq{α:Type}(r:RS α):Prop:=match r with
 | .ok q=>q.2<=100000
 | .error e=>e.1≠0
def stM(B:ak)(r:RS Unit):List (Nat×SE):=[(0,.st 1 103 ((dS B r).map .p))]
theorem tE(B:ak)(r:RS Unit):some (SE.st 1 103 ((dS B r).map .p))=some (.st 1 103 (((dS B r).map AC.p).map (AC.ren id))):=by rw[List.map_map];rfl
section
variable{B:ak}(hS:dG B)(hR:cT B=0)(hB:GoodB B)
include hS hR hB
theorem HA{cx:Ctx}(hcx:CxOk B cx)(hcl:cx.length<=260){x:Tr}(a:Ft (QB B) (cx.length:Int) x){n:Nat}(b:n<=100000):ec B (lj B GJ) cx x n:=
 typV hS hR hB GJ cx 64 x n hcx hcl a (Bd hB a) (by have:=vC';have:=a.len;omega) b
end
theorem Pw(l:List (List PV)):VG prog 84 [.c (.p (.sl l))] [] (.ok (.c (.cl l),[])):=A6 ⟨_,func84,rfl,UO⟩ (λw a n c d e=>by
 refine cO (args:=[_]) 9 [.tmp 2] τok func84 ?_;refine zA τok rfl n n rfl rfl (KJ _) d ?_;rcases e with rfl|⟨b,o,rfl⟩
 ·exact⟨⟨_,rfl,.inl rfl⟩,Kp.refl _ _⟩
 ·rw[oP]
  exact⟨⟨_,rfl,.inr rfl⟩,Kp.refl _ _⟩) l
abbrev tF(e:Int):List PanicEntry:=[{v:=.iface 89 (.agg #[iV e]),recovered:=false}]
def cH(B:ak)(n:Int)(aq:PV):List PV:=[.int .i64 B.vars,.sl (B.orders.map eZ),.sl (B.ents.map cj),.int .i64 B.nat,.sl (B.prims.map iU),pI n,aq]
def gz{α:Type}(B:ak)(aq:PV)(f:α ->PV)(r:Except Int (α×Nat)):Except (List PanicEntry) (List PV×PV):=match r with
 | .ok q=>.ok (cH B q.2 aq,f q.1)
 | .error e=>.error (tF e)
theorem oG':VC prog 40 [pI 0] (.tup []):=by
 refine vf 7 [] τok func40 ?_;exact v0<|aE
theorem wZ{e:Int}(he:e≠0):VE prog 40 [pI e] (tF e):=by
 refine nU (r:=.error (tF e)) 7 [] τok func40 ?_;refine aj<|vy ?_ he;exact qe (λw=>by simp[Instr.makeInterface,underlying89,go_sem])<|rfl
theorem pE{cx:Ctx}(hcl:cx.length<=300){t:Tr}{o:Option Tr}:VC prog 47 [aH (cx.map aA),.sl [[ah (row t),ah (nF' o)]]] (aH ((cx++[(t,o)]).map aA)):=by
 have e:aH ((cx++[(t,o)]).map aA)= .sl ((cx.map aA).map bdP++[[ah (row t),ah (nF' o)]]):=by rw[KB];exact KG PV.sl (KB ..)
 rw[e];refine vf 9 [.tmp 4] τok func47 ?_;refine aT id (λ_=>0) (Pw _) ?_;refine⟨⟨Nat.one_pos,ww _⟩,bi ?_ (hb:=Uk)⟩;exact aE
section
variable{B:ak}(hI:BoI B)(hB:GoodB B){aq:PV}
include hI hB
theorem HB{cx:Ctx}(hcx:CxOk B cx)(hcl:cx.length<=260){x:Tr}(f:Ft (QB B) (cx.length:Int) x)(n:Nat):eW prog 36 93 (cH B n aq) [aH (cx.map aA),ah (row x)] (gz B aq fU (dz B cx x n)):=by
 have eC:=au bdP (cx.map aA);have h:=au aA cx;have c:=A5 hI hB hcx hcl f (n:Int);generalize a:dz B cx x n=d;unfold dz at a;refine aP (r:=gz B aq fU d) 36 [.tmp 6] τok func36 ?_;refine aj<|af (λb=>?_) (λb=>?_)
 ·have b:(((cx.map aA).map bdP).length:Int)>256:=b
  rw[KX Uo]at a;subst a;refine bK (wZ UO) ?_;exact rfl
 have b:¬ (((cx.map aA).map bdP).length:Int)>256:=b;rw[KY Uo]at a;cases hr:dW B cx x (n:Int)with
 |error e=>
  rw[hr]at c a;subst a;refine ae c ?_;refine vk ?_;refine bK (wZ (qD hr)) ?_;exact rfl
 |ok q=>
  rw[hr]at c a;subst a;refine ae c ?_;refine vk ?_;refine ae oG' ?_;exact eP9
theorem Px{cx:Ctx}(hcx:CxOk B cx)(hcl:cx.length<=260){x:Tr}(d:Ft (QB B) (cx.length:Int) x)(n:Nat):eW prog 44 93 (cH B n aq) [aH (cx.map aA),ah (row x)] (gz B aq fU (gR B cx x (n:Int))):=by
 have c:=Pj hI hB hcx hcl d (n:Int);have b:∀e,gR B cx x (n:Int)= .error e ->e≠0:=λe h=>(eN hB GJ).er _ _ _ _ h
 generalize gR B cx x (n:Int)=a at *
 refine aP (r:=gz B aq fU a) 32 [.tmp 6] τok func44 ?_;refine aj ?_;cases a with
 |error e=>
  refine ae c ?_;refine vk ?_;refine bK (wZ (b e rfl)) ?_;exact rfl
 |ok q=>
  refine ae c ?_;refine vk ?_;refine ae oG' ?_;exact eP9
theorem Py{cx:Ctx}(hcx:CxOk B cx)(hcl:cx.length<=260){x:Tr}(f:Ft (QB B) (cx.length:Int) x)(n:Nat):eW prog 78 93 (cH B n aq) [aH (cx.map aA),ah (row x)] (gz B aq PV.bool (pC B cx x n)):=by
 have c:=Pp hI hB hcx hcl f (n:Int);have d:∀e,nD B cx x (n:Int)= .error e ->e≠0:=λe h=>jc (eN hB GJ) h;generalize a:pC B cx x n=b;unfold pC at a;refine aP (r:=gz B aq PV.bool b) 35 [.tmp 6] τok func78 ?_;refine aj ?_;cases hr:nD B cx x (n:Int)with
 |error e=>
  rw[hr]at c a;obtain rfl:.error e=b:=a;refine ae c ?_;refine vk ?_;refine bK (wZ (d e hr)) ?_;exact rfl
 |ok q=>
  rw[hr]at c a;obtain rfl:.ok (decide (q.1.1=0),q.2)=b:=a;refine ae c ?_;refine vk ?_;refine ae oG' ?_;refine af (λh=>?_) (λh=>?_)
  ·have h:q.1.1=0:=h
   exact⟨_,_,_,rfl,rfl,bT (KU h).symm,rfl,rfl⟩
  ·have h:¬ q.1.1=0:=h
   exact⟨_,_,_,rfl,rfl,bT (KH h).symm,rfl,rfl⟩
theorem Pz{cx:Ctx}(hcx:CxOk B cx)(hcl:cx.length<=260){x:Tr}(F:Ft (QB B) (cx.length:Int) x)(n:Nat):eW prog 77 93 (cH B n aq) [aH (cx.map aA),ah (row x)] (gz B aq PV.bool (jf B 300 cx x n)):=by
 generalize i:jf B 300 cx x n=d;refine aP (r:=gz B aq PV.bool d) 34 [.tmp 6] τok func77 ?_;refine aj<|aB τok (σ:=Nat×Ctx×Tr×Nat) [(0,_)] [] (λq=>[(1,.c (.p (aH (q.2.1.map aA)))),(2,.c (.p (ah (row q.2.2.1))))]) (λq=>[(0,.st 1 93 ((cH B q.2.2.2 aq).map .p))])
  (λq=>jf B q.1 q.2.1 q.2.2.1 q.2.2.2=d/\262<=q.1+q.2.1.length/\CxOk B q.2.1/\q.2.1.length<=260/\Ft (QB B) (q.2.1.length:Int) q.2.2.1) (λq=>q.1) (300,cx,x,n) ⟨i,Us,hcx,Us,F⟩ ?_
 clear i
 rintro⟨g,c,y,m⟩ ⟨hr,H,l,hcl,u⟩;simp only at hr H l hcl u;obtain⟨g,rfl⟩:∃k,g=k+1:=⟨g-1,Uo⟩
 simp only[jf]at hr;refine aj ?_;have s:=HB hI hB (aq:=aq) l hcl u m;cases v:dz B c y m with
 |error e=>
  rw[v]at s hr;obtain rfl:.error e=d:=hr;refine bG s ?_;exact rfl
 |ok q=>
  obtain⟨z,w⟩:=q;obtain⟨C,_,f⟩:=jb hB l u v;simp only at f;have A:=aC f;rw[v]at s hr;have hr:(if z.n.op≠4 then .ok (decide (z.n.op=2),w)else jf B g (c++[(kidD z 0,none)]) (kidD z 1) w)=d:=hr;refine ax s ?_;refine aI 0 (aL A) ?_;refine af (λb=>?_) (λb=>?_)
  ·have b:z.n.op≠4:=b
   rw[KX b]at hr;subst hr;refine aI 0 (aL A) ?_;refine af (λh=>?_) (λh=>?_)
   ·have h:z.n.op=2:=h
    exact⟨_,_,_,rfl,rfl,bT (KU h).symm,rfl,rfl⟩
   ·have h:¬ z.n.op=2:=h
    exact⟨_,_,_,rfl,rfl,bT (KH h).symm,rfl,rfl⟩
  have b:¬ z.n.op≠4:=b;rw[KY b]at hr;have b:=Decidable.not_not.1 b;obtain⟨r1,r2,M,j⟩:=oj A.ok (.inl b);obtain⟨N,I,K⟩:=dq f (.inl b);have O:=au ndP (row z);have D:∀y∈(row z).map ndP,y.length=3:=df (row z);have L:=f.len;have E:(row z).length=1+(row (kidD z 0)).length+(row (kidD z 1)).length:=by rw[r2];simp;omega
  refine ae (vp (t:=row z) (a:=[z.n]) Uo r1 j) ?_;refine bH 1 (1+(row (kidD z 0)).length) ?_ D;rw[show (((row z).map ndP).take (1+(row (kidD z 0)).length)).drop 1=(row (kidD z 0)).map ndP by rw[<- List.map_take,<- List.map_drop,r1,List.take_append,List.take_append];simp];refine ae (pE (cx:=c) (t:=kidD z 0) (o:=none) Uo) ?_;refine bH (1+(row (kidD z 0)).length) ((row z).map ndP).length ?_ D (h2:=rfl) (h3:=Uo) (h4:=KJ _);rw[show (((row z).map ndP).take ((row z).map ndP).length).drop (1+(row (kidD z 0)).length)=(row (kidD z 1)).map ndP by rw[JG (KJ _),<- List.map_drop,r1,<- List.append_assoc,List.drop_left' Uk]];exact aw (g,c++[(kidD z 0,none)],kidD z 1,w) ⟨hr,Uk,l.snoc I Ud,Uk,by rw[bB];exact K.mono Uo⟩ (hm:=Nat.lt_succ_self g)
theorem HC{cx:Ctx}(hcx:CxOk B cx)(hcl:cx.length<=260){x:Tr}(h:Ft (QB B) (cx.length:Int) x)(n:Nat):eW prog 43 93 (cH B n aq) [aH (cx.map aA),ah (row x)] (gz B aq PV.bool (lq B cx x n)):=by
 generalize a:lq B cx x n=c;unfold lq at a;have d:=Pz hI hB (aq:=aq) hcx hcl h n;refine aP (r:=gz B aq PV.bool c) 17 [.tmp 6] τok func43 ?_;refine aj ?_;cases i:jf B 300 cx x n with
 |error e=>
  rw[i]at d a;obtain rfl:.error e=c:=a;refine bG d ?_;exact rfl
 |ok q=>
  obtain⟨b,m⟩:=q;rw[i]at d a;have a:(if b=true then .ok (true,m)else pC B cx x m)=c:=a;refine ax d ?_;cases b with
  |true=>
   rw[KX rfl]at a;subst a;exact eP9
  |false=>
   rw[KY UO]at a;have f:=Py hI hB (aq:=aq) hcx hcl h m;rw[a]at f;cases c with
   |error e=>
    refine bG f ?_;exact rfl
   |ok q=>
    refine ax f ?_;exact eP9
end
theorem PA{ps:List Tr}(hl:ps.length<=16):VC prog 61 [bD (ps.map row)] (aH ((cr ps).map aA)):=by
 have d:=au rP (ps.map row);have b:=au row ps;refine cR 19 [.tmp 2] τok func61 ?_;refine aD<|aD<|Pv 3 ?_;refine aj<|aB τok (σ:=Nat) [(6,_),(7,_)] [] (λi=>[(3,.c (.p (aH ((cr (ps.take i)).map aA)))),(8,vI i)]) (λ_=>[]) (λi=>i<=ps.length) (λi=>ps.length-i) 0 (KV _) ?_;intro i e;refine aj<|af (λg=>?_) (λg=>?_)
 ·have g:(i:Int)<(((ps.map row).map rP).length:Int):=g
  obtain⟨y,a,_⟩:=ay (l:=ps) (k:=i);refine az i (x:=row y) (by rw[JX,a];rfl) ?_;refine ae (pE (cx:=cr (ps.take i)) (t:=y) (o:=none) (by simp[cr];omega)) ?_;refine vi ?_;exact aw (i+1) (by show i+1<=_;omega) (x:=⟨KG (λl=>some (vP (aH (List.map aA l)))) (by rw[dB a];simp[cr]),rfl,trivial⟩)
 ·have g:¬ (i:Int)<(((ps.map row).map rP).length:Int):=g
  rw[JG Uo];exact aE
def bP(b:Bool):List PV:=[.bool b]
def rb(l:List Bool):PV:=.sl (l.map bP)
section
variable{B:ak}(hI:BoI B)(hB:GoodB B){aq:PV}
include hI hB
theorem BP{en:Int}(O:bF B B.ents.length en=true){k:Nat}(L:k<(aR B en).ctors.length)(n:Nat):eW prog 29 93 (cH B n aq) [pI en,pI k] (gz B aq rb (pD B en k n)):=by
 obtain⟨P,x,s,z,qi,R,_,D,A,v⟩:=hB.fam O (KJ _);obtain⟨M,S,T⟩:=v.ps_eq D;rw[<- R]at M S T;rw[A]at L;obtain⟨c,F,_⟩:=ay (l:=x.ctors) (k:=k) L;obtain⟨f,go,w⟩:=v.ct k c F;have H:=v.lp;have U:=w.la;have C:∀(i:Nat) y,f[i]?=some y ->Ft (QB B) ((z.length+i:Nat):Int) y:=λi y h=>w.up_a D v.kind h;have I:ja B en k=f:=by
  unfold ja cS;rw[A,QK,show ((k:Int)).toNat=k from rfl,F];exact Pt w.args λy h=>by
   obtain⟨j,V⟩:=JH h;exact(w.fa j y V).ok
 generalize a:pD B en k n=d;unfold pD at a;rw[M,I]at a;have W:=KG List.length w.args;rw[KF]at W;have eA:=au rP c.args;refine aP (r:=gz B aq rb d) 50 [.tmp 6] τok func29 ?_;refine aj<|de P D ?_;have ht:=PA (ps:=z) H;rw[<- v.params]at ht;refine ae ht ?_;refine gI k F ?_;refine aB τok (σ:=Nat×Ctx×List Bool×Nat) [(0,_),(29,_),(30,_)] [] (λq=>[(8,.c (.p (aH (q.2.1.map aA)))),(9,.c (.row 1000)),(31,vI q.1)]) (λq=>[(0,.st 1 93 ((cH B q.2.2.2 aq).map .p)),(1000,.rw 4 1 (q.2.2.1.map bP))])
  (λq=>q.1<=f.length/\CxOk B q.2.1/\q.2.1.length=z.length+q.1/\q.2.2.1.length=q.1/\aJ (keptG B q.2.1 (f.drop q.1) q.2.2.2) (λl n=>.ok (q.2.2.1++l,n))=d) (λq=>f.length-q.1) (0,cr z,[],n) ⟨KV _,?_,by simp[cr],rfl,?_⟩ ?_ (sw 1000 23)
 ·exact wE λk y h=>v.up_p hB D h
 ·rw[<- a,List.drop_zero]
  cases keptG B (cr z) f n<;>rfl
 clear a
 rintro⟨i,cx,l,m⟩ ⟨X,hcx,hcl,Y,hr⟩;simp only at X hcx hcl Y hr;refine aj<|af (λg=>?_) (λg=>?_)
 ·have g:(i:Int)<((c.args.map rP).length:Int):=g
  obtain⟨y,h,Z⟩:=ay (l:=f) (k:=i);rw[Z]at hr;simp only[keptG]at hr;have u:=C i y h;rw[<- hcl]at u;have E:=HC hI hB (aq:=aq) hcx Uo u m;refine az i (x:=row y) (by rw[w.args,JX,h];rfl) ?_;cases N:lq B cx y m with
  |error e=>
   rw[N]at E hr;obtain rfl:.error e=d:=hr;refine bG E ?_;exact rfl
  |ok q=>
   obtain⟨b,K⟩:=q;rw[N]at E hr;have hr:aJ (aJ (keptG B (cx++[(y,none)]) (f.drop (i+1)) K) λl n=>.ok ((!b)::l,n)) (λl' n=>.ok (l++l',n))=d:=hr;refine ax E ?_;refine bi ?_ (hb:=Uk);refine ae (pE (cx:=cx) (t:=y) (o:=none) Uo) ?_;refine vi ?_;exact aw (i+1,cx++[(y,none)],l++[!b],K) ⟨Us,hcx.snoc u Ud,Uk,Uk,by
    rw[<- hr];cases keptG B (cx++[(y,none)]) (f.drop (i+1)) K<;>simp[aJ]⟩ (sw 1000 42) (y':=⟨rfl,KG (λl=>some (SE.rw _ _ l)) (by rw[KB];rfl),trivial⟩)
 ·have g:¬ (i:Int)<((c.args.map rP).length:Int):=g
  rw[JY Uo]at hr;have hr:.ok (l++[],m)=d:=hr;rw[JD]at hr;subst hr;exact eP9
end
end Go.Q
