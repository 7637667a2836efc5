import Derived.Test.YtdfeclpphaccnaaGreatMk11
set_option linter.all false
set_option maxRecDepth 100000
set_option maxHeartbeats 4000000
open Go.Proofs Go.Proofs.Tryz Cd Go.Wx Lv Tm
namespace Go.Q
section
variable{B:ak}(hB:GoodB B)
include hB
theorem s5{x:Tr}{ys:List Tr}{L:List (List PV)}{N:Int}(a:Ft (QB B) N x)(b:∀y∈ys,Ft (QB B) N y)(c:ys.length<=1000)(e:L=(ys.map row).map rP):VC prog 180 [ah (row x),.sl L] (de (aP x ys)):=by
 subst e;exact zU a b Uo
theorem NP{a b:Int}(ha:bk B B.ents.length a=true)(h0:0<=b)(hb:b<(aN B a).ctors.length):VC prog 193 [bw B,pI a,pI b] (de (hY B a b)):=by
 have T:=kQ hB ha;obtain⟨i,x,s,f,qi,rfl,_,w,K,o⟩:=hB.fam ha (KJ _);obtain⟨U,e2,e3⟩:=o.ps_eq w;obtain⟨k,rfl⟩:∃k:Nat,b=(k:Int):=⟨b.toNat,Uo⟩
 rw[K]at hb;obtain⟨c,M,_⟩:=ay (l:=x.ctors) (k:=k);obtain⟨h,P,q⟩:=o.ct k c M;obtain⟨V,W,e6⟩:=q.ag_eq w M;have X:=o.lp;have Y:=q.la;have Z:=q.lo;have a0:=o.li;generalize d:hY B (i:Int) (k:Int)=j;unfold hY at d;rw[U,V,W]at d;have f1:=au (λt=>[ah t]) x.params;have f2:=au (λt=>[ah t]) c.args;have l3:=KG List.length o.params;have l4:=KG List.length q.args;have l5:=KG List.length q.out;rw[KF]at l3 l4 l5;have A:∀y∈f,Ft (QB B) 90000 y:=λy m=>by
  obtain⟨k,C⟩:=JH m;exact(o.up_p hB w C).mono (by have:=aL C;omega)
 have D:∀y∈h,Ft (QB B) 90000 y:=λy m=>by
  obtain⟨k,C⟩:=JH m;exact(q.up_a w o.kind C).mono (by have:=aL C;omega)
 have E:Ft (QB B) ((f.length+h.length:Nat):Int) (.mk ⟨9,(i:Int),0⟩ []):=pb (by simp[aF,aX];omega) (.inl rfl) (by
  simp only[QB,cv,bh];simp[ha])
 have F:∀y∈varsM f.length (h.length:Int)++P,Ft (QB B) ((f.length+h.length:Nat):Int) y:=λy m=>by
  rcases List.mem_append.1 m with m|m
  ·exact(lS (qk B) Uo Uo y m).mono Uo
  ·exact q.up_o w o.kind m
 have R:=A9 (n:=f.length) (fr:=(h.length:Int)) Uo Uo;rw[show (f.length:Int)=(((x.params.map λt=>[ah t]).length:Nat):Int) by omega,show (h.length:Int)=(((c.args.map λt=>[ah t]).length:Nat):Int) by omega]at R;have O:(varsM f.length (h.length:Int)).length=f.length:=by simp[varsM]
 have r:=s5 hB (L:=((varsM f.length (((c.args.map λt=>[ah t]).length:Nat):Int)).map row).map rP++c.out.map rP) E F (by rw[JK,O];omega) (by
  rw[show (((c.args.map λt=>[ah t]).length:Nat):Int)=(h.length:Int) by omega,q.out,KB,KB])
 refine vf 58 [.tmp 6,.tmp 7] τok func193 ?_;refine cP i w ?_;refine gp k M ?_;refine gQ R ?_;refine va (p:=rP) ?_ (jG _) (hb:=by simp[varsM];omega);cases q1:aP (.mk ⟨9,(i:Int),0⟩ []) (varsM f.length (h.length:Int)++P)with
 |error e=>
  have he:=iR q1;rw[q1]at r d;obtain rfl:.error e=j:=d;refine ae r ?_;refine vk ?_;refine vy (p:=e≠0) ?_;exact aE
 |ok t=>
 have ht:=gB (qk B) E F q1;rw[q1]at r d;have d:(bq h t).bind (bq f)=j:=d;refine ae r ?_;refine vk ?_;refine v0 ?_;have v:=sZ hB (ys:=h) (x:=t) ht.ok ht.len D Uo q.args rfl;cases I:bq h t with
 |error e=>
  have he:=kS I;rw[I]at v d;obtain rfl:.error e=j:=d;refine ae v ?_;refine vy (p:=e≠0) ?_;exact aE
 |ok u=>
 have S:=lR (qk B) (N:=(f.length:Int)) (ht.mono Uo) (λk y m=>(q.up_a w o.kind m).mono Uo) I;rw[I]at v d;have d:bq f u=j:=d;refine ae v ?_;refine v0 ?_;have H:=sZ hB (ys:=f) (x:=u) S.ok S.len A Uo o.params rfl;rw[d]at H;refine ae H ?_;cases j with
 |error e=>exact aE
 |ok z=>exact aE
theorem NQ{N:Int}(h0:0<=N)(hN:N<=90000){a b:Int}(ha:bk B B.ents.length a=true)(a2:0<=b)(hb:b<(aN B a).ctors.length){A:List Tr}(hq:∀y∈A,Ft (QB B) N y)(a0:A.length=(eQ B a).length){mo:Tr}(K:Ft (QB B) N mo):VC prog 233 [bw B,pI a,pI b,bD (A.map row),ah (row mo)] (de (jk B a b A mo)):=by
 have a3:=kQ hB ha;obtain⟨i,x,s,h,qi,rfl,_,I,M,D⟩:=hB.fam ha (KJ _);obtain⟨e1,e2,e3⟩:=D.ps_eq I;obtain⟨k,rfl⟩:∃k:Nat,b=(k:Int):=⟨b.toNat,Uo⟩
 rw[M]at hb;obtain⟨c,hc,_⟩:=ay (l:=x.ctors) (k:=k);obtain⟨f,go,C⟩:=D.ct k c hc;obtain⟨e4,e5,e6⟩:=C.ag_eq I hc;have a4:=D.lp;have a5:=C.la;have a6:=C.lo;have a7:=D.li;have a8:=D.lc;generalize d:jk B (i:Int) (k:Int) A mo=m;unfold jk at d;rw[e1,e4,e5]at d;rw[e1]at a0;have f1:=au (λt=>[ah t]) x.params;have f2:=au (λt=>[ah t]) c.args;have l3:=KG List.length D.params;have l4:=KG List.length C.args;have l5:=KG List.length C.out;rw[KF]at l3 l4 l5;have O:∀y∈f,Ft (QB B) 90000 y:=λy w=>by
  obtain⟨k,hk⟩:=JH w;exact(C.up_a I D.kind hk).mono (by have:=aL hk;omega)
 have P:Ft (QB B) ((h.length+f.length:Nat):Int) (.mk ⟨10,(i:Int),(k:Int)⟩ []):=pb (by simp[aF,aX];omega) (.inr rfl) (by
  simp only[QB,cv,bh];simp[ha,M];omega)
 have R:∀y∈varsM h.length (f.length:Int)++varsM f.length 0,Ft (QB B) ((h.length+f.length:Nat):Int) y:=λy w=>by
  rcases List.mem_append.1 w with w|w
  ·exact(lS (qk B) Uo Uo y w).mono Uo
  ·exact(lS (qk B) Uo Uo y w).mono Uo
 have c1:(((x.params.map λt=>[ah t]).length:Nat):Int)=(h.length:Int):=Uo
 have V:(((c.args.map λt=>[ah t]).length:Nat):Int)=(f.length:Int):=Uo
 have W:=A9 (n:=h.length) (fr:=(f.length:Int)) Uo Uo;have hw:=A9 (n:=f.length) (fr:=0) Uo Uo;have S:=lK K Uo (b:=((h.length+f.length:Nat):Int)) Uo;have hm:=K.lift (qk B) (b:=((h.length+f.length:Nat):Int)) Uo Uo Uo;rw[show ((h.length+f.length:Nat):Int)=(((x.params.map λt=>[ah t]).length:Nat):Int)+(((c.args.map λt=>[ah t]).length:Nat):Int) by omega]at S;rw[<- c1,<- V]at W;rw[<- V]at hw;have T:(varsM h.length (f.length:Int)).length=h.length:=by simp[varsM]
 have U:(varsM f.length 0).length=f.length:=by simp[varsM]
 have E:=s5 hB (L:=((varsM h.length (((c.args.map λt=>[ah t]).length:Nat):Int)).map row).map rP++((varsM f.length 0).map row).map rP) P R (by rw[JK,T,U];omega) (by
  rw[V,KB,KB])
 refine vf 120 [.tmp 10,.tmp 11] τok func233 ?_;refine cP i I ?_;refine gp k hc ?_;refine vk ?_;refine vi ?_;refine ae S ?_;refine v0<|gQ W ?_;refine gQ hw ?_;refine va (p:=rP) ?_ (jG _) (hb:=by simp[varsM];omega);cases q1:aP (.mk ⟨10,(i:Int),(k:Int)⟩ []) (varsM h.length (f.length:Int)++varsM f.length 0)with
 |error e=>
  have he:=iR q1;rw[q1]at E d;obtain rfl:.error e=m:=d;refine ae E ?_;refine vy (p:=e≠0) ?_;exact aE
 |ok o=>
 have a1:=gB (qk B) P R q1;rw[q1]at E d;have d:(aP (aK mo ((h.length+f.length:Nat):Int) 0) (go++[o])).bind (λt=>(bq f t).bind (cQ A 0 h.length))=m:=d;refine ae E ?_;refine v0<|va (p:=rP) ?_ (jG _) (hb:=by simp[dM];omega);refine be ?_ (hb:=by simp[dM];omega);have H:∀y∈go++[o],Ft (QB B) (N+((h.length+f.length:Nat):Int)) y:=λy w=>by
  rcases List.mem_append.1 w with w|w
  ·exact(C.up_o I D.kind w).mono Uo
  ·obtain rfl:y=o:=by simpa using w
   exact a1.mono Uo
 have r:=s5 hB (L:=c.out.map rP++[rP (row o)]) hm H (by rw[JK];simp;omega) (by
  rw[C.out,KB,KB]
  rfl)
 rw[show ((h.length+f.length:Nat):Int)=(((x.params.map λt=>[ah t]).length:Nat):Int)+(((c.args.map λt=>[ah t]).length:Nat):Int) by omega]at r d;cases X:aP (aK mo ((((x.params.map λt=>[ah t]).length:Nat):Int)+(((c.args.map λt=>[ah t]).length:Nat):Int)) 0) (go++[o])with
 |error e=>
  have he:=iR X;rw[X]at r d;obtain rfl:.error e=m:=d;refine ae r ?_;refine vy (p:=e≠0) ?_;exact aE
 |ok t=>
 have ht:=gB (qk B) hm H (by rw[<- X,c1,V,Int.natCast_add]);rw[X]at r d;have d:(bq f t).bind (cQ A 0 h.length)=m:=d;refine ae r ?_;refine v0 ?_;have F:=sZ hB (ys:=f) (x:=t) ht.ok ht.len O Uo C.args rfl;cases Y:bq f t with
 |error e=>
  have he:=kS Y;rw[Y]at F d;obtain rfl:.error e=m:=d;refine ae F ?_;refine vy (p:=e≠0) ?_;exact aE
 |ok u=>
 have hu:=lR (qk B) (N:=N+h.length) (ht.mono Uo) (λk y w=>(C.up_a I D.kind w).mono Uo) Y;rw[Y]at F d;have d:cQ A 0 h.length u=m:=d;refine ae F ?_;refine v0<|vi ?_;refine aB τok (σ:=Nat×Tr×Int) [(3,_)] [] (λq=>[(19,vP (ah (row q.2.1))),(20,vI q.2.2)]) (λ_=>[]) (λq=>q.1<=h.length/\q.2.2=(q.1:Int)-1/\Ft (QB B) (N+q.1) q.2.1/\cQ A 0 q.1 q.2.1=m) (λq=>q.1) (h.length,u,(((x.params.map λt=>[ah t]).length:Nat):Int)-1) ⟨KJ _,Us,hu,d⟩ ?_
 clear d
 rintro⟨j,t,v⟩ ⟨hj,W,ft,hr⟩;simp only at hj W ft hr;refine aj<|af (λg=>?_) (λg=>?_)
 ·have g:v≥0:=g
  obtain⟨j,rfl⟩:∃l,j=l+1:=⟨j-1,Uo⟩
  obtain rfl:v=(j:Int):=Uo
  simp only[cQ]at hr;obtain⟨p,hp,_⟩:=ay (l:=A) (k:=j);rw[show A.getD j (varX 0)=p by rw[QK,hp];rfl]at hr;have fp:=hq p (JQ hp);have fl:=fp.lift (qk B) (b:=(j:Int)) Uo Uo Uo;refine az j (x:=row p) (by rw[JX,hp];rfl) ?_;refine ae (lK fp Uo (b:=(j:Int)) Uo) ?_;refine v0 ?_;have Z:=o6 (x:=t) (u:=aK p j 0) (v:=0) (N:=N+j) (ft.mono Uo) fl Uo Uo;cases q4:bA t (aK p j 0) 0 with
  |error e=>
   have he:=jh q4;rw[q4]at Z hr;obtain rfl:.error e=m:=hr;refine ae Z ?_;refine vy (p:=e≠0) ?_;exact aE
  |ok z=>
   rw[q4]at Z hr;have fz:=je (qk B) (N:=N+j) (v:=0) (ft.mono Uo) fl Uo Uo Uo Uo q4;refine ae Z ?_;refine v0<|vi ?_;exact aw (j,z,(j:Int)-1) ⟨Us,by simp only,fz.mono Us,hr⟩
 ·have g:¬ v≥0:=g
  obtain rfl:j=0:=Uo
  obtain rfl:.ok t=m:=hr;exact aE
end
theorem NR{Q:Nd ->Prop}(m:Qk Q){N cq:Int}(D:0<=N)(E:N<=90000)(hm:0<=cq/\cq<=1000){ps:List Tr}(s:∀y∈ps,Ft Q N y)(hl:ps.length<=100){t:Tr}(ht:Ft Q (N+ps.length+cq) t):
  VX prog 248 [ah (row t),bD (ps.map row),pI cq] (match cQ ps cq ps.length t with
   | .ok z=>.ok (ah (row z))
   | .error e=>.error (fC e)):=by
 generalize a:cQ ps cq ps.length t=c;have F:=au (λt=>[ah t]) (ps.map row);have H:=au row ps;refine nK 31 [.tmp 6] τok func248 ?_;refine aj<|vi ?_;refine aB τok (σ:=Nat×Tr×Int) [(1,_),(2,_)] [] (λq=>[(0,vP (ah (row q.2.1))),(7,vI q.2.2)]) (λ_=>[]) (λq=>q.1<=ps.length/\q.2.2=(q.1:Int)-1/\Ft Q (N+q.1+cq) q.2.1/\cQ ps cq q.1 q.2.1=c) (λq=>q.1) (ps.length,t,((((ps.map row).map λt=>[ah t]).length:Nat):Int)-1) ⟨KJ _,Us,ht,a⟩ ?_
 clear a
 rintro⟨j,t,v⟩ ⟨w,A,i,hr⟩;simp only at w A i hr;refine aj<|af (λg=>?_) (λg=>?_)
 ·have g:v≥0:=g
  obtain⟨j,rfl⟩:∃l,j=l+1:=⟨j-1,Uo⟩
  obtain rfl:v=(j:Int):=Uo
  simp only[cQ]at hr;obtain⟨p,d,_⟩:=ay (l:=ps) (k:=j);rw[show ps.getD j (varX 0)=p by rw[QK,d];rfl]at hr;have o:=s p (JQ d);have r:=o.lift m (b:=(j:Int)) Uo Uo Uo;refine az j (x:=row p) (by rw[JX,d];rfl) ?_;refine ae (lK o Uo (b:=(j:Int)) Uo) ?_;refine ae (fG _) ?_;have f:=o6 (x:=t) (u:=aK p j 0) (v:=cq) (N:=N+j) (i.mono Uo) r Uo Uo;cases h:bA t (aK p j 0) cq with
  |error e=>
   have I:=jh h;rw[h]at f hr;obtain rfl:.error e=c:=hr;refine ae f ?_;refine bL (jH _ (show e≠0 by omega)) ?_;exact rfl
  |ok z=>
   rw[h]at f hr;have C:=je m (N:=N+j) (v:=cq) (i.mono Uo) r Uo Uo Uo Uo h;refine ae f ?_;refine ae (fG _) ?_;refine vi ?_;exact aw (j,z,(j:Int)-1) ⟨Us,by simp only,C.mono Us,hr⟩
 ·have g:¬ v≥0:=g
  obtain rfl:j=0:=Uo
  obtain rfl:.ok t=c:=hr;exact aE
def fe(B:ak)(n:Int):List PV:=[.int .i64 B.vars,.sl (B.orders.map eJ),.sl (B.ents.map cj),.int .i64 B.nat,.sl (B.prims.map iO),pI n]
def dC{α:Type}(B:ak)(f:α ->PV)(r:Except Int (α×Nat)):Except (List PanicEntry) (List PV×PV):=match r with
 | .ok q=>.ok (fe B q.2,f q.1)
 | .error e=>.error (fC e)
def fM(x:Tr):PV:=ah (row x)
def GD(q:Int×List Atom):PV:=.tup [pI q.1,cF q.2]
def GF(z:Tr):PV:=.tup [ah (row (headT z)),bD ((argsT z).map row)]
section
variable{B:ak}{cx:Ctx}{rc:RcJ}{n:Nat}
def bS(B:ak)(cx:Ctx)(t:Tr)(n:Nat)(r:Except Int (Tr×Nat)):Prop:=eH prog 142 259 (fe B n) [aH (cx.map aA),ah (row t)] (dC B fM r)
variable(hI:BoI B)(hB:GoodB B)(hcx:CxOk B cx)(hcl:cx.length<=260)
include hI hB hcx hcl
theorem wA{x:Tr}(d:Ft (QB B) (cx.length:Int) x)(n:Nat):eH prog 197 259 (fe B n) [aH (cx.map aA),ah (row x)] (dC B GF (dB B cx x n)):=by
 have h:=au aA cx;have b:=A3 hI hB hcx hcl d (n:Int);generalize a:dB B cx x n=c;unfold dB at a;refine aQ (r:=dC B GF c) 37 [.tmp 6,.tmp 7] τok func197 ?_;refine aj ?_
 by_cases f:256<cx.length
 ·rw[KX f]at a
  subst a;refine bL (GA Uo) ?_;exact rfl
 rw[KY f]at a;refine ae (Gz Uo) ?_;cases hr:dT B cx x (n:Int)with
 |error e=>
  rw[hr]at b a;subst a;refine ae b ?_;refine vk ?_;refine bL (fL (qq hr)) ?_;exact rfl
 |ok q=>
  have i:=(vB hB hcx Uo d hr).1;rw[hr]at b a;subst a;refine ae b ?_;refine vk ?_;refine ae vx' ?_;refine ae (ql i) ?_;exact eP9
theorem GG{x y:Tr}(f:Ft (QB B) (cx.length:Int) x)(h:Ft (QB B) (cx.length:Int) y)(n:Nat)(u:Bool):eH prog 230 259 (fe B n) [aH (cx.map aA),ah (row x),ah (row y),.bool u] (dC B PV.bool (ia B cx x y u n)):=by
 have i:=au aA cx;have b:=NM hI hB hcx hcl f h (n:Int) u;generalize a:ia B cx x y u n=c;unfold ia at a;refine aQ (r:=dC B PV.bool c) 40 [.tmp 10] τok func230 ?_;refine aj ?_
 by_cases d:256<cx.length
 ·rw[KX d]at a
  subst a;refine bL (GA Uo) ?_;exact rfl
 rw[KY d]at a;refine ae (Gz Uo) ?_;cases hr:lM B cx x y (n:Int) u with
 |error e=>
  rw[hr]at b a;subst a;refine ae b ?_;refine vk ?_;refine bL (fL (sG B GC _ _ _ _ _ _ hr)) ?_;exact rfl
 |ok q=>
  rw[hr]at b a;subst a;refine ae b ?_;refine vk ?_;refine ae vx' ?_;exact eP9
variable(hr:cG B rc)
include hr
theorem pi{t:Tr}(ht:Ft (QB B) (cx.length:Int) t){n:Nat}(d:bS B cx t n (rc cx t n)):eH prog 186 259 (fe B n) [aH (cx.map aA),ah (row t)] (dC B GD (dO B rc cx t n)):=by
 generalize b:dO B rc cx t n=c;unfold dO at b;unfold bS at d;refine aQ (r:=dC B GD c) 37 [.tmp 6,.tmp 7] τok func186 ?_;refine aj ?_;cases j:rc cx t n with
 |error e=>
  rw[j]at d b;obtain rfl:.error e=c:=b;refine bG d ?_;exact rfl
 |ok q=>
 obtain⟨y,m⟩:=q;have l:=hr.ft _ _ _ _ hcx hcl ht j;rw[j]at d b;have b:aJ (dB B cx y m) (λz n=>if (headT z).n.op≠2 \/0<(argsT z).length then .error 11 else .ok (((headT z).n.a,cd (headT z)),n))=c:=b;have h:=wA hI hB hcx hcl l m;refine ax d ?_;cases k:dB B cx y m with
 |error e=>
  rw[k]at h b;obtain rfl:.error e=c:=b;refine bG h ?_;exact rfl
 |ok q=>
 obtain⟨z,o⟩:=q;obtain⟨_,_,p⟩:=iU hB hcx l k;have i:=aC p.head;have s:=au (λt=>[ah t]) ((argsT z).map row);have u:=au row (argsT z);rw[k]at h b;have b:(if (headT z).n.op≠2 \/0<(argsT z).length then .error 11 else .ok (((headT z).n.a,cd (headT z)),o))=c:=b;refine ax h ?_;refine aI 0 (aM i) ?_;refine af (λg=>?_) (λg=>?_)
 ·rw[KX (.inl g)]at b
  subst b;refine bL (fL UO) ?_;exact rfl
 have g:(headT z).n.op=2:=QY g;refine af (λf=>?_) (λf=>?_)
 ·have f:((((argsT z).map row).map λt=>[ah t]).length:Int)>0:=f
  rw[KX (.inr Uo)]at b;subst b;refine bL (fL UO) ?_;exact rfl
 have f:¬ ((((argsT z).map row).map λt=>[ah t]).length:Int)>0:=f;rw[KY Uo]at b;subst b;refine aI 0 (aM i) ?_;refine ae (wo i.ok i.len g) ?_;exact kP9
theorem wB{t ty:Tr}(ht:Ft (QB B) (cx.length:Int) t)(h:Ft (QB B) (cx.length:Int) ty){n:Nat}(d:bS B cx t n (rc cx t n)):eH prog 198 259 (fe B n) [aH (cx.map aA),ah (row t),ah (row ty)] (dC B (λ_=>.tup []) (fH B rc cx t ty n)):=by
 generalize a:fH B rc cx t ty n=c;unfold fH at a;unfold bS at d;refine aQ (r:=dC B (λ_=>.tup []) c) 18 [] τok func198 ?_;refine aj ?_;cases i:rc cx t n with
 |error e=>
  rw[i]at d a;obtain rfl:.error e=c:=a;refine bG d ?_;exact rfl
 |ok q=>
 obtain⟨y,m⟩:=q;have k:=hr.ft _ _ _ _ hcx hcl ht i;rw[i]at d a;have a:aJ (ia B cx y ty true m) (λb n=>if b=true then .ok ((),n)else .error 13)=c:=a;have f:=GG hI hB hcx hcl k h m true;refine ax d ?_;cases j:ia B cx y ty true m with
 |error e=>
  rw[j]at f a;obtain rfl:.error e=c:=a;refine bG f ?_;exact rfl
 |ok q=>
  obtain⟨b,l⟩:=q;rw[j]at f a;refine ax f ?_;cases b with
  |true=>
   obtain rfl:.ok ((),l)=c:=a;exact eP9
  |false=>
   obtain rfl:.error 13=c:=a;refine bL (fL UO) ?_;exact rfl
end
def qA(B:ak)(rc:RcJ)(g:Nat):Prop:=∀(cx:Ctx) (k:Nat) (t:Tr) (n:Nat),CxOk B cx ->cx.length<=260 ->Ft (QB B) (cx.length:Int) t ->Mt k t ->k*5000+(row t).length<=g ->n<=100000 ->bS B cx t n (rc cx t n)
section
variable{B:ak}{cx:Ctx}{t:Tr}{n:Nat}{rc:RcJ}
variable(hI:BoI B)(hB:GoodB B)(hcx:CxOk B cx)(hcl:cx.length<=260)(ht:Ft (QB B) (cx.length:Int) t)
include hI hB hcx hcl ht
theorem NS(h1:t.n.op=1):bS B cx t n (.ok (aK (fR cx t.n.a).1 (t.n.a+1) 0,n)):=by
 obtain⟨c,a⟩:∃r,(.ok (aK (fR cx t.n.a).1 (t.n.a+1) 0,n):Except Int (Tr×Nat))=r:=⟨_,rfl⟩
 unfold bS;rw[a];have wt:=aC ht;have eC:=au bdP (cx.map aA);have f:=au aA cx;refine aQ (r:=dC B fM c) 258 [.tmp 6] τok func142 ?_;refine aj<|aI 0 (aM wt) ?_;refine vY t.n.op 1 ?_ h1;have d:0<=t.n.a/\t.n.a<cx.length:=by
  obtain⟨i,j⟩:=t;obtain⟨v0,h,_⟩:=ht.var_lt h1;exact⟨v0,h⟩
 have e:=nU d.1 d.2;obtain⟨c1,k⟩:=hcx _ _ e;refine vi ?_;refine vi ?_;refine vm (p:=bdP) (cx.length-1-t.n.a.toNat) (x:=aA (fR cx t.n.a)) (by rw[JX,e];rfl) ?_;refine vi ?_;refine ae (lK c1 Uo (b:=t.n.a+1) Uo) ?_;refine ae (fG _) ?_;refine vk ?_;subst a;exact eP9
theorem NT(h2:t.n.op=2):bS B cx t n (oe t n):=by
 obtain⟨b,a⟩:∃r,oe t n=r:=⟨_,rfl⟩
 unfold bS;rw[a];have wt:=aC ht;refine aQ (r:=dC B fM b) 258 [.tmp 6] τok func142 ?_;refine aj<|aI 0 (aM wt) ?_;refine vN t.n.op 1 ?_;refine vY t.n.op 2 ?_ h2;have c:=sF ht h2;refine ae (wo ht.ok ht.len h2) ?_;refine ae (NK c) ?_;unfold oe at a
 by_cases h:dA (cd t) 1=0
 ·rw[KY Uo]at a
  subst a;have:=(Ah c h).hi;rw[h];refine ae vx' ?_;refine ae (GB 1 Uo) ?_;exact eP9
 ·rw[KX h]at a
  subst a;refine bL (fL h) ?_;exact rfl
theorem NU(c:t.n.op=8):bS B cx t n (.ok (tr (aN B t.n.a).type,n)):=by
 obtain⟨b,a⟩:∃r,(.ok (tr (aN B t.n.a).type,n):Except Int (Tr×Nat))=r:=⟨_,rfl⟩
 unfold bS;rw[a];have wt:=aC ht;refine aQ (r:=dC B fM b) 258 [.tmp 6] τok func142 ?_;refine aj<|aI 0 (aM wt) ?_;refine vN t.n.op 1 ?_;refine vN t.n.op 2 ?_;refine vY t.n.op 8 ?_ c;obtain⟨i,x,h,j,k,e,f,d⟩:=hB.dfn ht.node' c;refine cP i e ?_;refine vk ?_;subst a;refine⟨_,_,_,rfl,rfl,?_,rfl,rfl⟩;simp only[fM,f,d.type,jC d.ft.ok,fY']
 rfl
theorem NV(d:t.n.op=9):bS B cx t n (dg (gu B t.n.a) n):=by
 obtain⟨b,a⟩:∃r,dg (gu B t.n.a) n=r:=⟨_,rfl⟩
 unfold bS;rw[a];have wt:=aC ht;refine aQ (r:=dC B fM b) 258 [.tmp 6] τok func142 ?_;refine aj<|aI 0 (aM wt) ?_;refine vN t.n.op 1 ?_;refine vN t.n.op 2 ?_;refine vN t.n.op 8 ?_;refine vY t.n.op 9 ?_ d;have f:=dn ht.ok.pl;have c:=NO hB (zu ht.node' d f.2.2.1);cases q1:gu B t.n.a with
 |error e=>
  have h:=Am q1;rw[q1]at c a;obtain rfl:.error e=b:=a;refine ae c ?_;refine bL (jH _ (show e≠0 by omega)) ?_;refine gj ?_;refine vk ?_;exact rfl
 |ok z=>
  rw[q1]at c a;obtain rfl:.ok (z,n)=b:=a;refine ae c ?_;refine ae (fG _) ?_;exact kP9
theorem NW(b:t.n.op=10):bS B cx t n (dg (hY B t.n.a t.n.b) n):=by
 obtain⟨c,a⟩:∃r,dg (hY B t.n.a t.n.b) n=r:=⟨_,rfl⟩
 unfold bS;rw[a];have wt:=aC ht;refine aQ (r:=dC B fM c) 258 [.tmp 6] τok func142 ?_;refine aj<|aI 0 (aM wt) ?_;refine vN t.n.op 1 ?_;refine vN t.n.op 2 ?_;refine vN t.n.op 8 ?_;refine vN t.n.op 9 ?_;refine vY t.n.op 10 ?_ b;have f:=dn ht.ok.pl;have d:=NP hB (jD ht.node' (.inl b)) f.1 (uT ht.node' b);cases q1:hY B t.n.a t.n.b with
 |error e=>
  have h:=An q1;rw[q1]at d a;obtain rfl:.error e=c:=a;refine ae d ?_;refine bL (jH _ (show e≠0 by omega)) ?_;refine gj ?_;refine vk ?_;exact rfl
 |ok z=>
  rw[q1]at d a;obtain rfl:.ok (z,n)=c:=a;refine ae d ?_;refine ae (fG _) ?_;exact kP9
variable(hr:cG B rc)
include hr
theorem NX(h4:t.n.op=4)(H:n<=100000)(u:∀n,n<=100000 ->bS B cx (kidD t 0) n (rc cx (kidD t 0) n))(w:cx.length<=256 ->∀n,n<=100000 ->bS B (cx++[(kidD t 0,none)]) (kidD t 1) n (rc (cx++[(kidD t 0,none)]) (kidD t 1) n)):bS B cx t n (og B rc cx t n):=by
 obtain⟨b,a⟩:∃r,og B rc cx t n=r:=⟨_,rfl⟩
 unfold bS;rw[a];have wt:=aC ht;have I:=au aA cx;refine aQ (r:=dC B fM b) 258 [.tmp 6] τok func142 ?_;refine aj<|aI 0 (aM wt) ?_;refine vN t.n.op 1 ?_;refine vN t.n.op 2 ?_;refine vN t.n.op 8 ?_;refine vN t.n.op 9 ?_;refine vN t.n.op 10 ?_;refine ae (iS ht) ?_;refine vY t.n.op 4 ?_ h4;obtain⟨P,j,K⟩:=dG ht (.inl h4);unfold og at a;have k:=pi hI hB hcx hcl hr j (u n H);refine az 0 (aG wt) ?_;cases m:dO B rc cx (kidD t 0) n with
 |error e=>
  rw[m]at k a;obtain rfl:.error e=b:=a;refine bG k ?_;exact rfl
 |ok p=>
 obtain⟨⟨L,c⟩,y⟩:=p;obtain⟨c1,z,_⟩:=fI hB hr m;obtain⟨_,M,A⟩:=kR hB hr hcx j m;simp only at z M A;rw[m]at k a;refine ax k ?_;have d:=hcx.snoc j (v:=none) λx C=>by cases C
 have f:Ft (QB B) ((cx++[(kidD t 0,none)]).length:Int) (kidD t 1):=by rw[bI];exact K.mono Uo
 have s:=pi hI hB d (by rw[bI];omega) hr f (w Uo y Uo);have a:aJ (dO B rc (cx++[(kidD t 0,none)]) (kidD t 1) y) (λq n=>if cJ c q.2≠0 then .error (cJ c q.2)else .ok (eU q.1 (dz c q.2),n))=b:=a;refine az 0 (aG wt) ?_;refine ae (ph hcx Uo j (o:=none) λx C=>by cases C) ?_;refine az 1 (aG wt) ?_;cases D:dO B rc (cx++[(kidD t 0,none)]) (kidD t 1) y with
 |error e=>
  rw[D]at s a;obtain rfl:.error e=b:=a;refine bG s ?_;refine gj ?_;refine vk ?_;exact rfl
 |ok p=>
 obtain⟨⟨F,i⟩,N⟩:=p;obtain⟨_,O,E⟩:=kR hB hr d f D;simp only at O E;rw[D]at s a;have a:(if cJ c i≠0 then .error (cJ c i)else .ok (eU F (dz c i),N))=b:=a;refine ax s ?_;refine vk ?_;refine ae (A8 A E) ?_
 by_cases h:cJ c i=0
 ·rw[KY Uo]at a
  subst a;have:=(Ai A E h).hi;rw[h];refine ae vx' ?_;refine ae (GB F (l:=dz c i) Uo) ?_;exact eP9
 ·rw[KX h]at a
  subst a;refine bL (fL h) ?_;exact rfl
theorem NY(E:t.n.op=5)(H:n<=100000)(l:∀n,n<=100000 ->bS B cx (kidD t 0) n (rc cx (kidD t 0) n))(m:cx.length<=256 ->∀n,n<=100000 ->bS B (cx++[(kidD t 0,none)]) (kidD t 1) n (rc (cx++[(kidD t 0,none)]) (kidD t 1) n)):bS B cx t n (oh B rc cx t n):=by
 obtain⟨b,a⟩:∃r,oh B rc cx t n=r:=⟨_,rfl⟩
 unfold bS;rw[a];have wt:=aC ht;have I:=au aA cx;refine aQ (r:=dC B fM b) 258 [.tmp 6] τok func142 ?_;refine aj<|aI 0 (aM wt) ?_;refine vN t.n.op 1 ?_;refine vN t.n.op 2 ?_;refine vN t.n.op 8 ?_;refine vN t.n.op 9 ?_;refine vN t.n.op 10 ?_;refine ae (iS ht) ?_;refine vN t.n.op 4 ?_;refine vY t.n.op 5 ?_ E;obtain⟨R,c,K⟩:=dG ht (.inr E);unfold oh at a;have h:=pi hI hB hcx hcl hr c (l n H);refine az 0 (aG wt) ?_;cases i:dO B rc cx (kidD t 0) n with
 |error e=>
  rw[i]at h a;obtain rfl:.error e=b:=a;refine bG h ?_;exact rfl
 |ok p=>
 obtain⟨⟨L,M⟩,q⟩:=p;obtain⟨c1,s,_⟩:=fI hB hr i;obtain⟨_,N,O⟩:=kR hB hr hcx c i;simp only at s N O;rw[i]at h a;refine ax h ?_;have d:=hcx.snoc c (v:=none) λx u=>by cases u
 have w:Ft (QB B) ((cx++[(kidD t 0,none)]).length:Int) (kidD t 1):=by rw[bI];exact K.mono Uo
 have f:=m Uo q Uo;unfold bS at f;have a:aJ (rc (cx++[(kidD t 0,none)]) (kidD t 1) q) (λz n=>dg (bq [kidD t 0] z) n)=b:=a;have M:=au (λt=>[ah t]) ((kidsT t).map row);have S:=au row (kidsT t);refine bH 0 1 ?_ (λy A=>by
  obtain⟨_,_,rfl⟩:=List.mem_map.1 A
  rfl)
 have P:((((kidsT t).map row).map λt=>[ah t]).take 1).drop 0=([kidD t 0].map row).map rP:=by
  rw[List.drop_zero,<- List.map_take,<- List.map_take,du (cw wt (k:=0)).1]
  rfl
 rw[P];refine az 0 (aG wt) ?_;refine ae (ph hcx Uo c (o:=none) λx u=>by cases u) ?_;refine az 1 (aG wt) ?_;cases C:rc (cx++[(kidD t 0,none)]) (kidD t 1) q with
 |error e=>
  rw[C]at f a;obtain rfl:.error e=b:=a;refine bG f ?_;refine gj ?_;refine vk ?_;exact rfl
 |ok p=>
 obtain⟨y,F⟩:=p;have D:=hr.ft _ _ _ _ d (by rw[bI];omega) w C;simp only at D;rw[C]at f a;have a:dg (bq [kidD t 0] y) F=b:=a;refine ax f ?_;have j:=Gx (x:=y) D.ok D.len (ys:=[kidD t 0]) (λy A=>by
  obtain rfl:y=kidD t 0:=by simpa using A
  exact⟨c.ok,c.len⟩) Ud
 cases q1:bq [kidD t 0] y with
 |error e=>
  have T:=kS q1;rw[q1]at j a;obtain rfl:.error e=b:=a;refine ae j ?_;refine bL (jH _ (show e≠0 by omega)) ?_;refine gj ?_;refine vk ?_;exact rfl
 |ok z=>
  rw[q1]at j a;obtain rfl:.ok (z,F)=b:=a;refine ae j ?_;refine ae (fG _) ?_;exact kP9
theorem NZ(C:t.n.op=6)(I:n<=100000)(j:∀n,n<=100000 ->bS B cx (kidD t 0) n (rc cx (kidD t 0) n))(k:∀n,n<=100000 ->bS B cx (kidD t 1) n (rc cx (kidD t 1) n)):bS B cx t n (oi B rc cx t n):=by
 obtain⟨b,a⟩:∃r,oi B rc cx t n=r:=⟨_,rfl⟩
 unfold bS;rw[a];have wt:=aC ht;have K:=au aA cx;refine aQ (r:=dC B fM b) 258 [.tmp 6] τok func142 ?_;refine aj<|aI 0 (aM wt) ?_;refine vN t.n.op 1 ?_;refine vN t.n.op 2 ?_;refine vN t.n.op 8 ?_;refine vN t.n.op 9 ?_;refine vN t.n.op 10 ?_;refine ae (iS ht) ?_;refine vN t.n.op 4 ?_;refine vN t.n.op 5 ?_;refine vY t.n.op 6 ?_ C;obtain⟨R,L,D⟩:=o5 ht C;unfold oi at a;refine az 0 (aG wt) ?_;have c:=j n I;unfold bS at c;cases f:rc cx (kidD t 0) n with
 |error e=>
  rw[f]at c a;obtain rfl:.error e=b:=a;refine bG c ?_;exact rfl
 |ok q=>
 obtain⟨y,m⟩:=q;have l:=hr.ft _ _ _ _ hcx hcl L f;have M:=hr.le _ _ _ _ f;simp only at l M;rw[f]at a c;have hW:=wA hI hB hcx hcl l m;have a:aJ (dB B cx y m) (λz n=>if (headT z).n.op≠4 \/0<(argsT z).length then .error 12 else
  aJ (fH B rc cx (kidD t 1) (kidD (headT z) 0) n) λ_ n=>dg (bA (kidD (headT z) 1) (kidD t 1) 0) n)=b:=a
 refine ax c ?_;cases o:dB B cx y m with
 |error e=>
  rw[o]at a hW;obtain rfl:.error e=b:=a;refine bG hW ?_;exact rfl
 |ok q=>
 obtain⟨z,p⟩:=q;obtain⟨_,s,E⟩:=iU hB hcx l o;simp only at E s;have w:=E.head;have A:=aC w;have S:=au (λt=>[ah t]) ((argsT z).map row);have T:=au row (argsT z);rw[o]at a hW;have a:(if (headT z).n.op≠4 \/0<(argsT z).length then .error 12 else
  aJ (fH B rc cx (kidD t 1) (kidD (headT z) 0) p) λ_ n=>dg (bA (kidD (headT z) 1) (kidD t 1) 0) n)=b:=a
 refine ax hW ?_;refine aI 0 (aM A) ?_;refine af (λg=>?_) (λg=>?_)
 ·rw[KX (.inl g)]at a
  subst a;refine bL (fL UO) ?_;exact rfl
 have g:(headT z).n.op=4:=QY g;refine af (λd=>?_) (λd=>?_)
 ·have d:((((argsT z).map row).map λt=>[ah t]).length:Int)>0:=d
  rw[KX (.inr Uo)]at a;subst a;refine bL (fL UO) ?_;exact rfl
 have d:¬ ((((argsT z).map row).map λt=>[ah t]).length:Int)>0:=d;rw[KY Uo]at a;refine ae (iS w) ?_;obtain⟨U,O,P⟩:=dG w (.inl g);refine az 1 (aG wt) ?_;refine az 0 (aG A) ?_;have h:=wB hI hB hcx hcl hr D O (k p Uo);cases F:fH B rc cx (kidD t 1) (kidD (headT z) 0) p with
 |error e=>
  rw[F]at a h;obtain rfl:.error e=b:=a;refine bG h ?_;refine vk ?_;exact rfl
 |ok q=>
 obtain⟨_,H⟩:=q;rw[F]at a h;have a:dg (bA (kidD (headT z) 1) (kidD t 1) 0) H=b:=a;refine ax h ?_;refine vk ?_;refine az 1 (aG A) ?_;refine az 1 (aG wt) ?_;have i:=o6 (x:=kidD (headT z) 1) (u:=kidD t 1) (v:=0) (N:=(cx.length:Int)) (P.mono Uo) D Uo Uo;cases q1:bA (kidD (headT z) 1) (kidD t 1) 0 with
 |error e=>
  have V:=jh q1;rw[q1]at i a;obtain rfl:.error e=b:=a;refine ae i ?_;refine bL (jH _ (show e≠0 by omega)) ?_;refine gj ?_;refine vk ?_;exact rfl
 |ok z=>
  rw[q1]at i a;obtain rfl:.ok (z,H)=b:=a;refine ae i ?_;refine ae (fG _) ?_;exact kP9
end
theorem GH{B:ak}{i:Nat}{s:Int}{N:Int}{y:Tr}(h:Ft (cv B i s) N y):Mt i y:=λm b a=>by
 have:=h.al m b;simp[cv,bh,a,bk]at this;exact this.2.1
theorem s6(l:List Tr)(y:Tr):bF (l++[y])=bF l++[(y,none)]:=by simp[bF]
theorem s7(l:List Tr):(bF l).length=l.length:=by simp[bF]
theorem s8{B:ak}{l:List Tr}(h:∀(k:Nat) y,l[k]?=some y ->Ft (QB B) (k:Int) y):CxOk B (bF l):=λi q a=>by
 unfold bF at a;rw[JX]at a;obtain⟨y,b,rfl⟩:=Option.map_eq_some_iff.1 a;exact⟨h i y b,λx c=>by cases c⟩
theorem Mt.kid{k:Nat}{t y:Tr}(h:Mt k t)(j:y∈kidsT t):Mt k y/\(row y).length<(row t).length:=by
 obtain⟨n,d⟩:=t;have e:∀(l:List Tr) (z:Tr),z∈l ->(∀m∈row z,m∈rows l)/\(row z).length<=(rows l).length:=by
  intro l
  induction l with
  |nil=>intro z b;cases b
  |cons a l x=>
   intro z b;rcases List.mem_cons.1 b with rfl|b
   ·exact⟨λm c=>by simp[rows,c],by simp[rows]⟩
   ·obtain⟨o,r⟩:=x z b
    exact⟨λm c=>by simp[rows,o m c],by simp[rows];omega⟩
 have p:row (.mk n d)=n::rows d:=by simp[row]
 have q:∀z∈d,(∀m∈row z,m∈row (.mk n d))/\(row z).length<(row (.mk n d)).length:=λz b=>by
  obtain⟨o,r⟩:=e d z b;rw[p];exact⟨λm c=>List.mem_cons_of_mem _ (o m c),Uk⟩
 have f:(∀m∈row y,m∈row (.mk n d))/\(row y).length<(row (.mk n d)).length:=by
  simp only[kidsT]at j;split at j
  ·simp at j
  split at j
  ·obtain⟨z,b,i⟩:=List.mem_flatMap.1 j
   obtain⟨o,r⟩:=q z b;obtain⟨w,s⟩:=z;have i:y∈s:=i;obtain⟨A,C⟩:=e s y i;have u:row (.mk w s)=w::rows s:=by simp[row]
   rw[u]at o r;exact⟨λm c=>o m (List.mem_cons_of_mem _ (A m c)),by simp at r;omega⟩
  ·exact q y j
 exact⟨λm c v=>h m (f.1 m c) v,f.2⟩
theorem GI{f:Tr}{i:Nat}(hi:i<f.n.b.toNat):(aY f).take (i+1)=(aY f).take i++[(aK (kidD f (2*i)) i 0,none)]:=du (Ad hi)
theorem ox{α β:Type}{q:α×Nat}{k:α ->Nat ->Except Int (β×Nat)}:aJ (.ok q) k=k q.1 q.2:=rfl
section
variable{B:ak}{cx:Ctx}{t:Tr}{n g:Nat}{rc:RcJ}
variable(hI:BoI B)(hB:GoodB B)(hr:cG B rc)
section
variable(hcx:CxOk B cx)(hcl:cx.length<=260)(ht:Ft (QB B) (cx.length:Int) t)
include hI hB hr hcx hcl ht
theorem Ba(l:t.n.op=12)(hn:n<=100000)(y:∀i,i<t.n.b.toNat ->∀n,n<=100000 ->bS B cx (kidD t (2*i)) n (rc cx (kidD t (2*i)) n))(z:cx.length<=256 ->∀i,i<t.n.b.toNat ->∀n,n<=100000 ->bS B (cx++aY t) (kidD t (2*i+1)) n (rc (cx++aY t) (kidD t (2*i+1)) n)):
  eH prog 200 259 (fe B n) [aH (cx.map aA),ah (row t),bD ((kidsT t).map row)] (dC B fM (lU B rc cx t n)):=by
 obtain⟨l1,l2,l3,l4,l5⟩:=dF ht.ok l;have W:=fS ht.ok l;obtain⟨u,N⟩:∃k,t.n.b.toNat=k:=⟨_,rfl⟩
 have O:t.n.b=(u:Int):=Uo
 have wt:=aC ht;have A:=o7 t;generalize d:lU B rc cx t n=s;unfold lU at d;rw[N]at d y z A;obtain⟨T,C⟩:∃f:Unit ->Nat ->Except Int (Tr×Nat),f=λ_ n=>if gr B t≠0 then .error (gr B t)else aJ (mZ B rc (cx++aY t) t u u 0 n) λ_ n=>.ok (kidD t (2*t.n.a.toNat),n):=⟨_,rfl⟩
 rw[<- C]at d;refine aQ (r:=dC B fM s) 84 [.tmp 8] τok func200 ?_;refine aj<|aI 0 (aM wt) ?_;refine aB τok (σ:=Nat×Nat) [(0,_),(1,_),(2,_),(3,_),(9,_),(18,_)] [] (λq=>[(10,vP (aH ((cx++(aY t).take q.1).map aA))),(19,vI q.1)]) (λq=>[(0,.st 1 259 ((fe B q.2).map .p))]) (λq=>q.1<=u/\q.2<=n/\(0<q.1 ->cx.length<=256)/\aJ (mY B rc cx t (u-q.1) q.1 q.2) T=s) (λq=>u-q.1) (0,n) ⟨KV _,KJ _,λh=>absurd h (Nat.lt_irrefl _),d⟩ ?_ (x1:=⟨by rw[List.take_zero,JD];rfl,rfl,trivial⟩)
 clear d
 rintro⟨i,m⟩ ⟨X,U,K,a⟩;simp only at X U K a;refine aj<|af (λg=>?_) (λg=>?_)
 ·have g:(i:Int)<t.n.b:=g
  rw[show u-i=(u-(i+1))+1 by omega]at a;simp only[mY]at a;obtain⟨_,_,f0,_⟩:=gZ ht l (i:=i) Uo;have L:=pi hI hB hcx hcl hr f0 (y i Uo m Uo);refine vi ?_;refine az (2*i) (aG wt) ?_;cases v:dO B rc cx (kidD t (2*i)) m with
  |error e=>
   rw[v]at L a;obtain rfl:.error e=s:=a;refine bG L ?_;exact rfl
  |ok q=>
  obtain⟨q1,D⟩:=q;obtain⟨c1,w,_⟩:=fI hB hr v;simp only at w;rw[v]at L a;refine ax L ?_;refine vi ?_;refine az (2*i) (aG wt) ?_;refine ae (lK f0 Uo (b:=(i:Int)) Uo) ?_;refine ae (fG _) ?_;have E:=f0.lift (qk B) (b:=(i:Int)) Uo Uo Uo;have Y:((aY t).take i).length=i:=by rw[VJ];omega
  have e6:(cx++(aY t).take i).length=cx.length+i:=by rw[JK,Y]
  have F:CxOk B (cx++(aY t).take i):=λk q P=>by
   refine od hcx Uo ht l k q ?_
   by_cases Z:k<(cx++(aY t).take i).length
   ·rw[show cx++aY t=(cx++(aY t).take i)++(aY t).drop i by rw[List.append_assoc,List.take_append_drop],QH Z]
    exact P
   ·rw[QF Uo]at P
    cases P
  refine ae (ph F Uo (o:=none) (E.mono Uo) λx hx=>by cases hx) ?_;refine vi ?_;exact aw (i+1,D) ⟨Us,Us,λ_=>c1,a⟩ (x:=⟨KG (λc:Ctx=>some (vP (aH (c.map aA)))) (by rw[List.append_assoc,GI (f:=t) (i:=i) Uo]),rfl,trivial⟩)
 have g:¬ (i:Int)<t.n.b:=g;obtain rfl:i=u:=Uo
 have K:=K Uo;rw[Nat.sub_self]at a;have a:T () m=s:=a;rw[C]at a;simp only at a;have H:=od hcx Uo ht l;have V:(cx++aY t).length=cx.length+i:=by rw[JK,A]
 rw[JG Uo];refine ae (NL hI hB ht l) ?_
 by_cases R:gr B t=0
 rotate_left
 ·rw[KX R]at a
  subst a;refine bL (fL R) ?_;exact rfl
 rw[KY Uo]at a;rw[R];refine ae vx' ?_;refine aB τok (σ:=Nat×Nat) [(0,_),(2,_),(3,_),(9,_),(10,_),(52,_)] [] (λq=>[(53,vI q.1)]) (λq=>[(0,.st 1 259 ((fe B q.2).map .p))]) (λq=>q.1<=i/\q.2<=n/\aJ (mZ B rc (cx++aY t) t i (i-q.1) q.1 q.2) (λ_ n=>.ok (kidD t (2*t.n.a.toNat),n))=s) (λq=>i-q.1) (0,m) ⟨KV _,U,a⟩ ?_
 clear a
 rintro⟨j,D⟩ ⟨hj,w,a⟩;simp only at hj w a;refine aj<|af (λI=>?_) (λI=>?_)
 ·have I:(j:Int)<t.n.b:=I
  rw[show i-j=(i-(j+1))+1 by omega]at a;simp only[mZ]at a;obtain⟨_,_,f0,f1⟩:=gZ ht l (i:=j) Uo;have E:=f0.lift (qk B) (b:=(i:Int)) Uo Uo Uo;refine vi ?_;refine vi ?_;refine az (2*j+1) (aG wt) ?_;refine vi ?_;refine az (2*j) (aG wt) ?_;refine ae (lK f0 Uo (b:=t.n.b) Uo) ?_;refine ae (fG _) ?_;have f1:Ft (QB B) ((cx++aY t).length:Int) (kidD t (2*j+1)):=f1.mono Uo;have E:Ft (QB B) ((cx++aY t).length:Int) (aK (kidD t (2*j)) i 0):=E.mono Uo;have M:=wB hI hB H Uo hr f1 E (z K j Uo D Uo);rw[O];cases v:fH B rc (cx++aY t) (kidD t (2*j+1)) (aK (kidD t (2*j)) i 0) D with
  |error e=>
   rw[v]at M a;obtain rfl:.error e=s:=a;refine bG M ?_;refine vk ?_;exact rfl
  |ok q=>
   obtain⟨_,m2⟩:=q;have S:=(lV hr v).2;simp only at S;rw[v]at M a;refine ax M ?_;refine vk ?_;refine vi ?_;refine aw (j+1,m2) ⟨Us,Us,a⟩
 ·have I:¬ (j:Int)<t.n.b:=I
  obtain rfl:j=i:=Uo
  rw[Nat.sub_self]at a;obtain rfl:.ok (kidD t (2*t.n.a.toNat),D)=s:=a;refine aI 0 (aM wt) ?_;refine vi ?_;refine az (2*t.n.a.toNat) (aG wt) ?_;exact eP9
end
include hI hB hr
theorem N0(O:qA B rc g)(hn:n<=100000){a:Int}(ha:bk B B.ents.length a=true)(X:a.toNat*5000+4096<=g):eH prog 232 259 (fe B n) [pI a] (dC B PV.bool (j6 B rc a n)):=by
 obtain⟨i,x,s,f,qi,rfl,_,H,P,A⟩:=hB.fam ha (KJ _);obtain⟨I,e2,e3⟩:=A.ps_eq H;have X:i*5000+4096<=g:=by simpa using X
 generalize d:j6 B rc (i:Int) n=v;unfold j6 at d;rw[I,P]at d;have a0:=A.lp;have a1:=A.lc;have l1:=au bM x.ctors;have l2:=au (λt=>[ah t]) x.params;have l3:=KG List.length A.params;rw[KF]at l3;refine aQ (r:=dC B PV.bool v) 67 [.tmp 4] τok func232 ?_;refine aj<|cP i H ?_;refine af (λK=>?_) (λK=>?_)
 ·have K:((x.ctors.map bM).length:Int)=0:=K
  rw[KX Uo]at d;subst d;exact eP9
 have K:¬ ((x.ctors.map bM).length:Int)=0:=K;rw[KY Uo]at d;refine af (λC=>?_) (λC=>?_)
 ·have C:((x.ctors.map bM).length:Int)>1:=C
  rw[KX Uo]at d;subst d;exact eP9
 have C:¬ ((x.ctors.map bM).length:Int)>1:=C;rw[KY Uo]at d;obtain⟨c,R,_⟩:=ay (l:=x.ctors) (k:=0);obtain⟨h,go,F⟩:=A.ct 0 c R;obtain⟨S,T,e6⟩:=F.ag_eq H R;have S:dU B (i:Int) 0=h:=S;rw[S]at d;have a2:=F.la;have l4:=au (λt=>[ah t]) c.args;have l5:=KG List.length F.args;rw[KF]at l5;have w:∀(k:Nat) y,f[k]?=some y ->Ft (QB B) (k:Int) y:=λk y u=>A.up_p hB H u;have z:∀j,CxOk B (bF (f++h.take j)):=λj=>s8 λk y u=>by
  by_cases hk:k<f.length
  ·rw[QH hk]at u
   exact w k y u
  ·rw[QU Uo]at u
   rw[List.getElem?_take]at u;split at u
   ·have:=F.up_a H A.kind u
    exact this.mono Uo
   ·cases u
 have L:∀j,CxOk B (bF (f.take j)):=λj=>s8 λk y u=>by
  rw[List.getElem?_take]at u;split at u
  ·exact w k y u
  ·cases u
 refine dm 6 1000 260 2 rfl rfl<|mI 6 1000 ?_;refine aB τok (σ:=Nat) [(0,_),(5,_),(30,_),(31,_)] [(0,_),(5,_)] (λj=>[(6,vP (aH ((bF (f.take j)).map aA))),(32,vI j)]) (λ_=>[]) (λj=>j<=f.length) (λj=>f.length-j) 0 (KV _) ?_;intro j Y;have T:(f.take j).length=j:=by rw[VJ];omega
 refine aj<|af (λg=>?_) (λg=>?_)
 ·have g:(j:Int)<((x.params.map λt=>[ah t]).length:Int):=g
  obtain⟨p,E,_⟩:=ay (l:=f) (k:=j);refine az j (x:=row p) (by rw[A.params,JX,E];rfl) ?_;refine ae (ph (L j) (by rw[s7,T];omega) (t:=p) (o:=none) (by rw[s7,T];exact w j p E) λx U=>by cases U) ?_;refine vi ?_;exact aw (j+1) (by show j+1<=_;omega) (x:=⟨KG (λc:Ctx=>some (vP (aH (c.map aA)))) (by rw[du E,s6]),rfl,trivial⟩)
 have g:¬ (j:Int)<((x.params.map λt=>[ah t]).length:Int):=g;obtain rfl:j=f.length:=Uo
 rw[List.take_length];refine gp 0 R ?_;refine aB τok (σ:=Nat×Nat) [(0,_),(46,_),(47,_)] [] (λq=>[(6,vP (aH ((bF (f++h.take q.1)).map aA))),(48,vI q.1)]) (λq=>[(0,.st 1 259 ((fe B q.2).map .p))]) (λq=>q.1<=h.length/\q.2<=n/\mX B rc (bF (f++h.take q.1)) (h.drop q.1) q.2=v) (λq=>h.length-q.1) (0,n) ⟨KV _,KJ _,by simpa using d⟩ ?_ (x1:=⟨by rw[List.take_zero,JD];rfl,rfl,trivial⟩)
 clear d
 rintro⟨j,m⟩ ⟨Y,hm,b⟩;simp only at Y hm b;refine aj<|af (λg=>?_) (λg=>?_);rotate_left
 ·have g:¬ (j:Int)<((c.args.map λt=>[ah t]).length:Int):=g
  obtain rfl:j=h.length:=Uo
  rw[List.drop_length]at b;obtain rfl:.ok (true,m)=v:=b;exact eP9
 have g:(j:Int)<((c.args.map λt=>[ah t]).length:Int):=g;obtain⟨p,E,hd⟩:=ay (l:=h) (k:=j);rw[hd]at b;simp only[mX]at b;have M:(bF (f++h.take j)).length=f.length+j:=by rw[s7];simp;omega
 have D:Ft (QB B) ((bF (f++h.take j)).length:Int) p:=by rw[M];exact F.up_a H A.kind E
 have N:=pi hI hB (z j) Uo hr D (O _ i _ m (z j) Uo D (GH (F.fa j p E)) (by have:=D.len;omega) Uo);refine az j (x:=row p) (by rw[F.args,JX,E];rfl) ?_;cases I:dO B rc (bF (f++h.take j)) p m with
 |error e=>
  rw[I]at N b;obtain rfl:.error e=v:=b;refine bG N ?_;exact rfl
 |ok q=>
 obtain⟨⟨kd,lv⟩,V⟩:=q;obtain⟨_,W,_⟩:=fI hB hr I;simp only at W;rw[I]at N b;have b:(if kd≠0 then .ok (false,V)else mX B rc (bF (f++h.take j)++[(p,none)]) (h.drop (j+1)) V)=v:=b;refine ax N ?_;refine af (λC=>?_) (λC=>?_)
 ·rw[KX C]at b
  subst b;exact eP9
 rw[KY C]at b;refine ae (ph (z j) Uo (t:=p) (o:=none) D λx U=>by cases U) ?_;refine vi ?_;have Z:bF (f++h.take (j+1))=bF (f++h.take j)++[(p,none)]:=by rw[du E,<- List.append_assoc,s6]
 exact aw (j+1,V) ⟨Us,Us,by simp only;rw[Z];exact b⟩ (x:=⟨KG (λc:Ctx=>some (vP (aH (c.map aA)))) Z.symm,rfl,trivial⟩)
end
section
variable{B:ak}{cx:Ctx}{t:Tr}{n g:Nat}{rc:RcJ}
variable(hI:BoI B)(hB:GoodB B)
include hI hB
theorem N1(hcx:CxOk B cx)(hcl:cx.length<=256){n:Nat}{a:Int}(ha:bk B B.ents.length a=true){z:List Tr}(H:∀y∈z,Ft (QB B) (cx.length:Int) y)(a4:z.length=(eQ B a).length){m:Tr}(hm:Ft (QB B) (cx.length:Int) m):
  eH prog 231 259 (fe B n) [aH (cx.map aA),pI a,bD (z.map row),ah (row m)] (dC B pI (qp B cx a z m n)):=by
 obtain⟨i0,x,s,ps,qi,ei,_,hi,b3,U⟩:=hB.fam ha (KJ _);obtain⟨e1,e2,e3⟩:=U.ps_eq hi;rw[<- ei]at e1 e2 e3;have b2:=kQ hB ha;generalize D:qp B cx a z m n=A;unfold qp at D;rw[e2]at D;rw[e1]at a4;have b4:=U.lp;have b5:=U.li;have l4:=au (λt=>[ah t]) x.indices;have l5:=KG List.length U.indices;rw[KF]at l5;have l6:=au (λt=>[ah t]) (z.map row);have l7:=au row z;obtain⟨np,b6⟩:∃k,ps.length=k:=⟨_,rfl⟩
 obtain⟨u,a5⟩:∃k,qi.length=k:=⟨_,rfl⟩
 rw[a5]at D;refine aQ (r:=dC B pI A) 148 [.tmp 10] τok func231 ?_;refine aj<|cP i0 hi ?_ (hi:=ei);refine aB τok (σ:=Nat×Ctx×Tr×Nat) [(0,_),(2,_),(3,_),(11,_),(12,_)] [(11,_)] (λq=>[(1,vP (aH (q.2.1.map aA))),(4,vP (ah (row q.2.2.1))),(13,vI q.1)]) (λq=>[(0,.st 1 259 ((fe B q.2.2.2).map .p))])
  (λq=>q.1<=u+1/\CxOk B q.2.1/\(q.2.1.length=cx.length+q.1/\q.2.1.length<=257)/\Ft (QB B) (q.2.1.length:Int) q.2.2.1/\q.2.2.2<=n/\jl B a z u (u+1-q.1) q.1 q.2.1 q.2.2.1 q.2.2.2=A) (λq=>u+1-q.1) (0,cx,m,n) ⟨KV _,hcx,⟨rfl,by show cx.length<=257;omega⟩,hm,KJ _,D⟩ ?_
 clear D hm
 rintro⟨i,h,mm,n1⟩ ⟨a6,C,⟨a7,W⟩,fm,a8,d⟩;simp only at a6 C a7 W fm a8 d;have hW:=wA hI hB C Uo fm n1;refine aj<|af (λX=>?_) (λX=>?_)
 ·have X:(i:Int)<=((x.indices.map λt=>[ah t]).length:Int):=X
  rw[show u+1-i=(u-i)+1 by omega]at d;simp only[jl]at d;cases N:dB B h mm n1 with
  |error e=>
   rw[N]at hW d;obtain rfl:.error e=A:=d;refine bG hW ?_;exact rfl
  |ok q=>
  obtain⟨f,O⟩:=q;obtain⟨ci,P,Y⟩:=iU hB C fm N;simp only at Y P;have Z:=Y.head;have R:=aC Z;have l1:=au (λt=>[ah t]) ((argsT f).map row);have l2:=au row (argsT f);rw[N]at hW d;have d:(if (headT f).n.op≠4 \/0<(argsT f).length then .error 16 else aJ (dg (jJ B a z i u) O) λw n=>aJ (ia B h (kidD (headT f) 0) w false n) λb n=>if b=true then jl B a z u (u-i) (i+1) (h++[(kidD (headT f) 0,none)]) (kidD (headT f) 1) n else .error 16)=A:=d;refine ax hW ?_;refine aI 0 (aM R) ?_;refine af (λF=>?_) (λF=>?_)
  ·rw[KX (.inl F)]at d
   subst d;refine bL (fL UO) ?_;exact rfl
  have F:(headT f).n.op=4:=QY F;refine af (λE=>?_) (λE=>?_)
  ·have E:((((argsT f).map row).map λt=>[ah t]).length:Int)>0:=E
   rw[KX (.inr Uo)]at d;subst d;refine bL (fL UO) ?_;exact rfl
  have E:¬ ((((argsT f).map row).map λt=>[ah t]).length:Int)>0:=E;rw[KY Uo]at d;obtain⟨fl,f0,f1⟩:=dG Z (.inl F);refine af (λg7=>?m1) (λg7=>?m2)
  case' m1=>
   have g7:(i:Int)<((x.indices.map λt=>[ah t]).length:Int):=g7;obtain⟨V,S,_⟩:=ay (l:=qi) (k:=i);have a9:(j5 B a).getD i (varX 0)=V:=by rw[e2,QK,S];rfl
   have a0:Ft (QB B) ((cx.length:Int)+z.length+i) V:=(U.up_i hB hi S).mono Uo;have I:=NR (qk B) Uo Uo (cq:=(i:Int)) Uo H Uo a0;have T:jJ B a z i u=cQ z (i:Int) z.length V:=by
    unfold jJ;rw[KX Uo,a9]
   rw[T]at d;refine az i (x:=row V) (by rw[U.indices,JX,S];rfl) ?_;rcases M:cQ z (i:Int) z.length V with e|w
   ·rw[M]at I d
    obtain rfl:.error e=A:=d;refine bL I ?_;exact rfl
   have fw:=Ag (qk B) (cq:=(i:Int)) Uo Uo Uo Uo H z.length V w (KJ _) Uo a0 M;rw[M]at I d;have d:aJ (ia B h (kidD (headT f) 0) w false O) (λb n=>if b=true then jl B a z u (u-i) (i+1) (h++[(kidD (headT f) 0,none)]) (kidD (headT f) 1) n else .error 16)=A:=d;refine ae (r:=ah (row w)) I ?_;have fw:Ft (QB B) (h.length:Int) w:=fw.mono Uo
  case' m2=>
   have g7:¬ (i:Int)<((x.indices.map λt=>[ah t]).length:Int):=g7;have T:jJ B a z i u=aP (.mk ⟨9,a,0⟩ []) (z.map (λp=>aK p u 0)++varsM u 0):=by
    unfold jJ;rw[KY Uo]
   rw[T]at d;have a1:Ft (QB B) (h.length:Int) (.mk ⟨9,a,0⟩ []):=pb (by simp[aF,aX];omega) (.inl rfl) (by
    simp only[QB,cv,bh];simp[ha])
   have a2:∀y∈z.map (λp=>aK p (u:Int) 0)++varsM u 0,Ft (QB B) (h.length:Int) y:=λy hy=>by
    rcases List.mem_append.1 hy with hy|hy
    ·obtain⟨p,hp,rfl⟩:=List.mem_map.1 hy
     exact((H p hp).lift (qk B) (b:=(u:Int)) Uo Uo Uo).mono Uo
    ·exact(lS (qk B) Uo Uo y hy).mono Uo
   have a':(varsM u 0).length=u:=by simp[varsM]
   have c1:(((x.indices.map λt=>[ah t]).length:Nat):Int)=(u:Int):=Uo
   show VCode _ _ _ _ _;refine dm 17 1000 29 1 rfl rfl<|aB τok (σ:=Nat) [(0,_),(1,_),(2,_),(3,_),(11,_),(12,_),(13,_),(14,_),(69,_),(70,_)] [(0,_),(11,_)] (λj=>[(17,.c (.row 1000)),(71,vI j)]) (λj=>[(1000,.rw 29 1 ((((z.take j).map λp=>aK p (u:Int) 0).map row).map rP))]) (λj=>j<=z.length) (λj=>z.length-j) 0 (KV _) ?_;intro j hj;have ej:(z.take j).length=j:=by rw[VJ];omega
   refine aj<|af (λg8=>?_) (λg8=>?_)
   ·have g8:(j:Int)<(((z.map row).map λt=>[ah t]).length:Int):=g8
    obtain⟨p,hp,_⟩:=ay (l:=z) (k:=j);have fp:=H p (JQ hp);have a3:=lK fp Uo (b:=(u:Int)) Uo;rw[<- c1]at a3;refine az j (x:=row p) (by rw[JX,hp];rfl) ?_;refine ae a3 ?_;refine ae (fG _) ?_;refine be ?_ (hb:=Uk);refine vi ?_;exact aw (j+1) (by show j+1<=_;omega) (sw 1000 83) (y':=⟨KG (λl=>some (SE.rw _ _ l)) (by
     rw[du hp,KB,KB,KB,c1]
     rfl),trivial⟩)
   have g8:¬ (j:Int)<(((z.map row).map λt=>[ah t]).length:Int):=g8;obtain rfl:j=z.length:=Uo
   rw[List.take_length];have ev:∀k,k<u ->(varsM u 0)[k]?=some (varX (0+((u-1-k:Nat):Int))):=λk hk=>by
    unfold varsM;rw[JX,List.getElem?_range hk]
    rfl
   refine vi ?_;refine aB τok (σ:=Nat×Int) [(0,_),(1,_),(2,_),(3,_),(11,_),(12,_),(13,_),(14,_)] [(0,_),(11,_)] (λq=>[(17,.c (.row 1000)),(20,vI q.2)]) (λq=>[(1000,.rw 29 1 (((z.map λp=>aK p (u:Int) 0).map row).map rP++(((varsM u 0).take q.1).map row).map rP))]) (λq=>q.1<=u/\q.2=(u:Int)-1-q.1) (λq=>u-q.1) (0,(((x.indices.map λt=>[ah t]).length:Nat):Int)-1) ⟨KV _,Us⟩ ?_ (y1:=⟨KG (λl=>some (SE.rw 29 1 l)) (by rw[List.take_zero];exact(JD _).symm),trivial⟩);rintro⟨k,v⟩ ⟨hk,hv⟩;simp only at hk hv;have ek:((varsM u 0).take k).length=k:=by rw[VJ];omega
   refine aj<|af (λg=>?_) (λg=>?_)
   ·have g:v≥0:=g
    refine be ?_ (hb:=Uk);refine vi ?_;exact aw (k+1,v-1) ⟨Us,Us⟩ (sw 1000 96) (y':=⟨KG (λl=>some (SE.rw _ _ l)) (by
     rw[du (ev k Uo),KB,KB,List.append_assoc,show (0:Int)+((u-1-k:Nat):Int)=v by omega]
     rfl),trivial⟩)
   have g:¬ v≥0:=g;obtain rfl:u=k:=Uo
   have K:=s5 hB (L:=((z.map λp=>aK p (u:Int) 0).map row).map rP++(((varsM u 0).take u).map row).map rP) a1 a2 (by rw[JK,KF,a'];omega) (by
    rw[JG Uo,KB,KB])
   rcases M:aP (.mk ⟨9,a,0⟩ []) (z.map (λp=>aK p (u:Int) 0)++varsM u 0)with e|w
   ·have he:=iR M
    rw[M]at K d;obtain rfl:.error e=A:=d;refine ae K ?_;refine bL (jH _ (show e≠0 by omega)) ?_;exact rfl
   have fw:=gB (qk B) a1 a2 M;rw[M]at K d;have d:aJ (ia B h (kidD (headT f) 0) w false O) (λb n=>if b=true then jl B a z u (u-i) (i+1) (h++[(kidD (headT f) 0,none)]) (kidD (headT f) 1) n else .error 16)=A:=d;refine ae K ?_;refine ae (fG _) ?_
  all_goals
   refine ae (iS Z) ?_;refine az 0 (aG R) ?_;have hC:=GG hI hB C Uo f0 fw O false;cases e8:ia B h (kidD (headT f) 0) w false O with
   |error e=>
    rw[e8]at hC d;obtain rfl:.error e=A:=d;refine bG hC ?_;exact rfl
   |ok q=>
    obtain⟨b,n3⟩:=q;have b0:=(vH e8).2;simp only at b0;rw[e8]at hC d;refine ax hC ?_;cases b with
    |false=>
     obtain rfl:.error 16=A:=d;refine bL (fL UO) ?_;exact rfl
    |true=>
     have d:jl B a z u (u-i) (i+1) (h++[(kidD (headT f) 0,none)]) (kidD (headT f) 1) n3=A:=d;refine az 0 (aG R) ?_;refine ae (ph C Uo f0 (o:=none) λx hx=>by cases hx) ?_;refine az 1 (aG R) ?_;refine vk ?_;refine vi ?_;have b1:Ft (QB B) ((h++[(kidD (headT f) 0,none)]).length:Int) (kidD (headT f) 1):=by rw[bI];exact f1.mono Uo
     exact aw (i+1,h++[(kidD (headT f) 0,none)],kidD (headT f) 1,n3) ⟨Us,C.snoc f0 (λx hx=>by cases hx),by rw[bI];omega,b1,Us,by simp only;rw[show u+1-(i+1)=u-i by omega];exact d⟩
 have X:¬ (i:Int)<=((x.indices.map λt=>[ah t]).length:Int):=X;obtain rfl:i=u+1:=Uo
 rw[Nat.sub_self]at d;simp only[jl]at d;cases N:dB B h mm n1 with
 |error e=>
  rw[N]at hW d;obtain rfl:.error e=A:=d;refine bG hW ?_;exact rfl
 |ok q=>
 obtain⟨f,O⟩:=q;obtain⟨ci,P,Y⟩:=iU hB C fm N;simp only at Y P;have Z:=Y.head;have R:=aC Z;have l1:=au (λt=>[ah t]) ((argsT f).map row);have l2:=au row (argsT f);rw[N]at hW d;have d:(if (headT f).n.op≠2 \/0<(argsT f).length then .error 16 else .ok ((headT f).n.a,O))=A:=d;refine ax hW ?_;refine aI 0 (aM R) ?_;refine af (λF=>?_) (λF=>?_)
 ·rw[KX (.inl F)]at d
  subst d;refine bL (fL UO) ?_;exact rfl
 have F:(headT f).n.op=2:=QY F;refine af (λE=>?_) (λE=>?_)
 ·have E:((((argsT f).map row).map λt=>[ah t]).length:Int)>0:=E
  rw[KX (.inr Uo)]at d;subst d;refine bL (fL UO) ?_;exact rfl
 have E:¬ ((((argsT f).map row).map λt=>[ah t]).length:Int)>0:=E;rw[KY Uo]at d;subst d;refine aI 0 (aM R) ?_;exact eP9
end
section
variable{B:ak}{cx:Ctx}{t:Tr}{n g:Nat}{rc:RcJ}
variable(hI:BoI B)(hB:GoodB B)(hr:cG B rc)(hcx:CxOk B cx)(hcl:cx.length<=260)(ht:Ft (QB B) (cx.length:Int) t)
include hI hB hr hcx hcl ht
theorem N2(Y:t.n.op=11)(hn:n<=100000)(a3:qA B rc g)(hg:t.n.a.toNat*5000+4096<=g)(hT:∀i,i<(kidsT t).length ->∀n,n<=100000 ->bS B cx (kidD t i) n (rc cx (kidD t i) n)):
  eH prog 199 259 (fe B n) [aH (cx.map aA),.agg (ndP t.n),bD ((kidsT t).map row)] (dC B fM (j7 B rc cx t.n (kidsT t) n)):=by
 obtain⟨lk,b',b8,kf⟩:=om ht Y;have wt:=aC ht;have Z:=jD ht.node' (.inr Y);obtain⟨i0,x,s,ps,qi,ei,_,hi,R,K⟩:=hB.fam Z (KJ _);obtain⟨e1,e2,e3⟩:=K.ps_eq hi;rw[<- ei]at e1 e2 e3;generalize c:j7 B rc cx t.n (kidsT t) n=f;unfold j7 at c;simp only at c;rw[e1,e2,e3,R]at c;have a4:(kidsT t).getD 0 (varX 0)=kidD t 0:=rfl;have a5:(kidsT t).getD 1 (varX 0)=kidD t 1:=rfl;rw[a4,a5]at c;have c0:=K.lp;have c2:=K.li;have c3:=K.lc;have eK:=au (λt=>[ah t]) ((kidsT t).map row);have c4:=au row (kidsT t);have l1:=au bM x.ctors;have l2:=au (λt=>[ah t]) x.params;have l3:=KG List.length K.params;have l4:=au (λt=>[ah t]) x.indices;have l5:=KG List.length K.indices;rw[KF]at l3 l5;obtain⟨M,v⟩:∃k,ps.length=k:=⟨_,rfl⟩
 obtain⟨ni,a6⟩:∃k,qi.length=k:=⟨_,rfl⟩
 rw[v,a6]at c;have a7:=(cw wt (k:=0)).1;have a8:=(cw wt (k:=1)).1;have k0:=kf _ (JQ a7);have k1:=kf _ (JQ a8);obtain⟨o,A⟩:∃l,(kidsT t).drop 2=l:=⟨_,rfl⟩
 have c5:o.length=(kidsT t).length-2:=by rw[<- A,VK]
 have c6:=au rP (o.map row);have c7:=au row o;rw[A]at c;have S:∀(l:List Tr) y,y∈((l.map row).map λt=>[ah t]) ->y.length=1:=λl y u=>by
  obtain⟨_,_,rfl⟩:=List.mem_map.1 u
  rfl
 refine aQ (r:=dC B fM f) 154 [.tmp 8] τok func199 ?_;refine aD<|aD<|cP i0 hi ?_ (hi:=ei);refine vk ?_;refine aD<|az 0 (aG wt) ?_;refine az 1 (aG wt) ?_;refine bH 2 (kidsT t).length ?_ (S _);have a9:((((kidsT t).map row).map λt=>[ah t]).take (kidsT t).length).drop 2=(o.map row).map rP:=by
  rw[JG Uo,<- List.map_drop,<- List.map_drop,A]
  rfl
 rw[a9];refine vk ?_;refine aD ?_;have s1:=hT 1 Uo n hn;unfold bS at s1;cases e4:rc cx (kidD t 1) n with
 |error e=>
  rw[e4]at s1 c;obtain rfl:.error e=f:=c;refine bG s1 ?_;exact rfl
 |ok q=>
 obtain⟨y,m⟩:=q;have fy:=hr.ft _ _ _ _ hcx hcl k1 e4;have hm:=hr.le _ _ _ _ e4;simp only at fy hm;rw[e4,ox]at c;rw[e4]at s1;simp only at c;have hW:=wA hI hB hcx hcl fy m;refine ax s1 ?_;cases e5:dB B cx y m with
 |error e=>
  rw[e5]at hW c;obtain rfl:.error e=f:=c;refine bG hW ?_;exact rfl
 |ok q=>
 obtain⟨z,m2⟩:=q;obtain⟨a0,a',W⟩:=iU hB hcx fy e5;simp only at W a';have wh:=aC W.head;have l6:=au (λt=>[ah t]) ((argsT z).map row);have l7:=au row (argsT z);have c8:=ow (aC W) 4096 W.len;rw[e5,ox]at c;rw[e5]at hW;simp only at c;refine ax hW ?_;refine aD<|aI 0 (aM wh) ?_;have j:(headT z).n.op≠9 \/(headT z).n.a≠t.n.a \/(argsT z).length≠M+ni -> .error 14=f:=λh=>by
  rw[KX h]at c;exact c
 refine af (λg1=>?_) (λg1=>?_)
 ·have:=j (.inl g1)
  subst this;refine vk ?_;refine bL (fL UO) ?_;exact rfl
 refine aI 0 (aM wh) ?_;refine af (λg2=>?_) (λg2=>?_)
 ·have:=j (.inr (.inl g2))
  subst this;refine vk ?_;refine bL (fL UO) ?_;exact rfl
 refine vi ?_;refine af (λg3=>?_) (λg3=>?_)
 ·have g3:¬ ((((argsT z).map row).map λt=>[ah t]).length:Int)=((x.params.map λt=>[ah t]).length:Int)+((x.indices.map λt=>[ah t]).length:Int):=g3
  have:=j (.inr (.inr Uo));subst this;refine vk ?_;refine bL (fL UO) ?_;exact rfl
 have g3:¬ ¬ ((((argsT z).map row).map λt=>[ah t]).length:Int)=((x.params.map λt=>[ah t]).length:Int)+((x.indices.map λt=>[ah t]).length:Int):=g3;have c9:(headT z).n.op=9:=QY g1;have c':(headT z).n.a=t.n.a:=QY g2;rw[KY Uo]at c;refine vk ?_;refine aD<|af (λg4=>?_) (λg4=>?_)
 ·have g4:¬ (((o.map row).map rP).length:Int)=((x.ctors.map bM).length:Int):=g4
  rw[KX Uo]at c;subst c;refine bL (fL UO) ?_;exact rfl
 have g4:¬ ¬ (((o.map row).map rP).length:Int)=((x.ctors.map bM).length:Int):=g4;rw[KY Uo]at c;refine aD<|bH 0 M ?_ (S _) rfl (by show ((x.params.map λt=>[ah t]).length:Int)=_;omega);refine bH M (argsT z).length ?_ (S _) (by show ((x.params.map λt=>[ah t]).length:Int)=_;omega) (by show (argsT z).length=(((argsT z).map row).map λt=>[ah t]).length;omega);obtain⟨O,C⟩:∃l,(argsT z).take M=l:=⟨_,rfl⟩
 obtain⟨ix,D⟩:∃l,(argsT z).drop M=l:=⟨_,rfl⟩
 have T:O.length=M:=by rw[<- C,VJ];omega
 have U:∀y∈O,Ft (QB B) (cx.length:Int) y:=λy u=>W.args y (List.mem_of_mem_take (by rw[C];exact u));have hiF:∀y∈ix,Ft (QB B) (cx.length:Int) y:=λy u=>W.args y (List.mem_of_mem_drop (by rw[D];exact u));have d':ix.length<=100:=by rw[<- D,VK];omega
 have b0:((((argsT z).map row).map λt=>[ah t]).take M).drop 0=(O.map row).map rP:=by
  rw[List.drop_zero,<- List.map_take,<- List.map_take,C]
  rfl
 have b1:((((argsT z).map row).map λt=>[ah t]).take (argsT z).length).drop M=(ix.map row).map rP:=by
  rw[JG Uo,<- List.map_drop,<- List.map_drop,D]
  rfl
 rw[b0,b1];rw[C,D]at c;refine vk ?_;refine aD ?_;have s0:=hT 0 Uo m2 Uo;unfold bS at s0;cases e6:rc cx (kidD t 0) m2 with
 |error e=>
  rw[e6]at s0 c;obtain rfl:.error e=f:=c;refine bG s0 ?_;refine gj ?_;refine vk ?_;exact rfl
 |ok q=>
 obtain⟨mt,m3⟩:=q;have fm:=hr.ft _ _ _ _ hcx hcl k0 e6;have b2:=hr.le _ _ _ _ e6;simp only at fm b2;rw[e6,ox]at c;rw[e6]at s0;simp only at c;refine ax s0 ?_;have hM:=N1 hI hB hcx a0 (n:=m3) Z U (by rw[T,e1,v]) fm;cases e7:qp B cx t.n.a O mt m3 with
 |error e=>
  rw[e7]at hM c;obtain rfl:.error e=f:=c;refine bG hM ?_;refine gj ?_;refine vk ?_;exact rfl
 |ok q=>
 obtain⟨b9,m4⟩:=q;have e0:m4<=m3:=Ap _ _ _ _ _ e7;rw[e7,ox]at c;rw[e7]at hM;simp only at c;refine ax hM ?_;refine vk ?_;refine dY τok (σ:=Nat) [(0,_),(1,_),(6,_),(10,_),(11,_),(12,_),(15,_),(16,_)] [(6,_)] (λ_=>[]) (λm=>[(0,.st 1 259 ((fe B m).map .p))])
  (λm=>m<=n/\aJ (lT B rc cx t.n.a O (kidD t 0) 0 o m) (λ_ n=>dg (aP (kidD t 0) (ix++[kidD t 1])) n)=f) ?_ ?_
 ·refine aI 0 (x:=s.n) (by rw[K.sort];exact aM (aC K.fs)) ?_
  refine af (λX=>?_) (λX=>?_);rotate_left
  ·have X:¬ s.n.a=0:=X
   rw[KY Uo,ox]at c;simp only at c;rw[KY UO]at c;exact aw m4 ⟨Uo,c⟩
  have X:s.n.a=0:=X;refine af (λg8=>?_) (λg8=>?_);rotate_left
  ·rw[KY Uo,ox]at c
   simp only at c;rw[KY UO]at c;exact aw m4 ⟨Uo,c⟩
  rw[KX ⟨X,g8⟩]at c;have E:=N0 hI hB hr a3 (n:=m4) Uo Z hg;cases e8:j6 B rc t.n.a m4 with
  |error e=>
   rw[e8]at E c;obtain rfl:.error e=f:=c;refine bG E ?_;exact rfl
  |ok q=>
   obtain⟨b,m5⟩:=q;have V:=Aq hB hr e8;simp only at V;rw[e8,ox]at c;rw[e8]at E;simp only at c;refine ax E ?_;cases b with
   |true=>
    rw[KY UO]at c;exact aw m5 ⟨Uo,c⟩
   |false=>
    rw[KX rfl]at c;subst c;refine bL (fL UO) ?_;exact rfl
 clear c
 rintro m5 ⟨V,d⟩;refine aj<|aB τok (σ:=Nat×Nat) [(0,_),(1,_),(6,_),(10,_),(11,_),(15,_),(16,_),(119,_),(120,_)] [(6,_)] (λq=>[(121,vI q.1)]) (λq=>[(0,.st 1 259 ((fe B q.2).map .p))])
  (λq=>q.1<=o.length/\q.2<=n/\aJ (lT B rc cx t.n.a O (kidD t 0) q.1 (o.drop q.1) q.2) (λ_ n=>dg (aP (kidD t 0) (ix++[kidD t 1])) n)=f) (λq=>o.length-q.1) (0,m5) ⟨KV _,V,d⟩ ?_
 clear d
 rintro⟨k,m6⟩ ⟨hk,b3,d⟩;simp only at hk b3 d;refine aj<|af (λg9=>?_) (λg9=>?_)
 ·have g9:(k:Int)<(((o.map row).map rP).length:Int):=g9
  obtain⟨b,hb,b4⟩:=ay (l:=o) (k:=k);have a1:(kidsT t)[2+k]?=some b:=by rw[<- A,List.getElem?_drop]at hb;exact hb
  have b5:kidD t (2+k)=b:=by
   have:=(cw wt (k:=2+k)).1;rw[a1]at this;exact(JB this).symm
  rw[b4]at d;simp only[lT]at d;have fb:=kf _ (JQ a1);have F:=NQ hB (N:=(cx.length:Int)) Uo Uo Z (b:=(k:Int)) Uo (by rw[R];omega) U (by rw[T,e1,v]) k0;refine az k (x:=row b) (by rw[JX,hb];rfl) ?_;cases P:jk B t.n.a (k:Int) O (kidD t 0)with
  |error e=>
   have he:=Ak P;rw[P]at F d;obtain rfl:.error e=f:=d;refine ae F ?_;refine bL (jH _ (show e≠0 by omega)) ?_;refine gj ?_;refine vk ?_;exact rfl
  |ok ty=>
   have b6:=Fi hB Uo Uo Z Uo (by rw[R];omega) U (by rw[T,e1,v]) k0 P;rw[P]at F d;have d:aJ (aJ (fH B rc cx b ty m6) λ_ n=>lT B rc cx t.n.a O (kidD t 0) (k+1) (o.drop (k+1)) n) (λ_ n=>dg (aP (kidD t 0) (ix++[kidD t 1])) n)=f:=d;refine ae F ?_;refine ae (fG _) ?_;have a2:=hT (2+k) Uo m6 Uo;rw[b5]at a2;have hC:=wB hI hB hcx hcl hr fb b6 a2;cases H:fH B rc cx b ty m6 with
   |error e=>
    rw[H]at hC d;obtain rfl:.error e=f:=d;refine bG hC ?_;refine vk ?_;exact rfl
   |ok q=>
    obtain⟨_,m7⟩:=q;have b7:=(lV hr H).2;simp only at b7;rw[H,ox]at d;rw[H]at hC;refine ax hC ?_;refine vk ?_;refine vi ?_;exact aw (k+1,m7) ⟨Us,Us,d⟩
 have g9:¬ (k:Int)<(((o.map row).map rP).length:Int):=g9;rw[List.drop_of_length_le Uo]at d;have d:dg (aP (kidD t 0) (ix++[kidD t 1])) m6=f:=d;refine gQ (EZ (ys:=ix) (λy u=>⟨(hiF y u).ok,(hiF y u).len⟩) Uo) ?_;refine be ?_ (hb:=Uk);have I:=s5 hB (L:=(ix.map row).map rP++[rP (row (kidD t 1))]) k0 (ys:=ix++[kidD t 1]) (λy u=>by
  rcases List.mem_append.1 u with u|u
  ·exact hiF y u
  ·obtain rfl:y=kidD t 1:=by simpa using u
   exact k1) (by rw[JK];simp;omega) (by rw[KB,KB];rfl)
 cases P:aP (kidD t 0) (ix++[kidD t 1])with
 |error e=>
  have he:=iR P;rw[P]at I d;obtain rfl:.error e=f:=d;refine ae I ?_;refine bL (jH _ (show e≠0 by omega)) ?_;exact rfl
 |ok w=>
  rw[P]at I d;obtain rfl:.ok (w,m6)=f:=d;refine ae I ?_;refine ae (fG _) ?_;exact eP9
end
section
variable{B:ak}{cx:Ctx}{t:Tr}{n:Nat}{rc:RcJ}
variable(hI:BoI B)(hB:GoodB B)(hcx:CxOk B cx)(hcl:cx.length<=260)(ht:Ft (QB B) (cx.length:Int) t)
variable(hr:cG B rc)
include hI hB hcx hcl ht hr
theorem N3(L:t.n.op=7)(P:n<=100000)(l:∀n,n<=100000 ->bS B cx (kidD t 0) n (rc cx (kidD t 0) n))(m:∀n,n<=100000 ->bS B cx (kidD t 1) n (rc cx (kidD t 1) n))(q:cx.length<=256 ->∀n,n<=100000 ->bS B (cx++[(kidD t 0,some (kidD t 1))]) (kidD t 2) n (rc (cx++[(kidD t 0,some (kidD t 1))]) (kidD t 2) n)):bS B cx t n (oj B rc cx t n):=by
 obtain⟨b,a⟩:∃r,oj B rc cx t n=r:=⟨_,rfl⟩
 unfold bS;rw[a];have wt:=aC ht;have R:=au aA cx;refine aQ (r:=dC B fM b) 258 [.tmp 6] τok func142 ?_;refine aj<|aI 0 (aM wt) ?_;refine vN t.n.op 1 ?_;refine vN t.n.op 2 ?_;refine vN t.n.op 8 ?_;refine vN t.n.op 9 ?_;refine vN t.n.op 10 ?_;refine ae (iS ht) ?_;refine vN t.n.op 4 ?_;refine vN t.n.op 5 ?_;refine vN t.n.op 6 ?_;refine vY t.n.op 7 ?_ L;obtain⟨W,c,s,S⟩:=mU ht L;unfold oj at a;have h:=pi hI hB hcx hcl hr c (l n P);refine az 0 (aG wt) ?_;cases i:dO B rc cx (kidD t 0) n with
 |error e=>
  rw[i]at h a;obtain rfl:.error e=b:=a;refine bG h ?_;exact rfl
 |ok p=>
 obtain⟨⟨T,X⟩,w⟩:=p;obtain⟨c1,A,_⟩:=fI hB hr i;obtain⟨_,U,V⟩:=kR hB hr hcx c i;simp only at A U V;rw[i]at h a;refine ax h ?_;have j:=wB hI hB hcx hcl hr s c (m w Uo);have a:aJ (fH B rc cx (kidD t 1) (kidD t 0) w) (λ_ n=>
  aJ (rc (cx++[(kidD t 0,some (kidD t 1))]) (kidD t 2) n) λz n=>dg (bA z (kidD t 1) 0) n)=b:=a
 refine az 1 (aG wt) ?_;refine az 0 (aG wt) ?_;cases C:fH B rc cx (kidD t 1) (kidD t 0) w with
 |error e=>
  rw[C]at a j;obtain rfl:.error e=b:=a;refine bG j ?_;refine vk ?_;exact rfl
 |ok p=>
 obtain⟨_,D⟩:=p;have E:=(lV hr C).2;simp only at E;rw[C]at a j;have M:∀x,some (kidD t 1)=some x ->Ft (QB B) (cx.length:Int) x:=λx F=>by injection F with F;rw[<- F];exact s
 have d:=hcx.snoc c (v:=some (kidD t 1)) M;have H:Ft (QB B) ((cx++[(kidD t 0,some (kidD t 1))]).length:Int) (kidD t 2):=by rw[bI];exact S.mono Uo
 have f:=q Uo D Uo;unfold bS at f;have a:aJ (rc (cx++[(kidD t 0,some (kidD t 1))]) (kidD t 2) D) (λz n=>dg (bA z (kidD t 1) 0) n)=b:=a;refine ax j ?_;refine vk ?_;refine az 0 (aG wt) ?_;refine az 1 (aG wt) ?_;refine ae (ph hcx Uo c (o:=some (kidD t 1)) M) ?_;refine az 2 (aG wt) ?_;cases I:rc (cx++[(kidD t 0,some (kidD t 1))]) (kidD t 2) D with
 |error e=>
  rw[I]at f a;obtain rfl:.error e=b:=a;refine bG f ?_;refine rU [false,false,false,true,true,true,true,true] ?_;refine az 1 (aG wt) ?_;refine vk ?_;exact rfl
 |ok p=>
 obtain⟨y,O⟩:=p;have K:=hr.ft _ _ _ _ d (by rw[bI];omega) H I;simp only at K;rw[bI]at K;rw[I]at f a;have a:dg (bA y (kidD t 1) 0) O=b:=a;refine ax f ?_;refine az 1 (aG wt) ?_;have k:=o6 (x:=y) (u:=kidD t 1) (v:=0) (N:=(cx.length:Int)) (K.mono Uo) s Uo Uo;cases q1:bA y (kidD t 1) 0 with
 |error e=>
  have Y:=jh q1;rw[q1]at k a;obtain rfl:.error e=b:=a;refine ae k ?_;refine bL (jH _ (show e≠0 by omega)) ?_;refine gj ?_;refine vk ?_;exact rfl
 |ok z=>
  rw[q1]at k a;obtain rfl:.ok (z,O)=b:=a;refine ae k ?_;refine ae (fG _) ?_;exact kP9
end
section
variable{B:ak}{cx:Ctx}{t:Tr}{n g:Nat}{rc:RcJ}
variable(hI:BoI B)(hB:GoodB B)(hcx:CxOk B cx)(hcl:cx.length<=260)(ht:Ft (QB B) (cx.length:Int) t)
variable(hr:cG B rc)
include hI hB hr hcx hcl ht
theorem N4(b:t.n.op=11)(h:n<=100000)(d:qA B rc g)(j:t.n.a.toNat*5000+4096<=g)(k:∀i,i<(kidsT t).length ->∀n,n<=100000 ->bS B cx (kidD t i) n (rc cx (kidD t i) n)):bS B cx t n (j7 B rc cx t.n (kidsT t) n):=by
 have f:=N2 hI hB hr hcx hcl ht b h d j k;obtain⟨c,a⟩:∃r,j7 B rc cx t.n (kidsT t) n=r:=⟨_,rfl⟩
 unfold bS;rw[a];have wt:=aC ht;refine aQ (r:=dC B fM c) 258 [.tmp 6] τok func142 ?_;refine aj<|aI 0 (aM wt) ?_;rw[a]at f;refine vN t.n.op 1 ?_;refine vN t.n.op 2 ?_;refine vN t.n.op 8 ?_;refine vN t.n.op 9 ?_;refine vN t.n.op 10 ?_;refine ae (iS ht) ?_;refine vN t.n.op 4 ?_;refine vN t.n.op 5 ?_;refine vN t.n.op 6 ?_;refine vN t.n.op 7 ?_;refine vY t.n.op 11 ?_ b;cases c with
 |error e=>
  refine bG f ?_;exact rfl
 |ok q=>
  refine ax f ?_;exact eP9
theorem N5(c:t.n.op=12)(j:n<=100000)(d:∀i,i<t.n.b.toNat ->∀n,n<=100000 ->bS B cx (kidD t (2*i)) n (rc cx (kidD t (2*i)) n))(f:cx.length<=256 ->∀i,i<t.n.b.toNat ->∀n,n<=100000 ->bS B (cx++aY t) (kidD t (2*i+1)) n (rc (cx++aY t) (kidD t (2*i+1)) n)):bS B cx t n (lU B rc cx t n):=by
 have h:=Ba hI hB hr hcx hcl ht c j d f;obtain⟨b,a⟩:∃r,lU B rc cx t n=r:=⟨_,rfl⟩
 unfold bS;rw[a];have wt:=aC ht;refine aQ (r:=dC B fM b) 258 [.tmp 6] τok func142 ?_;refine aj<|aI 0 (aM wt) ?_;rw[a]at h;refine vN t.n.op 1 ?_;refine vN t.n.op 2 ?_;refine vN t.n.op 8 ?_;refine vN t.n.op 9 ?_;refine vN t.n.op 10 ?_;refine ae (iS ht) ?_;refine vN t.n.op 4 ?_;refine vN t.n.op 5 ?_;refine vN t.n.op 6 ?_;refine vN t.n.op 7 ?_;refine vN t.n.op 11 ?_;cases b with
 |error e=>
  refine bG h ?_;exact rfl
 |ok q=>
  refine ax h ?_;exact eP9
end
section
variable{B:ak}{g:Nat}{rc:RcJ}
variable(hI:BoI B)(hB:GoodB B)
include hI hB
theorem N6(hr:cG B rc)(c:qA B rc g):qA B (jm B rc) (g+1):=λcx k t n hcx hcl ht o A b=>by
 have wt:=aC ht;have a:∀i,i<(kidsT t).length ->Mt k (kidD t i)/\k*5000+(row (kidD t i)).length<=g:=λi e=>by
  have:=o.kid (JQ (cw wt e).1);exact⟨this.1,Uo⟩
 unfold jm;refine Fy t ht.ok (λh=>?_) (λh=>?_) (λh=>?_) (λh=>?_) (λh=>?_) (λh=>?_) (λh=>?_) (λh=>?_) (λh=>?_) (λh=>?_) (λh=>?_)
 ·rw[KX h]
  exact NS hI hB hcx hcl ht h
 ·rw[KY Uo,KX h]
  exact NT hI hB hcx hcl ht h
 ·rw[KY Uo,KY Uo,KX h]
  exact NU hI hB hcx hcl ht h
 ·rw[KY Uo,KY Uo,KY Uo,KX h]
  exact NV hI hB hcx hcl ht h
 ·rw[KY Uo,KY Uo,KY Uo,KY Uo,KX h]
  exact NW hI hB hcx hcl ht h
 ·rw[KY Uo,KY Uo,KY Uo,KY Uo,KY Uo,KX h]
  obtain⟨l,d,f⟩:=dG ht (.inl h);exact NX hI hB hcx hcl ht hr h b (λn b=>c _ k _ _ hcx hcl d (a 0 Uo).1 (a 0 Uo).2 b) λm n b=>c _ k _ _ (hcx.snoc d λx j=>by cases j) (by rw[bI];omega) (by rw[bI];exact f.mono Uo) (a 1 Uo).1 (a 1 Uo).2 b
 ·rw[KY Uo,KY Uo,KY Uo,KY Uo,KY Uo,KY Uo,KX h]
  obtain⟨l,d,f⟩:=dG ht (.inr h);exact NY hI hB hcx hcl ht hr h b (λn b=>c _ k _ _ hcx hcl d (a 0 Uo).1 (a 0 Uo).2 b) λm n b=>c _ k _ _ (hcx.snoc d λx j=>by cases j) (by rw[bI];omega) (by rw[bI];exact f.mono Uo) (a 1 Uo).1 (a 1 Uo).2 b
 ·rw[KY Uo,KY Uo,KY Uo,KY Uo,KY Uo,KY Uo,KY Uo,KX h]
  obtain⟨l,d,f⟩:=o5 ht h;exact NZ hI hB hcx hcl ht hr h b (λn b=>c _ k _ _ hcx hcl d (a 0 Uo).1 (a 0 Uo).2 b) λn b=>c _ k _ _ hcx hcl f (a 1 Uo).1 (a 1 Uo).2 b
 ·rw[KY Uo,KY Uo,KY Uo,KY Uo,KY Uo,KY Uo,KY Uo,KY Uo,KX h]
  obtain⟨l,d,f,q⟩:=mU ht h;exact N3 hI hB hcx hcl ht hr h b (λn b=>c _ k _ _ hcx hcl d (a 0 Uo).1 (a 0 Uo).2 b) (λn b=>c _ k _ _ hcx hcl f (a 1 Uo).1 (a 1 Uo).2 b) λm n b=>c _ k _ _ (hcx.snoc d λx j=>by injection j with j;rw[<- j];exact f) (by rw[bI];omega) (by rw[bI];exact q.mono Uo) (a 2 Uo).1 (a 2 Uo).2 b
 ·rw[KY Uo,KY Uo,KY Uo,KY Uo,KY Uo,KY Uo,KY Uo,KY Uo,KY Uo,KX h]
  obtain⟨r,s,u,v⟩:=om ht h;have w:=(kQ hB (jD ht.node' (.inr h))).1;have y:t.n.a<(k:Int):=o t.n (JQ (aM wt)) h;have:=bg t;exact N4 hI hB hcx hcl ht hr h b c Uo λi e n b=>c _ k _ _ hcx hcl (v _ (JQ (cw wt e).1)) (a i e).1 (a i e).2 b
 ·rw[KY Uo,KY Uo,KY Uo,KY Uo,KY Uo,KY Uo,KY Uo,KY Uo,KY Uo,KY Uo]
  obtain⟨r,s,u,_⟩:=dF ht.ok h;have z:=fS ht.ok h;have p:(cx++aY t).length=cx.length+t.n.b.toNat:=by rw[JK,o7]
  exact N5 hI hB hcx hcl ht hr h b (λi e n b=>c _ k _ _ hcx hcl (gZ ht h e).2.2.1 (a _ Uo).1 (a _ Uo).2 b) λm i e n b=>c _ k _ _ (od hcx Uo ht h) Uo ((gZ ht h e).2.2.2.mono Uo) (a _ Uo).1 (a _ Uo).2 b
theorem jgG:∀g,qA B (gv B g) g
 |0=>λcx k t n _ _ _ _ h _=>by
  have:=bg t;omega
 |g+1=>N6 hI hB (iA hB g) (jgG g)
end
def Bb{β:Type}(r:Except Int β)(ok:β ->Prop)(er:Int ->Prop):Prop:=match r with
 | .ok q=>ok q
 | .error e=>er e
end Go.Q
