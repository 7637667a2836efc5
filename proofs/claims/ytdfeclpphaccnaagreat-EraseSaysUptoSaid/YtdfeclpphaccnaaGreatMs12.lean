import Derived.Test.YtdfeclpphaccnaaGreatMs11
set_option linter.all false
set_option maxRecDepth 100000
set_option maxHeartbeats 4000000
open Go.Proofs Go.Proofs.Tryz Cd Go.Wx Lv Tm
namespace Go.Q
section
variable{B:ak}(hB:GoodB B)
include hB
theorem td{x:Tr}{ys:List Tr}{L:List (List PV)}{N:Int}(a:Ft (QB B) N x)(b:∀y∈ys,Ft (QB B) N y)(c:ys.length<=1000)(e:L=(ys.map row).map rP):VC prog 180 [ah (row x),.sl L] (dg (aO x ys)):=by
 subst e;exact zZ a b Uo
theorem N4{a b:Int}(ha:bF B B.ents.length a=true)(h0:0<=b)(hb:b<(aR B a).ctors.length):VC prog 193 [bw B,pI a,pI b] (dg (ig B a b)):=by
 have T:=kW hB ha;obtain⟨i,x,s,f,qi,rfl,_,w,K,o⟩:=hB.fam ha (KJ _);obtain⟨U,e2,e3⟩:=o.ps_eq w;obtain⟨k,rfl⟩:∃k:Nat,b=(k:Int):=⟨b.toNat,Uo⟩
 rw[K]at hb;obtain⟨c,M,_⟩:=ay (l:=x.ctors) (k:=k);obtain⟨h,P,q⟩:=o.ct k c M;obtain⟨V,W,e6⟩:=q.ag_eq w M;have X:=o.lp;have Y:=q.la;have Z:=q.lo;have a0:=o.li;generalize d:ig B (i:Int) (k:Int)=j;unfold ig at d;rw[U,V,W]at d;have f1:=au (λt=>[ah t]) x.params;have f2:=au (λt=>[ah t]) c.args;have l3:=KG List.length o.params;have l4:=KG List.length q.args;have l5:=KG List.length q.out;rw[KF]at l3 l4 l5;have A:∀y∈f,Ft (QB B) 90000 y:=λy m=>by
  obtain⟨k,C⟩:=JH m;exact(o.up_p hB w C).mono (by have:=aM C;omega)
 have D:∀y∈h,Ft (QB B) 90000 y:=λy m=>by
  obtain⟨k,C⟩:=JH m;exact(q.up_a w o.kind C).mono (by have:=aM C;omega)
 have E:Ft (QB B) ((f.length+h.length:Nat):Int) (.mk ⟨9,(i:Int),0⟩ []):=pk (by simp[aG,aX];omega) (.inl rfl) (by
  simp only[QB,cw,bg];simp[ha])
 have F:∀y∈varsM f.length (h.length:Int)++P,Ft (QB B) ((f.length+h.length:Nat):Int) y:=λy m=>by
  rcases List.mem_append.1 m with m|m
  ·exact(lY (qk B) Uo Uo y m).mono Uo
  ·exact q.up_o w o.kind m
 have R:=Ba (n:=f.length) (fr:=(h.length:Int)) Uo Uo;rw[show (f.length:Int)=(((x.params.map λt=>[ah t]).length:Nat):Int) by omega,show (h.length:Int)=(((c.args.map λt=>[ah t]).length:Nat):Int) by omega]at R;have O:(varsM f.length (h.length:Int)).length=f.length:=by simp[varsM]
 have r:=td hB (L:=((varsM f.length (((c.args.map λt=>[ah t]).length:Nat):Int)).map row).map rP++c.out.map rP) E F (by rw[JK,O];omega) (by
  rw[show (((c.args.map λt=>[ah t]).length:Nat):Int)=(h.length:Int) by omega,q.out,KB,KB])
 refine vf 58 [.tmp 6,.tmp 7] τok func193 ?_;refine de i w ?_;refine gI k M ?_;refine gm R ?_;refine va (p:=rP) ?_ (jM _) (hb:=by simp[varsM];omega);cases q1:aO (.mk ⟨9,(i:Int),0⟩ []) (varsM f.length (h.length:Int)++P)with
 |error e=>
  have he:=iX q1;rw[q1]at r d;obtain rfl:.error e=j:=d;refine ae r ?_;refine vk ?_;refine vy (p:=e≠0) ?_;exact aE
 |ok t=>
 have ht:=gG (qk B) E F q1;rw[q1]at r d;have d:(bk h t).bind (bk f)=j:=d;refine ae r ?_;refine vk ?_;refine v0 ?_;have v:=tc hB (ys:=h) (x:=t) ht.ok ht.len D Uo q.args rfl;cases I:bk h t with
 |error e=>
  have he:=kY I;rw[I]at v d;obtain rfl:.error e=j:=d;refine ae v ?_;refine vy (p:=e≠0) ?_;exact aE
 |ok u=>
 have S:=lX (qk B) (N:=(f.length:Int)) (ht.mono Uo) (λk y m=>(q.up_a w o.kind m).mono Uo) I;rw[I]at v d;have d:bk f u=j:=d;refine ae v ?_;refine v0 ?_;have H:=tc hB (ys:=f) (x:=u) S.ok S.len A Uo o.params rfl;rw[d]at H;refine ae H ?_;cases j with
 |error e=>exact aE
 |ok z=>exact aE
theorem N5{N:Int}(h0:0<=N)(hN:N<=90000){a b:Int}(ha:bF B B.ents.length a=true)(a2:0<=b)(hb:b<(aR B a).ctors.length){A:List Tr}(hq:∀y∈A,Ft (QB B) N y)(a0:A.length=(ie B a).length){mo:Tr}(K:Ft (QB B) N mo):VC prog 233 [bw B,pI a,pI b,bD (A.map row),ah (row mo)] (dg (jt B a b A mo)):=by
 have a3:=kW hB ha;obtain⟨i,x,s,h,qi,rfl,_,I,M,D⟩:=hB.fam ha (KJ _);obtain⟨e1,e2,e3⟩:=D.ps_eq I;obtain⟨k,rfl⟩:∃k:Nat,b=(k:Int):=⟨b.toNat,Uo⟩
 rw[M]at hb;obtain⟨c,hc,_⟩:=ay (l:=x.ctors) (k:=k);obtain⟨f,go,C⟩:=D.ct k c hc;obtain⟨e4,e5,e6⟩:=C.ag_eq I hc;have a4:=D.lp;have a5:=C.la;have a6:=C.lo;have a7:=D.li;have a8:=D.lc;generalize d:jt B (i:Int) (k:Int) A mo=m;unfold jt at d;rw[e1,e4,e5]at d;rw[e1]at a0;have f1:=au (λt=>[ah t]) x.params;have f2:=au (λt=>[ah t]) c.args;have l3:=KG List.length D.params;have l4:=KG List.length C.args;have l5:=KG List.length C.out;rw[KF]at l3 l4 l5;have O:∀y∈f,Ft (QB B) 90000 y:=λy w=>by
  obtain⟨k,hk⟩:=JH w;exact(C.up_a I D.kind hk).mono (by have:=aM hk;omega)
 have P:Ft (QB B) ((h.length+f.length:Nat):Int) (.mk ⟨10,(i:Int),(k:Int)⟩ []):=pk (by simp[aG,aX];omega) (.inr rfl) (by
  simp only[QB,cw,bg];simp[ha,M];omega)
 have R:∀y∈varsM h.length (f.length:Int)++varsM f.length 0,Ft (QB B) ((h.length+f.length:Nat):Int) y:=λy w=>by
  rcases List.mem_append.1 w with w|w
  ·exact(lY (qk B) Uo Uo y w).mono Uo
  ·exact(lY (qk B) Uo Uo y w).mono Uo
 have c1:(((x.params.map λt=>[ah t]).length:Nat):Int)=(h.length:Int):=Uo
 have V:(((c.args.map λt=>[ah t]).length:Nat):Int)=(f.length:Int):=Uo
 have W:=Ba (n:=h.length) (fr:=(f.length:Int)) Uo Uo;have hw:=Ba (n:=f.length) (fr:=0) Uo Uo;have S:=lQ K Uo (b:=((h.length+f.length:Nat):Int)) Uo;have hm:=K.lift (qk B) (b:=((h.length+f.length:Nat):Int)) Uo Uo Uo;rw[show ((h.length+f.length:Nat):Int)=(((x.params.map λt=>[ah t]).length:Nat):Int)+(((c.args.map λt=>[ah t]).length:Nat):Int) by omega]at S;rw[<- c1,<- V]at W;rw[<- V]at hw;have T:(varsM h.length (f.length:Int)).length=h.length:=by simp[varsM]
 have U:(varsM f.length 0).length=f.length:=by simp[varsM]
 have E:=td hB (L:=((varsM h.length (((c.args.map λt=>[ah t]).length:Nat):Int)).map row).map rP++((varsM f.length 0).map row).map rP) P R (by rw[JK,T,U];omega) (by
  rw[V,KB,KB])
 refine vf 120 [.tmp 10,.tmp 11] τok func233 ?_;refine de i I ?_;refine gI k hc ?_;refine vk ?_;refine vi ?_;refine ae S ?_;refine v0<|gm W ?_;refine gm hw ?_;refine va (p:=rP) ?_ (jM _) (hb:=by simp[varsM];omega);cases q1:aO (.mk ⟨10,(i:Int),(k:Int)⟩ []) (varsM h.length (f.length:Int)++varsM f.length 0)with
 |error e=>
  have he:=iX q1;rw[q1]at E d;obtain rfl:.error e=m:=d;refine ae E ?_;refine vy (p:=e≠0) ?_;exact aE
 |ok o=>
 have a1:=gG (qk B) P R q1;rw[q1]at E d;have d:(aO (aK mo ((h.length+f.length:Nat):Int) 0) (go++[o])).bind (λt=>(bk f t).bind (cQ A 0 h.length))=m:=d;refine ae E ?_;refine v0<|va (p:=rP) ?_ (jM _) (hb:=by simp[dN];omega);refine bi ?_ (hb:=by simp[dN];omega);have H:∀y∈go++[o],Ft (QB B) (N+((h.length+f.length:Nat):Int)) y:=λy w=>by
  rcases List.mem_append.1 w with w|w
  ·exact(C.up_o I D.kind w).mono Uo
  ·obtain rfl:y=o:=by simpa using w
   exact a1.mono Uo
 have r:=td hB (L:=c.out.map rP++[rP (row o)]) hm H (by rw[JK];simp;omega) (by
  rw[C.out,KB,KB]
  rfl)
 rw[show ((h.length+f.length:Nat):Int)=(((x.params.map λt=>[ah t]).length:Nat):Int)+(((c.args.map λt=>[ah t]).length:Nat):Int) by omega]at r d;cases X:aO (aK mo ((((x.params.map λt=>[ah t]).length:Nat):Int)+(((c.args.map λt=>[ah t]).length:Nat):Int)) 0) (go++[o])with
 |error e=>
  have he:=iX X;rw[X]at r d;obtain rfl:.error e=m:=d;refine ae r ?_;refine vy (p:=e≠0) ?_;exact aE
 |ok t=>
 have ht:=gG (qk B) hm H (by rw[<- X,c1,V,Int.natCast_add]);rw[X]at r d;have d:(bk f t).bind (cQ A 0 h.length)=m:=d;refine ae r ?_;refine v0 ?_;have F:=tc hB (ys:=f) (x:=t) ht.ok ht.len O Uo C.args rfl;cases Y:bk f t with
 |error e=>
  have he:=kY Y;rw[Y]at F d;obtain rfl:.error e=m:=d;refine ae F ?_;refine vy (p:=e≠0) ?_;exact aE
 |ok u=>
 have hu:=lX (qk B) (N:=N+h.length) (ht.mono Uo) (λk y w=>(C.up_a I D.kind w).mono Uo) Y;rw[Y]at F d;have d:cQ A 0 h.length u=m:=d;refine ae F ?_;refine v0<|vi ?_;refine aB τok (σ:=Nat×Tr×Int) [(3,_)] [] (λq=>[(19,vP (ah (row q.2.1))),(20,vI q.2.2)]) (λ_=>[]) (λq=>q.1<=h.length/\q.2.2=(q.1:Int)-1/\Ft (QB B) (N+q.1) q.2.1/\cQ A 0 q.1 q.2.1=m) (λq=>q.1) (h.length,u,(((x.params.map λt=>[ah t]).length:Nat):Int)-1) ⟨KJ _,Us,hu,d⟩ ?_
 clear d
 rintro⟨j,t,v⟩ ⟨hj,W,ft,hr⟩;simp only at hj W ft hr;refine aj<|af (λg=>?_) (λg=>?_)
 ·have g:v≥0:=g
  obtain⟨j,rfl⟩:∃l,j=l+1:=⟨j-1,Uo⟩
  obtain rfl:v=(j:Int):=Uo
  simp only[cQ]at hr;obtain⟨p,hp,_⟩:=ay (l:=A) (k:=j);rw[show A.getD j (varX 0)=p by rw[QK,hp];rfl]at hr;have fp:=hq p (JQ hp);have fl:=fp.lift (qk B) (b:=(j:Int)) Uo Uo Uo;refine az j (x:=row p) (by rw[JX,hp];rfl) ?_;refine ae (lQ fp Uo (b:=(j:Int)) Uo) ?_;refine v0 ?_;have Z:=ph (x:=t) (u:=aK p j 0) (v:=0) (N:=N+j) (ft.mono Uo) fl Uo Uo;cases q4:bq t (aK p j 0) 0 with
  |error e=>
   have he:=jp q4;rw[q4]at Z hr;obtain rfl:.error e=m:=hr;refine ae Z ?_;refine vy (p:=e≠0) ?_;exact aE
  |ok z=>
   rw[q4]at Z hr;have fz:=jk (qk B) (N:=N+j) (v:=0) (ft.mono Uo) fl Uo Uo Uo Uo q4;refine ae Z ?_;refine v0<|vi ?_;exact aw (j,z,(j:Int)-1) ⟨Us,by simp only,fz.mono Us,hr⟩
 ·have g:¬ v≥0:=g
  obtain rfl:j=0:=Uo
  obtain rfl:.ok t=m:=hr;exact aE
end
theorem N6{Q:Nd ->Prop}(m:Qk Q){N cg:Int}(D:0<=N)(E:N<=90000)(hm:0<=cg/\cg<=1000){ps:List Tr}(s:∀y∈ps,Ft Q N y)(hl:ps.length<=100){t:Tr}(ht:Ft Q (N+ps.length+cg) t):
  VX prog 248 [ah (row t),bD (ps.map row),pI cg] (match cQ ps cg ps.length t with
   | .ok z=>.ok (ah (row z))
   | .error e=>.error (fI e)):=by
 generalize a:cQ ps cg ps.length t=c;have F:=au (λt=>[ah t]) (ps.map row);have H:=au row ps;refine nU 31 [.tmp 6] τok func248 ?_;refine aj<|vi ?_;refine aB τok (σ:=Nat×Tr×Int) [(1,_),(2,_)] [] (λq=>[(0,vP (ah (row q.2.1))),(7,vI q.2.2)]) (λ_=>[]) (λq=>q.1<=ps.length/\q.2.2=(q.1:Int)-1/\Ft Q (N+q.1+cg) q.2.1/\cQ ps cg q.1 q.2.1=c) (λq=>q.1) (ps.length,t,((((ps.map row).map λt=>[ah t]).length:Nat):Int)-1) ⟨KJ _,Us,ht,a⟩ ?_
 clear a
 rintro⟨j,t,v⟩ ⟨w,A,i,hr⟩;simp only at w A i hr;refine aj<|af (λg=>?_) (λg=>?_)
 ·have g:v≥0:=g
  obtain⟨j,rfl⟩:∃l,j=l+1:=⟨j-1,Uo⟩
  obtain rfl:v=(j:Int):=Uo
  simp only[cQ]at hr;obtain⟨p,d,_⟩:=ay (l:=ps) (k:=j);rw[show ps.getD j (varX 0)=p by rw[QK,d];rfl]at hr;have o:=s p (JQ d);have r:=o.lift m (b:=(j:Int)) Uo Uo Uo;refine az j (x:=row p) (by rw[JX,d];rfl) ?_;refine ae (lQ o Uo (b:=(j:Int)) Uo) ?_;refine ae (fO _) ?_;have f:=ph (x:=t) (u:=aK p j 0) (v:=cg) (N:=N+j) (i.mono Uo) r Uo Uo;cases h:bq t (aK p j 0) cg with
  |error e=>
   have I:=jp h;rw[h]at f hr;obtain rfl:.error e=c:=hr;refine ae f ?_;refine bK (jN _ (show e≠0 by omega)) ?_;exact rfl
  |ok z=>
   rw[h]at f hr;have C:=jk m (N:=N+j) (v:=cg) (i.mono Uo) r Uo Uo Uo Uo h;refine ae f ?_;refine ae (fO _) ?_;refine vi ?_;exact aw (j,z,(j:Int)-1) ⟨Us,by simp only,C.mono Us,hr⟩
 ·have g:¬ v≥0:=g
  obtain rfl:j=0:=Uo
  obtain rfl:.ok t=c:=hr;exact aE
def fC(B:ak)(n:Int):List PV:=[.int .i64 B.vars,.sl (B.orders.map eZ),.sl (B.ents.map cj),.int .i64 B.nat,.sl (B.prims.map iU),pI n]
def dA{α:Type}(B:ak)(f:α ->PV)(r:Except Int (α×Nat)):Except (List PanicEntry) (List PV×PV):=match r with
 | .ok q=>.ok (fC B q.2,f q.1)
 | .error e=>.error (fI e)
def fU(x:Tr):PV:=ah (row x)
def GQ(q:Int×List Atom):PV:=.tup [pI q.1,cF q.2]
def GR(z:Tr):PV:=.tup [ah (row (headT z)),bD ((argsT z).map row)]
section
variable{B:ak}{cx:Ctx}{rc:RcJ}{n:Nat}
def bO(B:ak)(cx:Ctx)(t:Tr)(n:Nat)(r:Except Int (Tr×Nat)):Prop:=eW prog 142 259 (fC B n) [aH (cx.map aA),ah (row t)] (dA B fU r)
variable(hI:BoI B)(hB:GoodB B)(hcx:CxOk B cx)(hcl:cx.length<=260)
include hI hB hcx hcl
theorem wB{x:Tr}(d:Ft (QB B) (cx.length:Int) x)(n:Nat):eW prog 197 259 (fC B n) [aH (cx.map aA),ah (row x)] (dA B GR (dz B cx x n)):=by
 have h:=au aA cx;have b:=A5 hI hB hcx hcl d (n:Int);generalize a:dz B cx x n=c;unfold dz at a;refine aP (r:=dA B GR c) 37 [.tmp 6,.tmp 7] τok func197 ?_;refine aj ?_
 by_cases f:256<cx.length
 ·rw[KX f]at a
  subst a;refine bK (GO Uo) ?_;exact rfl
 rw[KY f]at a;refine ae (GN Uo) ?_;cases hr:dW B cx x (n:Int)with
 |error e=>
  rw[hr]at b a;subst a;refine ae b ?_;refine vk ?_;refine bK (fT (qD hr)) ?_;exact rfl
 |ok q=>
  have i:=(vD hB hcx Uo d hr).1;rw[hr]at b a;subst a;refine ae b ?_;refine vk ?_;refine ae vx' ?_;refine ae (qy i) ?_;exact eP9
theorem GS{x y:Tr}(f:Ft (QB B) (cx.length:Int) x)(h:Ft (QB B) (cx.length:Int) y)(n:Nat)(u:Bool):eW prog 230 259 (fC B n) [aH (cx.map aA),ah (row x),ah (row y),.bool u] (dA B PV.bool (ii B cx x y u n)):=by
 have i:=au aA cx;have b:=N2 hI hB hcx hcl f h (n:Int) u;generalize a:ii B cx x y u n=c;unfold ii at a;refine aP (r:=dA B PV.bool c) 40 [.tmp 10] τok func230 ?_;refine aj ?_
 by_cases d:256<cx.length
 ·rw[KX d]at a
  subst a;refine bK (GO Uo) ?_;exact rfl
 rw[KY d]at a;refine ae (GN Uo) ?_;cases hr:lS B cx x y (n:Int) u with
 |error e=>
  rw[hr]at b a;subst a;refine ae b ?_;refine vk ?_;refine bK (fT (sM B GC _ _ _ _ _ _ hr)) ?_;exact rfl
 |ok q=>
  rw[hr]at b a;subst a;refine ae b ?_;refine vk ?_;refine ae vx' ?_;exact eP9
variable(hr:cG B rc)
include hr
theorem pv{t:Tr}(ht:Ft (QB B) (cx.length:Int) t){n:Nat}(d:bO B cx t n (rc cx t n)):eW prog 186 259 (fC B n) [aH (cx.map aA),ah (row t)] (dA B GQ (dP B rc cx t n)):=by
 generalize b:dP B rc cx t n=c;unfold dP at b;unfold bO at d;refine aP (r:=dA B GQ c) 37 [.tmp 6,.tmp 7] τok func186 ?_;refine aj ?_;cases j:rc cx t n with
 |error e=>
  rw[j]at d b;obtain rfl:.error e=c:=b;refine bG d ?_;exact rfl
 |ok q=>
 obtain⟨y,m⟩:=q;have l:=hr.ft _ _ _ _ hcx hcl ht j;rw[j]at d b;have b:aJ (dz B cx y m) (λz n=>if (headT z).n.op≠2 \/0<(argsT z).length then .error 11 else .ok (((headT z).n.a,bX (headT z)),n))=c:=b;have h:=wB hI hB hcx hcl l m;refine ax d ?_;cases k:dz B cx y m with
 |error e=>
  rw[k]at h b;obtain rfl:.error e=c:=b;refine bG h ?_;exact rfl
 |ok q=>
 obtain⟨z,o⟩:=q;obtain⟨_,_,p⟩:=jb hB hcx l k;have i:=aC p.head;have s:=au (λt=>[ah t]) ((argsT z).map row);have u:=au row (argsT z);rw[k]at h b;have b:(if (headT z).n.op≠2 \/0<(argsT z).length then .error 11 else .ok (((headT z).n.a,bX (headT z)),o))=c:=b;refine ax h ?_;refine aI 0 (aL i) ?_;refine af (λg=>?_) (λg=>?_)
 ·rw[KX (.inl g)]at b
  subst b;refine bK (fT UO) ?_;exact rfl
 have g:(headT z).n.op=2:=QY g;refine af (λf=>?_) (λf=>?_)
 ·have f:((((argsT z).map row).map λt=>[ah t]).length:Int)>0:=f
  rw[KX (.inr Uo)]at b;subst b;refine bK (fT UO) ?_;exact rfl
 have f:¬ ((((argsT z).map row).map λt=>[ah t]).length:Int)>0:=f;rw[KY Uo]at b;subst b;refine aI 0 (aL i) ?_;refine ae (wq i.ok i.len g) ?_;exact kP9
theorem wC{t ty:Tr}(ht:Ft (QB B) (cx.length:Int) t)(h:Ft (QB B) (cx.length:Int) ty){n:Nat}(d:bO B cx t n (rc cx t n)):eW prog 198 259 (fC B n) [aH (cx.map aA),ah (row t),ah (row ty)] (dA B (λ_=>.tup []) (fP B rc cx t ty n)):=by
 generalize a:fP B rc cx t ty n=c;unfold fP at a;unfold bO at d;refine aP (r:=dA B (λ_=>.tup []) c) 18 [] τok func198 ?_;refine aj ?_;cases i:rc cx t n with
 |error e=>
  rw[i]at d a;obtain rfl:.error e=c:=a;refine bG d ?_;exact rfl
 |ok q=>
 obtain⟨y,m⟩:=q;have k:=hr.ft _ _ _ _ hcx hcl ht i;rw[i]at d a;have a:aJ (ii B cx y ty true m) (λb n=>if b=true then .ok ((),n)else .error 13)=c:=a;have f:=GS hI hB hcx hcl k h m true;refine ax d ?_;cases j:ii B cx y ty true m with
 |error e=>
  rw[j]at f a;obtain rfl:.error e=c:=a;refine bG f ?_;exact rfl
 |ok q=>
  obtain⟨b,l⟩:=q;rw[j]at f a;refine ax f ?_;cases b with
  |true=>
   obtain rfl:.ok ((),l)=c:=a;exact eP9
  |false=>
   obtain rfl:.error 13=c:=a;refine bK (fT UO) ?_;exact rfl
end
def qM(B:ak)(rc:RcJ)(g:Nat):Prop:=∀(cx:Ctx) (k:Nat) (t:Tr) (n:Nat),CxOk B cx ->cx.length<=260 ->Ft (QB B) (cx.length:Int) t ->Mt k t ->k*5000+(row t).length<=g ->n<=100000 ->bO B cx t n (rc cx t n)
section
variable{B:ak}{cx:Ctx}{t:Tr}{n:Nat}{rc:RcJ}
variable(hI:BoI B)(hB:GoodB B)(hcx:CxOk B cx)(hcl:cx.length<=260)(ht:Ft (QB B) (cx.length:Int) t)
include hI hB hcx hcl ht
theorem N7(h1:t.n.op=1):bO B cx t n (.ok (aK (fY cx t.n.a).1 (t.n.a+1) 0,n)):=by
 obtain⟨c,a⟩:∃r,(.ok (aK (fY cx t.n.a).1 (t.n.a+1) 0,n):Except Int (Tr×Nat))=r:=⟨_,rfl⟩
 unfold bO;rw[a];have wt:=aC ht;have eC:=au bdP (cx.map aA);have f:=au aA cx;refine aP (r:=dA B fU c) 258 [.tmp 6] τok func142 ?_;refine aj<|aI 0 (aL wt) ?_;refine vY t.n.op 1 ?_ h1;have d:0<=t.n.a/\t.n.a<cx.length:=by
  obtain⟨i,j⟩:=t;obtain⟨v0,h,_⟩:=ht.var_lt h1;exact⟨v0,h⟩
 have e:=oe d.1 d.2;obtain⟨c1,k⟩:=hcx _ _ e;refine vi ?_;refine vi ?_;refine vm (p:=bdP) (cx.length-1-t.n.a.toNat) (x:=aA (fY cx t.n.a)) (by rw[JX,e];rfl) ?_;refine vi ?_;refine ae (lQ c1 Uo (b:=t.n.a+1) Uo) ?_;refine ae (fO _) ?_;refine vk ?_;subst a;exact eP9
theorem N8(h2:t.n.op=2):bO B cx t n (ot t n):=by
 obtain⟨b,a⟩:∃r,ot t n=r:=⟨_,rfl⟩
 unfold bO;rw[a];have wt:=aC ht;refine aP (r:=dA B fU b) 258 [.tmp 6] τok func142 ?_;refine aj<|aI 0 (aL wt) ?_;refine vN t.n.op 1 ?_;refine vY t.n.op 2 ?_ h2;have c:=sL ht h2;refine ae (wq ht.ok ht.len h2) ?_;refine ae (N0 c) ?_;unfold ot at a
 by_cases h:dy (bX t) 1=0
 ·rw[KY Uo]at a
  subst a;have:=(Ai c h).hi;rw[h];refine ae vx' ?_;refine ae (GP 1 Uo) ?_;exact eP9
 ·rw[KX h]at a
  subst a;refine bK (fT h) ?_;exact rfl
theorem N9(c:t.n.op=8):bO B cx t n (.ok (tr (aR B t.n.a).type,n)):=by
 obtain⟨b,a⟩:∃r,(.ok (tr (aR B t.n.a).type,n):Except Int (Tr×Nat))=r:=⟨_,rfl⟩
 unfold bO;rw[a];have wt:=aC ht;refine aP (r:=dA B fU b) 258 [.tmp 6] τok func142 ?_;refine aj<|aI 0 (aL wt) ?_;refine vN t.n.op 1 ?_;refine vN t.n.op 2 ?_;refine vY t.n.op 8 ?_ c;obtain⟨i,x,h,j,k,e,f,d⟩:=hB.dfn ht.node' c;refine de i e ?_;refine vk ?_;subst a;refine⟨_,_,_,rfl,rfl,?_,rfl,rfl⟩;simp only[fU,f,d.type,jJ d.ft.ok,ge']
 rfl
theorem Oa(d:t.n.op=9):bO B cx t n (di (gx B t.n.a) n):=by
 obtain⟨b,a⟩:∃r,di (gx B t.n.a) n=r:=⟨_,rfl⟩
 unfold bO;rw[a];have wt:=aC ht;refine aP (r:=dA B fU b) 258 [.tmp 6] τok func142 ?_;refine aj<|aI 0 (aL wt) ?_;refine vN t.n.op 1 ?_;refine vN t.n.op 2 ?_;refine vN t.n.op 8 ?_;refine vY t.n.op 9 ?_ d;have f:=dn ht.ok.pl;have c:=N3 hB (zy ht.node' d f.2.2.1);cases q1:gx B t.n.a with
 |error e=>
  have h:=An q1;rw[q1]at c a;obtain rfl:.error e=b:=a;refine ae c ?_;refine bK (jN _ (show e≠0 by omega)) ?_;refine gq ?_;refine vk ?_;exact rfl
 |ok z=>
  rw[q1]at c a;obtain rfl:.ok (z,n)=b:=a;refine ae c ?_;refine ae (fO _) ?_;exact kP9
theorem Ob(b:t.n.op=10):bO B cx t n (di (ig B t.n.a t.n.b) n):=by
 obtain⟨c,a⟩:∃r,di (ig B t.n.a t.n.b) n=r:=⟨_,rfl⟩
 unfold bO;rw[a];have wt:=aC ht;refine aP (r:=dA B fU c) 258 [.tmp 6] τok func142 ?_;refine aj<|aI 0 (aL wt) ?_;refine vN t.n.op 1 ?_;refine vN t.n.op 2 ?_;refine vN t.n.op 8 ?_;refine vN t.n.op 9 ?_;refine vY t.n.op 10 ?_ b;have f:=dn ht.ok.pl;have d:=N4 hB (iS ht.node' (.inl b)) f.1 (uV ht.node' b);cases q1:ig B t.n.a t.n.b with
 |error e=>
  have h:=Ao q1;rw[q1]at d a;obtain rfl:.error e=c:=a;refine ae d ?_;refine bK (jN _ (show e≠0 by omega)) ?_;refine gq ?_;refine vk ?_;exact rfl
 |ok z=>
  rw[q1]at d a;obtain rfl:.ok (z,n)=c:=a;refine ae d ?_;refine ae (fO _) ?_;exact kP9
variable(hr:cG B rc)
include hr
theorem Oc(h4:t.n.op=4)(H:n<=100000)(u:∀n,n<=100000 ->bO B cx (kidD t 0) n (rc cx (kidD t 0) n))(w:cx.length<=256 ->∀n,n<=100000 ->bO B (cx++[(kidD t 0,none)]) (kidD t 1) n (rc (cx++[(kidD t 0,none)]) (kidD t 1) n)):bO B cx t n (ou B rc cx t n):=by
 obtain⟨b,a⟩:∃r,ou B rc cx t n=r:=⟨_,rfl⟩
 unfold bO;rw[a];have wt:=aC ht;have I:=au aA cx;refine aP (r:=dA B fU b) 258 [.tmp 6] τok func142 ?_;refine aj<|aI 0 (aL wt) ?_;refine vN t.n.op 1 ?_;refine vN t.n.op 2 ?_;refine vN t.n.op 8 ?_;refine vN t.n.op 9 ?_;refine vN t.n.op 10 ?_;refine ae (iY ht) ?_;refine vY t.n.op 4 ?_ h4;obtain⟨P,j,K⟩:=dq ht (.inl h4);unfold ou at a;have k:=pv hI hB hcx hcl hr j (u n H);refine az 0 (aF wt) ?_;cases m:dP B rc cx (kidD t 0) n with
 |error e=>
  rw[m]at k a;obtain rfl:.error e=b:=a;refine bG k ?_;exact rfl
 |ok p=>
 obtain⟨⟨L,c⟩,y⟩:=p;obtain⟨c1,z,_⟩:=fQ hB hr m;obtain⟨_,M,A⟩:=kX hB hr hcx j m;simp only at z M A;rw[m]at k a;refine ax k ?_;have d:=hcx.snoc j (v:=none) λx C=>by cases C
 have f:Ft (QB B) ((cx++[(kidD t 0,none)]).length:Int) (kidD t 1):=by rw[bB];exact K.mono Uo
 have s:=pv hI hB d (by rw[bB];omega) hr f (w Uo y Uo);have a:aJ (dP B rc (cx++[(kidD t 0,none)]) (kidD t 1) y) (λq n=>if cK c q.2≠0 then .error (cK c q.2)else .ok (fd q.1 (dx c q.2),n))=b:=a;refine az 0 (aF wt) ?_;refine ae (pu hcx Uo j (o:=none) λx C=>by cases C) ?_;refine az 1 (aF wt) ?_;cases D:dP B rc (cx++[(kidD t 0,none)]) (kidD t 1) y with
 |error e=>
  rw[D]at s a;obtain rfl:.error e=b:=a;refine bG s ?_;refine gq ?_;refine vk ?_;exact rfl
 |ok p=>
 obtain⟨⟨F,i⟩,N⟩:=p;obtain⟨_,O,E⟩:=kX hB hr d f D;simp only at O E;rw[D]at s a;have a:(if cK c i≠0 then .error (cK c i)else .ok (fd F (dx c i),N))=b:=a;refine ax s ?_;refine vk ?_;refine ae (A9 A E) ?_
 by_cases h:cK c i=0
 ·rw[KY Uo]at a
  subst a;have:=(Aj A E h).hi;rw[h];refine ae vx' ?_;refine ae (GP F (l:=dx c i) Uo) ?_;exact eP9
 ·rw[KX h]at a
  subst a;refine bK (fT h) ?_;exact rfl
theorem Od(E:t.n.op=5)(H:n<=100000)(l:∀n,n<=100000 ->bO B cx (kidD t 0) n (rc cx (kidD t 0) n))(m:cx.length<=256 ->∀n,n<=100000 ->bO B (cx++[(kidD t 0,none)]) (kidD t 1) n (rc (cx++[(kidD t 0,none)]) (kidD t 1) n)):bO B cx t n (ov B rc cx t n):=by
 obtain⟨b,a⟩:∃r,ov B rc cx t n=r:=⟨_,rfl⟩
 unfold bO;rw[a];have wt:=aC ht;have I:=au aA cx;refine aP (r:=dA B fU b) 258 [.tmp 6] τok func142 ?_;refine aj<|aI 0 (aL wt) ?_;refine vN t.n.op 1 ?_;refine vN t.n.op 2 ?_;refine vN t.n.op 8 ?_;refine vN t.n.op 9 ?_;refine vN t.n.op 10 ?_;refine ae (iY ht) ?_;refine vN t.n.op 4 ?_;refine vY t.n.op 5 ?_ E;obtain⟨R,c,K⟩:=dq ht (.inr E);unfold ov at a;have h:=pv hI hB hcx hcl hr c (l n H);refine az 0 (aF wt) ?_;cases i:dP B rc cx (kidD t 0) n with
 |error e=>
  rw[i]at h a;obtain rfl:.error e=b:=a;refine bG h ?_;exact rfl
 |ok p=>
 obtain⟨⟨L,M⟩,q⟩:=p;obtain⟨c1,s,_⟩:=fQ hB hr i;obtain⟨_,N,O⟩:=kX hB hr hcx c i;simp only at s N O;rw[i]at h a;refine ax h ?_;have d:=hcx.snoc c (v:=none) λx u=>by cases u
 have w:Ft (QB B) ((cx++[(kidD t 0,none)]).length:Int) (kidD t 1):=by rw[bB];exact K.mono Uo
 have f:=m Uo q Uo;unfold bO at f;have a:aJ (rc (cx++[(kidD t 0,none)]) (kidD t 1) q) (λz n=>di (bk [kidD t 0] z) n)=b:=a;have M:=au (λt=>[ah t]) ((kidsT t).map row);have S:=au row (kidsT t);refine bH 0 1 ?_ (λy A=>by
  obtain⟨_,_,rfl⟩:=List.mem_map.1 A
  rfl)
 have P:((((kidsT t).map row).map λt=>[ah t]).take 1).drop 0=([kidD t 0].map row).map rP:=by
  rw[List.drop_zero,<- List.map_take,<- List.map_take,dB (cq wt (k:=0)).1]
  rfl
 rw[P];refine az 0 (aF wt) ?_;refine ae (pu hcx Uo c (o:=none) λx u=>by cases u) ?_;refine az 1 (aF wt) ?_;cases C:rc (cx++[(kidD t 0,none)]) (kidD t 1) q with
 |error e=>
  rw[C]at f a;obtain rfl:.error e=b:=a;refine bG f ?_;refine gq ?_;refine vk ?_;exact rfl
 |ok p=>
 obtain⟨y,F⟩:=p;have D:=hr.ft _ _ _ _ d (by rw[bB];omega) w C;simp only at D;rw[C]at f a;have a:di (bk [kidD t 0] y) F=b:=a;refine ax f ?_;have j:=GK (x:=y) D.ok D.len (ys:=[kidD t 0]) (λy A=>by
  obtain rfl:y=kidD t 0:=by simpa using A
  exact⟨c.ok,c.len⟩) Ud
 cases q1:bk [kidD t 0] y with
 |error e=>
  have T:=kY q1;rw[q1]at j a;obtain rfl:.error e=b:=a;refine ae j ?_;refine bK (jN _ (show e≠0 by omega)) ?_;refine gq ?_;refine vk ?_;exact rfl
 |ok z=>
  rw[q1]at j a;obtain rfl:.ok (z,F)=b:=a;refine ae j ?_;refine ae (fO _) ?_;exact kP9
theorem Oe(C:t.n.op=6)(I:n<=100000)(j:∀n,n<=100000 ->bO B cx (kidD t 0) n (rc cx (kidD t 0) n))(k:∀n,n<=100000 ->bO B cx (kidD t 1) n (rc cx (kidD t 1) n)):bO B cx t n (ow B rc cx t n):=by
 obtain⟨b,a⟩:∃r,ow B rc cx t n=r:=⟨_,rfl⟩
 unfold bO;rw[a];have wt:=aC ht;have K:=au aA cx;refine aP (r:=dA B fU b) 258 [.tmp 6] τok func142 ?_;refine aj<|aI 0 (aL wt) ?_;refine vN t.n.op 1 ?_;refine vN t.n.op 2 ?_;refine vN t.n.op 8 ?_;refine vN t.n.op 9 ?_;refine vN t.n.op 10 ?_;refine ae (iY ht) ?_;refine vN t.n.op 4 ?_;refine vN t.n.op 5 ?_;refine vY t.n.op 6 ?_ C;obtain⟨R,L,D⟩:=nc ht C;unfold ow at a;refine az 0 (aF wt) ?_;have c:=j n I;unfold bO at c;cases f:rc cx (kidD t 0) n with
 |error e=>
  rw[f]at c a;obtain rfl:.error e=b:=a;refine bG c ?_;exact rfl
 |ok q=>
 obtain⟨y,m⟩:=q;have l:=hr.ft _ _ _ _ hcx hcl L f;have M:=hr.le _ _ _ _ f;simp only at l M;rw[f]at a c;have hW:=wB hI hB hcx hcl l m;have a:aJ (dz B cx y m) (λz n=>if (headT z).n.op≠4 \/0<(argsT z).length then .error 12 else
  aJ (fP B rc cx (kidD t 1) (kidD (headT z) 0) n) λ_ n=>di (bq (kidD (headT z) 1) (kidD t 1) 0) n)=b:=a
 refine ax c ?_;cases o:dz B cx y m with
 |error e=>
  rw[o]at a hW;obtain rfl:.error e=b:=a;refine bG hW ?_;exact rfl
 |ok q=>
 obtain⟨z,p⟩:=q;obtain⟨_,s,E⟩:=jb hB hcx l o;simp only at E s;have w:=E.head;have A:=aC w;have S:=au (λt=>[ah t]) ((argsT z).map row);have T:=au row (argsT z);rw[o]at a hW;have a:(if (headT z).n.op≠4 \/0<(argsT z).length then .error 12 else
  aJ (fP B rc cx (kidD t 1) (kidD (headT z) 0) p) λ_ n=>di (bq (kidD (headT z) 1) (kidD t 1) 0) n)=b:=a
 refine ax hW ?_;refine aI 0 (aL A) ?_;refine af (λg=>?_) (λg=>?_)
 ·rw[KX (.inl g)]at a
  subst a;refine bK (fT UO) ?_;exact rfl
 have g:(headT z).n.op=4:=QY g;refine af (λd=>?_) (λd=>?_)
 ·have d:((((argsT z).map row).map λt=>[ah t]).length:Int)>0:=d
  rw[KX (.inr Uo)]at a;subst a;refine bK (fT UO) ?_;exact rfl
 have d:¬ ((((argsT z).map row).map λt=>[ah t]).length:Int)>0:=d;rw[KY Uo]at a;refine ae (iY w) ?_;obtain⟨U,O,P⟩:=dq w (.inl g);refine az 1 (aF wt) ?_;refine az 0 (aF A) ?_;have h:=wC hI hB hcx hcl hr D O (k p Uo);cases F:fP B rc cx (kidD t 1) (kidD (headT z) 0) p with
 |error e=>
  rw[F]at a h;obtain rfl:.error e=b:=a;refine bG h ?_;refine vk ?_;exact rfl
 |ok q=>
 obtain⟨_,H⟩:=q;rw[F]at a h;have a:di (bq (kidD (headT z) 1) (kidD t 1) 0) H=b:=a;refine ax h ?_;refine vk ?_;refine az 1 (aF A) ?_;refine az 1 (aF wt) ?_;have i:=ph (x:=kidD (headT z) 1) (u:=kidD t 1) (v:=0) (N:=(cx.length:Int)) (P.mono Uo) D Uo Uo;cases q1:bq (kidD (headT z) 1) (kidD t 1) 0 with
 |error e=>
  have V:=jp q1;rw[q1]at i a;obtain rfl:.error e=b:=a;refine ae i ?_;refine bK (jN _ (show e≠0 by omega)) ?_;refine gq ?_;refine vk ?_;exact rfl
 |ok z=>
  rw[q1]at i a;obtain rfl:.ok (z,H)=b:=a;refine ae i ?_;refine ae (fO _) ?_;exact kP9
end
theorem GU{B:ak}{i:Nat}{s:Int}{N:Int}{y:Tr}(h:Ft (cw B i s) N y):Mt i y:=λm b a=>by
 have:=h.al m b;simp[cw,bg,a,bF]at this;exact this.2.1
theorem wD(l:List Tr)(y:Tr):cr (l++[y])=cr l++[(y,none)]:=by simp[cr]
theorem te(l:List Tr):(cr l).length=l.length:=by simp[cr]
theorem wE{B:ak}{l:List Tr}(h:∀(k:Nat) y,l[k]?=some y ->Ft (QB B) (k:Int) y):CxOk B (cr l):=λi q a=>by
 unfold cr at a;rw[JX]at a;obtain⟨y,b,rfl⟩:=Option.map_eq_some_iff.1 a;exact⟨h i y b,λx c=>by cases c⟩
theorem Mt.kid{k:Nat}{t y:Tr}(h:Mt k t)(j:y∈kidsT t):Mt k y/\(row y).length<(row t).length:=by
 obtain⟨n,d⟩:=t;have e:∀(l:List Tr) (z:Tr),z∈l ->(∀m∈row z,m∈rows l)/\(row z).length<=(rows l).length:=by
  intro l
  induction l with
  |nil=>intro z b;cases b
  |cons a l x=>
   intro z b;rcases List.mem_cons.1 b with rfl|b
   ·exact⟨λm c=>by simp[rows,c],by simp[rows]⟩
   ·obtain⟨o,r⟩:=x z b
    exact⟨λm c=>by simp[rows,o m c],by simp[rows];omega⟩
 have p:row (.mk n d)=n::rows d:=by simp[row]
 have q:∀z∈d,(∀m∈row z,m∈row (.mk n d))/\(row z).length<(row (.mk n d)).length:=λz b=>by
  obtain⟨o,r⟩:=e d z b;rw[p];exact⟨λm c=>List.mem_cons_of_mem _ (o m c),Uk⟩
 have f:(∀m∈row y,m∈row (.mk n d))/\(row y).length<(row (.mk n d)).length:=by
  simp only[kidsT]at j;split at j
  ·simp at j
  split at j
  ·obtain⟨z,b,i⟩:=List.mem_flatMap.1 j
   obtain⟨o,r⟩:=q z b;obtain⟨w,s⟩:=z;have i:y∈s:=i;obtain⟨A,C⟩:=e s y i;have u:row (.mk w s)=w::rows s:=by simp[row]
   rw[u]at o r;exact⟨λm c=>o m (List.mem_cons_of_mem _ (A m c)),by simp at r;omega⟩
  ·exact q y j
 exact⟨λm c v=>h m (f.1 m c) v,f.2⟩
theorem GV{f:Tr}{i:Nat}(hi:i<f.n.b.toNat):(aQ f).take (i+1)=(aQ f).take i++[(aK (kidD f (2*i)) i 0,none)]:=dB (Ae hi)
theorem oH{α β:Type}{q:α×Nat}{k:α ->Nat ->Except Int (β×Nat)}:aJ (.ok q) k=k q.1 q.2:=rfl
section
variable{B:ak}{cx:Ctx}{t:Tr}{n g:Nat}{rc:RcJ}
variable(hI:BoI B)(hB:GoodB B)(hr:cG B rc)
section
variable(hcx:CxOk B cx)(hcl:cx.length<=260)(ht:Ft (QB B) (cx.length:Int) t)
include hI hB hr hcx hcl ht
theorem Bb(l:t.n.op=12)(hn:n<=100000)(y:∀i,i<t.n.b.toNat ->∀n,n<=100000 ->bO B cx (kidD t (2*i)) n (rc cx (kidD t (2*i)) n))(z:cx.length<=256 ->∀i,i<t.n.b.toNat ->∀n,n<=100000 ->bO B (cx++aQ t) (kidD t (2*i+1)) n (rc (cx++aQ t) (kidD t (2*i+1)) n)):
  eW prog 200 259 (fC B n) [aH (cx.map aA),ah (row t),bD ((kidsT t).map row)] (dA B fU (ma B rc cx t n)):=by
 obtain⟨l1,l2,l3,l4,l5⟩:=dp ht.ok l;have W:=fA ht.ok l;obtain⟨u,N⟩:∃k,t.n.b.toNat=k:=⟨_,rfl⟩
 have O:t.n.b=(u:Int):=Uo
 have wt:=aC ht;have A:=oq t;generalize d:ma B rc cx t n=s;unfold ma at d;rw[N]at d y z A;obtain⟨T,C⟩:∃f:Unit ->Nat ->Except Int (Tr×Nat),f=λ_ n=>if gw B t≠0 then .error (gw B t)else aJ (nl B rc (cx++aQ t) t u u 0 n) λ_ n=>.ok (kidD t (2*t.n.a.toNat),n):=⟨_,rfl⟩
 rw[<- C]at d;refine aP (r:=dA B fU s) 84 [.tmp 8] τok func200 ?_;refine aj<|aI 0 (aL wt) ?_;refine aB τok (σ:=Nat×Nat) [(0,_),(1,_),(2,_),(3,_),(9,_),(18,_)] [] (λq=>[(10,vP (aH ((cx++(aQ t).take q.1).map aA))),(19,vI q.1)]) (λq=>[(0,.st 1 259 ((fC B q.2).map .p))]) (λq=>q.1<=u/\q.2<=n/\(0<q.1 ->cx.length<=256)/\aJ (nk B rc cx t (u-q.1) q.1 q.2) T=s) (λq=>u-q.1) (0,n) ⟨KV _,KJ _,λh=>absurd h (Nat.lt_irrefl _),d⟩ ?_ (x1:=⟨by rw[List.take_zero,JD];rfl,rfl,trivial⟩)
 clear d
 rintro⟨i,m⟩ ⟨X,U,K,a⟩;simp only at X U K a;refine aj<|af (λg=>?_) (λg=>?_)
 ·have g:(i:Int)<t.n.b:=g
  rw[show u-i=(u-(i+1))+1 by omega]at a;simp only[nk]at a;obtain⟨_,_,f0,_⟩:=gM ht l (i:=i) Uo;have L:=pv hI hB hcx hcl hr f0 (y i Uo m Uo);refine vi ?_;refine az (2*i) (aF wt) ?_;cases v:dP B rc cx (kidD t (2*i)) m with
  |error e=>
   rw[v]at L a;obtain rfl:.error e=s:=a;refine bG L ?_;exact rfl
  |ok q=>
  obtain⟨q1,D⟩:=q;obtain⟨c1,w,_⟩:=fQ hB hr v;simp only at w;rw[v]at L a;refine ax L ?_;refine vi ?_;refine az (2*i) (aF wt) ?_;refine ae (lQ f0 Uo (b:=(i:Int)) Uo) ?_;refine ae (fO _) ?_;have E:=f0.lift (qk B) (b:=(i:Int)) Uo Uo Uo;have Y:((aQ t).take i).length=i:=by rw[VJ];omega
  have e6:(cx++(aQ t).take i).length=cx.length+i:=by rw[JK,Y]
  have F:CxOk B (cx++(aQ t).take i):=λk q P=>by
   refine ng hcx Uo ht l k q ?_
   by_cases Z:k<(cx++(aQ t).take i).length
   ·rw[show cx++aQ t=(cx++(aQ t).take i)++(aQ t).drop i by rw[List.append_assoc,List.take_append_drop],QH Z]
    exact P
   ·rw[QF Uo]at P
    cases P
  refine ae (pu F Uo (o:=none) (E.mono Uo) λx hx=>by cases hx) ?_;refine vi ?_;exact aw (i+1,D) ⟨Us,Us,λ_=>c1,a⟩ (x:=⟨KG (λc:Ctx=>some (vP (aH (c.map aA)))) (by rw[List.append_assoc,GV (f:=t) (i:=i) Uo]),rfl,trivial⟩)
 have g:¬ (i:Int)<t.n.b:=g;obtain rfl:i=u:=Uo
 have K:=K Uo;rw[Nat.sub_self]at a;have a:T () m=s:=a;rw[C]at a;simp only at a;have H:=ng hcx Uo ht l;have V:(cx++aQ t).length=cx.length+i:=by rw[JK,A]
 rw[JG Uo];refine ae (N1 hI hB ht l) ?_
 by_cases R:gw B t=0
 rotate_left
 ·rw[KX R]at a
  subst a;refine bK (fT R) ?_;exact rfl
 rw[KY Uo]at a;rw[R];refine ae vx' ?_;refine aB τok (σ:=Nat×Nat) [(0,_),(2,_),(3,_),(9,_),(10,_),(52,_)] [] (λq=>[(53,vI q.1)]) (λq=>[(0,.st 1 259 ((fC B q.2).map .p))]) (λq=>q.1<=i/\q.2<=n/\aJ (nl B rc (cx++aQ t) t i (i-q.1) q.1 q.2) (λ_ n=>.ok (kidD t (2*t.n.a.toNat),n))=s) (λq=>i-q.1) (0,m) ⟨KV _,U,a⟩ ?_
 clear a
 rintro⟨j,D⟩ ⟨hj,w,a⟩;simp only at hj w a;refine aj<|af (λI=>?_) (λI=>?_)
 ·have I:(j:Int)<t.n.b:=I
  rw[show i-j=(i-(j+1))+1 by omega]at a;simp only[nl]at a;obtain⟨_,_,f0,f1⟩:=gM ht l (i:=j) Uo;have E:=f0.lift (qk B) (b:=(i:Int)) Uo Uo Uo;refine vi ?_;refine vi ?_;refine az (2*j+1) (aF wt) ?_;refine vi ?_;refine az (2*j) (aF wt) ?_;refine ae (lQ f0 Uo (b:=t.n.b) Uo) ?_;refine ae (fO _) ?_;have f1:Ft (QB B) ((cx++aQ t).length:Int) (kidD t (2*j+1)):=f1.mono Uo;have E:Ft (QB B) ((cx++aQ t).length:Int) (aK (kidD t (2*j)) i 0):=E.mono Uo;have M:=wC hI hB H Uo hr f1 E (z K j Uo D Uo);rw[O];cases v:fP B rc (cx++aQ t) (kidD t (2*j+1)) (aK (kidD t (2*j)) i 0) D with
  |error e=>
   rw[v]at M a;obtain rfl:.error e=s:=a;refine bG M ?_;refine vk ?_;exact rfl
  |ok q=>
   obtain⟨_,m2⟩:=q;have S:=(mb hr v).2;simp only at S;rw[v]at M a;refine ax M ?_;refine vk ?_;refine vi ?_;refine aw (j+1,m2) ⟨Us,Us,a⟩
 ·have I:¬ (j:Int)<t.n.b:=I
  obtain rfl:j=i:=Uo
  rw[Nat.sub_self]at a;obtain rfl:.ok (kidD t (2*t.n.a.toNat),D)=s:=a;refine aI 0 (aL wt) ?_;refine vi ?_;refine az (2*t.n.a.toNat) (aF wt) ?_;exact eP9
end
include hI hB hr
theorem Of(O:qM B rc g)(hn:n<=100000){a:Int}(ha:bF B B.ents.length a=true)(X:a.toNat*5000+4096<=g):eW prog 232 259 (fC B n) [pI a] (dA B PV.bool (ke B rc a n)):=by
 obtain⟨i,x,s,f,qi,rfl,_,H,P,A⟩:=hB.fam ha (KJ _);obtain⟨I,e2,e3⟩:=A.ps_eq H;have X:i*5000+4096<=g:=by simpa using X
 generalize d:ke B rc (i:Int) n=v;unfold ke at d;rw[I,P]at d;have a0:=A.lp;have a1:=A.lc;have l1:=au cd x.ctors;have l2:=au (λt=>[ah t]) x.params;have l3:=KG List.length A.params;rw[KF]at l3;refine aP (r:=dA B PV.bool v) 67 [.tmp 4] τok func232 ?_;refine aj<|de i H ?_;refine af (λK=>?_) (λK=>?_)
 ·have K:((x.ctors.map cd).length:Int)=0:=K
  rw[KX Uo]at d;subst d;exact eP9
 have K:¬ ((x.ctors.map cd).length:Int)=0:=K;rw[KY Uo]at d;refine af (λC=>?_) (λC=>?_)
 ·have C:((x.ctors.map cd).length:Int)>1:=C
  rw[KX Uo]at d;subst d;exact eP9
 have C:¬ ((x.ctors.map cd).length:Int)>1:=C;rw[KY Uo]at d;obtain⟨c,R,_⟩:=ay (l:=x.ctors) (k:=0);obtain⟨h,go,F⟩:=A.ct 0 c R;obtain⟨S,T,e6⟩:=F.ag_eq H R;have S:ja B (i:Int) 0=h:=S;rw[S]at d;have a2:=F.la;have l4:=au (λt=>[ah t]) c.args;have l5:=KG List.length F.args;rw[KF]at l5;have w:∀(k:Nat) y,f[k]?=some y ->Ft (QB B) (k:Int) y:=λk y u=>A.up_p hB H u;have z:∀j,CxOk B (cr (f++h.take j)):=λj=>wE λk y u=>by
  by_cases hk:k<f.length
  ·rw[QH hk]at u
   exact w k y u
  ·rw[QU Uo]at u
   rw[List.getElem?_take]at u;split at u
   ·have:=F.up_a H A.kind u
    exact this.mono Uo
   ·cases u
 have L:∀j,CxOk B (cr (f.take j)):=λj=>wE λk y u=>by
  rw[List.getElem?_take]at u;split at u
  ·exact w k y u
  ·cases u
 refine dC 6 1000 260 2 rfl rfl<|nV 6 1000 ?_;refine aB τok (σ:=Nat) [(0,_),(5,_),(30,_),(31,_)] [(0,_),(5,_)] (λj=>[(6,vP (aH ((cr (f.take j)).map aA))),(32,vI j)]) (λ_=>[]) (λj=>j<=f.length) (λj=>f.length-j) 0 (KV _) ?_;intro j Y;have T:(f.take j).length=j:=by rw[VJ];omega
 refine aj<|af (λg=>?_) (λg=>?_)
 ·have g:(j:Int)<((x.params.map λt=>[ah t]).length:Int):=g
  obtain⟨p,E,_⟩:=ay (l:=f) (k:=j);refine az j (x:=row p) (by rw[A.params,JX,E];rfl) ?_;refine ae (pu (L j) (by rw[te,T];omega) (t:=p) (o:=none) (by rw[te,T];exact w j p E) λx U=>by cases U) ?_;refine vi ?_;exact aw (j+1) (by show j+1<=_;omega) (x:=⟨KG (λc:Ctx=>some (vP (aH (c.map aA)))) (by rw[dB E,wD]),rfl,trivial⟩)
 have g:¬ (j:Int)<((x.params.map λt=>[ah t]).length:Int):=g;obtain rfl:j=f.length:=Uo
 rw[List.take_length];refine gI 0 R ?_;refine aB τok (σ:=Nat×Nat) [(0,_),(46,_),(47,_)] [] (λq=>[(6,vP (aH ((cr (f++h.take q.1)).map aA))),(48,vI q.1)]) (λq=>[(0,.st 1 259 ((fC B q.2).map .p))]) (λq=>q.1<=h.length/\q.2<=n/\nj B rc (cr (f++h.take q.1)) (h.drop q.1) q.2=v) (λq=>h.length-q.1) (0,n) ⟨KV _,KJ _,by simpa using d⟩ ?_ (x1:=⟨by rw[List.take_zero,JD];rfl,rfl,trivial⟩)
 clear d
 rintro⟨j,m⟩ ⟨Y,hm,b⟩;simp only at Y hm b;refine aj<|af (λg=>?_) (λg=>?_);rotate_left
 ·have g:¬ (j:Int)<((c.args.map λt=>[ah t]).length:Int):=g
  obtain rfl:j=h.length:=Uo
  rw[List.drop_length]at b;obtain rfl:.ok (true,m)=v:=b;exact eP9
 have g:(j:Int)<((c.args.map λt=>[ah t]).length:Int):=g;obtain⟨p,E,hd⟩:=ay (l:=h) (k:=j);rw[hd]at b;simp only[nj]at b;have M:(cr (f++h.take j)).length=f.length+j:=by rw[te];simp;omega
 have D:Ft (QB B) ((cr (f++h.take j)).length:Int) p:=by rw[M];exact F.up_a H A.kind E
 have N:=pv hI hB (z j) Uo hr D (O _ i _ m (z j) Uo D (GU (F.fa j p E)) (by have:=D.len;omega) Uo);refine az j (x:=row p) (by rw[F.args,JX,E];rfl) ?_;cases I:dP B rc (cr (f++h.take j)) p m with
 |error e=>
  rw[I]at N b;obtain rfl:.error e=v:=b;refine bG N ?_;exact rfl
 |ok q=>
 obtain⟨⟨kd,lv⟩,V⟩:=q;obtain⟨_,W,_⟩:=fQ hB hr I;simp only at W;rw[I]at N b;have b:(if kd≠0 then .ok (false,V)else nj B rc (cr (f++h.take j)++[(p,none)]) (h.drop (j+1)) V)=v:=b;refine ax N ?_;refine af (λC=>?_) (λC=>?_)
 ·rw[KX C]at b
  subst b;exact eP9
 rw[KY C]at b;refine ae (pu (z j) Uo (t:=p) (o:=none) D λx U=>by cases U) ?_;refine vi ?_;have Z:cr (f++h.take (j+1))=cr (f++h.take j)++[(p,none)]:=by rw[dB E,<- List.append_assoc,wD]
 exact aw (j+1,V) ⟨Us,Us,by simp only;rw[Z];exact b⟩ (x:=⟨KG (λc:Ctx=>some (vP (aH (c.map aA)))) Z.symm,rfl,trivial⟩)
end
section
variable{B:ak}{cx:Ctx}{t:Tr}{n g:Nat}{rc:RcJ}
variable(hI:BoI B)(hB:GoodB B)
include hI hB
theorem Og(hcx:CxOk B cx)(hcl:cx.length<=256){n:Nat}{a:Int}(ha:bF B B.ents.length a=true){z:List Tr}(H:∀y∈z,Ft (QB B) (cx.length:Int) y)(a4:z.length=(ie B a).length){m:Tr}(hm:Ft (QB B) (cx.length:Int) m):
  eW prog 231 259 (fC B n) [aH (cx.map aA),pI a,bD (z.map row),ah (row m)] (dA B pI (qC B cx a z m n)):=by
 obtain⟨i0,x,s,ps,qi,ei,_,hi,b3,U⟩:=hB.fam ha (KJ _);obtain⟨e1,e2,e3⟩:=U.ps_eq hi;rw[<- ei]at e1 e2 e3;have b2:=kW hB ha;generalize D:qC B cx a z m n=A;unfold qC at D;rw[e2]at D;rw[e1]at a4;have b4:=U.lp;have b5:=U.li;have l4:=au (λt=>[ah t]) x.indices;have l5:=KG List.length U.indices;rw[KF]at l5;have l6:=au (λt=>[ah t]) (z.map row);have l7:=au row z;obtain⟨np,b6⟩:∃k,ps.length=k:=⟨_,rfl⟩
 obtain⟨u,a5⟩:∃k,qi.length=k:=⟨_,rfl⟩
 rw[a5]at D;refine aP (r:=dA B pI A) 148 [.tmp 10] τok func231 ?_;refine aj<|de i0 hi ?_ (hi:=ei);refine aB τok (σ:=Nat×Ctx×Tr×Nat) [(0,_),(2,_),(3,_),(11,_),(12,_)] [(11,_)] (λq=>[(1,vP (aH (q.2.1.map aA))),(4,vP (ah (row q.2.2.1))),(13,vI q.1)]) (λq=>[(0,.st 1 259 ((fC B q.2.2.2).map .p))])
  (λq=>q.1<=u+1/\CxOk B q.2.1/\(q.2.1.length=cx.length+q.1/\q.2.1.length<=257)/\Ft (QB B) (q.2.1.length:Int) q.2.2.1/\q.2.2.2<=n/\ju B a z u (u+1-q.1) q.1 q.2.1 q.2.2.1 q.2.2.2=A) (λq=>u+1-q.1) (0,cx,m,n) ⟨KV _,hcx,⟨rfl,by show cx.length<=257;omega⟩,hm,KJ _,D⟩ ?_
 clear D hm
 rintro⟨i,h,mm,n1⟩ ⟨a6,C,⟨a7,W⟩,fm,a8,d⟩;simp only at a6 C a7 W fm a8 d;have hW:=wB hI hB C Uo fm n1;refine aj<|af (λX=>?_) (λX=>?_)
 ·have X:(i:Int)<=((x.indices.map λt=>[ah t]).length:Int):=X
  rw[show u+1-i=(u-i)+1 by omega]at d;simp only[ju]at d;cases N:dz B h mm n1 with
  |error e=>
   rw[N]at hW d;obtain rfl:.error e=A:=d;refine bG hW ?_;exact rfl
  |ok q=>
  obtain⟨f,O⟩:=q;obtain⟨ci,P,Y⟩:=jb hB C fm N;simp only at Y P;have Z:=Y.head;have R:=aC Z;have l1:=au (λt=>[ah t]) ((argsT f).map row);have l2:=au row (argsT f);rw[N]at hW d;have d:(if (headT f).n.op≠4 \/0<(argsT f).length then .error 16 else aJ (di (jP B a z i u) O) λw n=>aJ (ii B h (kidD (headT f) 0) w false n) λb n=>if b=true then ju B a z u (u-i) (i+1) (h++[(kidD (headT f) 0,none)]) (kidD (headT f) 1) n else .error 16)=A:=d;refine ax hW ?_;refine aI 0 (aL R) ?_;refine af (λF=>?_) (λF=>?_)
  ·rw[KX (.inl F)]at d
   subst d;refine bK (fT UO) ?_;exact rfl
  have F:(headT f).n.op=4:=QY F;refine af (λE=>?_) (λE=>?_)
  ·have E:((((argsT f).map row).map λt=>[ah t]).length:Int)>0:=E
   rw[KX (.inr Uo)]at d;subst d;refine bK (fT UO) ?_;exact rfl
  have E:¬ ((((argsT f).map row).map λt=>[ah t]).length:Int)>0:=E;rw[KY Uo]at d;obtain⟨fl,f0,f1⟩:=dq Z (.inl F);refine af (λg7=>?m1) (λg7=>?m2)
  case' m1=>
   have g7:(i:Int)<((x.indices.map λt=>[ah t]).length:Int):=g7;obtain⟨V,S,_⟩:=ay (l:=qi) (k:=i);have a9:(kc B a).getD i (varX 0)=V:=by rw[e2,QK,S];rfl
   have a0:Ft (QB B) ((cx.length:Int)+z.length+i) V:=(U.up_i hB hi S).mono Uo;have I:=N6 (qk B) Uo Uo (cg:=(i:Int)) Uo H Uo a0;have T:jP B a z i u=cQ z (i:Int) z.length V:=by
    unfold jP;rw[KX Uo,a9]
   rw[T]at d;refine az i (x:=row V) (by rw[U.indices,JX,S];rfl) ?_;rcases M:cQ z (i:Int) z.length V with e|w
   ·rw[M]at I d
    obtain rfl:.error e=A:=d;refine bK I ?_;exact rfl
   have fw:=Ah (qk B) (cg:=(i:Int)) Uo Uo Uo Uo H z.length V w (KJ _) Uo a0 M;rw[M]at I d;have d:aJ (ii B h (kidD (headT f) 0) w false O) (λb n=>if b=true then ju B a z u (u-i) (i+1) (h++[(kidD (headT f) 0,none)]) (kidD (headT f) 1) n else .error 16)=A:=d;refine ae (r:=ah (row w)) I ?_;have fw:Ft (QB B) (h.length:Int) w:=fw.mono Uo
  case' m2=>
   have g7:¬ (i:Int)<((x.indices.map λt=>[ah t]).length:Int):=g7;have T:jP B a z i u=aO (.mk ⟨9,a,0⟩ []) (z.map (λp=>aK p u 0)++varsM u 0):=by
    unfold jP;rw[KY Uo]
   rw[T]at d;have a1:Ft (QB B) (h.length:Int) (.mk ⟨9,a,0⟩ []):=pk (by simp[aG,aX];omega) (.inl rfl) (by
    simp only[QB,cw,bg];simp[ha])
   have a2:∀y∈z.map (λp=>aK p (u:Int) 0)++varsM u 0,Ft (QB B) (h.length:Int) y:=λy hy=>by
    rcases List.mem_append.1 hy with hy|hy
    ·obtain⟨p,hp,rfl⟩:=List.mem_map.1 hy
     exact((H p hp).lift (qk B) (b:=(u:Int)) Uo Uo Uo).mono Uo
    ·exact(lY (qk B) Uo Uo y hy).mono Uo
   have a':(varsM u 0).length=u:=by simp[varsM]
   have c1:(((x.indices.map λt=>[ah t]).length:Nat):Int)=(u:Int):=Uo
   show VCode _ _ _ _ _;refine dC 17 1000 29 1 rfl rfl<|aB τok (σ:=Nat) [(0,_),(1,_),(2,_),(3,_),(11,_),(12,_),(13,_),(14,_),(69,_),(70,_)] [(0,_),(11,_)] (λj=>[(17,.c (.row 1000)),(71,vI j)]) (λj=>[(1000,.rw 29 1 ((((z.take j).map λp=>aK p (u:Int) 0).map row).map rP))]) (λj=>j<=z.length) (λj=>z.length-j) 0 (KV _) ?_;intro j hj;have ej:(z.take j).length=j:=by rw[VJ];omega
   refine aj<|af (λg8=>?_) (λg8=>?_)
   ·have g8:(j:Int)<(((z.map row).map λt=>[ah t]).length:Int):=g8
    obtain⟨p,hp,_⟩:=ay (l:=z) (k:=j);have fp:=H p (JQ hp);have a3:=lQ fp Uo (b:=(u:Int)) Uo;rw[<- c1]at a3;refine az j (x:=row p) (by rw[JX,hp];rfl) ?_;refine ae a3 ?_;refine ae (fO _) ?_;refine bi ?_ (hb:=Uk);refine vi ?_;exact aw (j+1) (by show j+1<=_;omega) (sw 1000 83) (y':=⟨KG (λl=>some (SE.rw _ _ l)) (by
     rw[dB hp,KB,KB,KB,c1]
     rfl),trivial⟩)
   have g8:¬ (j:Int)<(((z.map row).map λt=>[ah t]).length:Int):=g8;obtain rfl:j=z.length:=Uo
   rw[List.take_length];have ev:∀k,k<u ->(varsM u 0)[k]?=some (varX (0+((u-1-k:Nat):Int))):=λk hk=>by
    unfold varsM;rw[JX,List.getElem?_range hk]
    rfl
   refine vi ?_;refine aB τok (σ:=Nat×Int) [(0,_),(1,_),(2,_),(3,_),(11,_),(12,_),(13,_),(14,_)] [(0,_),(11,_)] (λq=>[(17,.c (.row 1000)),(20,vI q.2)]) (λq=>[(1000,.rw 29 1 (((z.map λp=>aK p (u:Int) 0).map row).map rP++(((varsM u 0).take q.1).map row).map rP))]) (λq=>q.1<=u/\q.2=(u:Int)-1-q.1) (λq=>u-q.1) (0,(((x.indices.map λt=>[ah t]).length:Nat):Int)-1) ⟨KV _,Us⟩ ?_ (y1:=⟨KG (λl=>some (SE.rw 29 1 l)) (by rw[List.take_zero];exact(JD _).symm),trivial⟩);rintro⟨k,v⟩ ⟨hk,hv⟩;simp only at hk hv;have ek:((varsM u 0).take k).length=k:=by rw[VJ];omega
   refine aj<|af (λg=>?_) (λg=>?_)
   ·have g:v≥0:=g
    refine bi ?_ (hb:=Uk);refine vi ?_;exact aw (k+1,v-1) ⟨Us,Us⟩ (sw 1000 96) (y':=⟨KG (λl=>some (SE.rw _ _ l)) (by
     rw[dB (ev k Uo),KB,KB,List.append_assoc,show (0:Int)+((u-1-k:Nat):Int)=v by omega]
     rfl),trivial⟩)
   have g:¬ v≥0:=g;obtain rfl:u=k:=Uo
   have K:=td hB (L:=((z.map λp=>aK p (u:Int) 0).map row).map rP++(((varsM u 0).take u).map row).map rP) a1 a2 (by rw[JK,KF,a'];omega) (by
    rw[JG Uo,KB,KB])
   rcases M:aO (.mk ⟨9,a,0⟩ []) (z.map (λp=>aK p (u:Int) 0)++varsM u 0)with e|w
   ·have he:=iX M
    rw[M]at K d;obtain rfl:.error e=A:=d;refine ae K ?_;refine bK (jN _ (show e≠0 by omega)) ?_;exact rfl
   have fw:=gG (qk B) a1 a2 M;rw[M]at K d;have d:aJ (ii B h (kidD (headT f) 0) w false O) (λb n=>if b=true then ju B a z u (u-i) (i+1) (h++[(kidD (headT f) 0,none)]) (kidD (headT f) 1) n else .error 16)=A:=d;refine ae K ?_;refine ae (fO _) ?_
  all_goals
   refine ae (iY Z) ?_;refine az 0 (aF R) ?_;have hC:=GS hI hB C Uo f0 fw O false;cases e8:ii B h (kidD (headT f) 0) w false O with
   |error e=>
    rw[e8]at hC d;obtain rfl:.error e=A:=d;refine bG hC ?_;exact rfl
   |ok q=>
    obtain⟨b,n3⟩:=q;have b0:=(vL e8).2;simp only at b0;rw[e8]at hC d;refine ax hC ?_;cases b with
    |false=>
     obtain rfl:.error 16=A:=d;refine bK (fT UO) ?_;exact rfl
    |true=>
     have d:ju B a z u (u-i) (i+1) (h++[(kidD (headT f) 0,none)]) (kidD (headT f) 1) n3=A:=d;refine az 0 (aF R) ?_;refine ae (pu C Uo f0 (o:=none) λx hx=>by cases hx) ?_;refine az 1 (aF R) ?_;refine vk ?_;refine vi ?_;have b1:Ft (QB B) ((h++[(kidD (headT f) 0,none)]).length:Int) (kidD (headT f) 1):=by rw[bB];exact f1.mono Uo
     exact aw (i+1,h++[(kidD (headT f) 0,none)],kidD (headT f) 1,n3) ⟨Us,C.snoc f0 (λx hx=>by cases hx),by rw[bB];omega,b1,Us,by simp only;rw[show u+1-(i+1)=u-i by omega];exact d⟩
 have X:¬ (i:Int)<=((x.indices.map λt=>[ah t]).length:Int):=X;obtain rfl:i=u+1:=Uo
 rw[Nat.sub_self]at d;simp only[ju]at d;cases N:dz B h mm n1 with
 |error e=>
  rw[N]at hW d;obtain rfl:.error e=A:=d;refine bG hW ?_;exact rfl
 |ok q=>
 obtain⟨f,O⟩:=q;obtain⟨ci,P,Y⟩:=jb hB C fm N;simp only at Y P;have Z:=Y.head;have R:=aC Z;have l1:=au (λt=>[ah t]) ((argsT f).map row);have l2:=au row (argsT f);rw[N]at hW d;have d:(if (headT f).n.op≠2 \/0<(argsT f).length then .error 16 else .ok ((headT f).n.a,O))=A:=d;refine ax hW ?_;refine aI 0 (aL R) ?_;refine af (λF=>?_) (λF=>?_)
 ·rw[KX (.inl F)]at d
  subst d;refine bK (fT UO) ?_;exact rfl
 have F:(headT f).n.op=2:=QY F;refine af (λE=>?_) (λE=>?_)
 ·have E:((((argsT f).map row).map λt=>[ah t]).length:Int)>0:=E
  rw[KX (.inr Uo)]at d;subst d;refine bK (fT UO) ?_;exact rfl
 have E:¬ ((((argsT f).map row).map λt=>[ah t]).length:Int)>0:=E;rw[KY Uo]at d;subst d;refine aI 0 (aL R) ?_;exact eP9
end
section
variable{B:ak}{cx:Ctx}{t:Tr}{n g:Nat}{rc:RcJ}
variable(hI:BoI B)(hB:GoodB B)(hr:cG B rc)(hcx:CxOk B cx)(hcl:cx.length<=260)(ht:Ft (QB B) (cx.length:Int) t)
include hI hB hr hcx hcl ht
theorem Oh(Y:t.n.op=11)(hn:n<=100000)(a3:qM B rc g)(hg:t.n.a.toNat*5000+4096<=g)(hT:∀i,i<(kidsT t).length ->∀n,n<=100000 ->bO B cx (kidD t i) n (rc cx (kidD t i) n)):
  eW prog 199 259 (fC B n) [aH (cx.map aA),.agg (ndP t.n),bD ((kidsT t).map row)] (dA B fU (kg B rc cx t.n (kidsT t) n)):=by
 obtain⟨lk,b',b8,kf⟩:=mc ht Y;have wt:=aC ht;have Z:=iS ht.node' (.inr Y);obtain⟨i0,x,s,ps,qi,ei,_,hi,R,K⟩:=hB.fam Z (KJ _);obtain⟨e1,e2,e3⟩:=K.ps_eq hi;rw[<- ei]at e1 e2 e3;generalize c:kg B rc cx t.n (kidsT t) n=f;unfold kg at c;simp only at c;rw[e1,e2,e3,R]at c;have a4:(kidsT t).getD 0 (varX 0)=kidD t 0:=rfl;have a5:(kidsT t).getD 1 (varX 0)=kidD t 1:=rfl;rw[a4,a5]at c;have c0:=K.lp;have c2:=K.li;have c3:=K.lc;have eK:=au (λt=>[ah t]) ((kidsT t).map row);have c4:=au row (kidsT t);have l1:=au cd x.ctors;have l2:=au (λt=>[ah t]) x.params;have l3:=KG List.length K.params;have l4:=au (λt=>[ah t]) x.indices;have l5:=KG List.length K.indices;rw[KF]at l3 l5;obtain⟨M,v⟩:∃k,ps.length=k:=⟨_,rfl⟩
 obtain⟨ni,a6⟩:∃k,qi.length=k:=⟨_,rfl⟩
 rw[v,a6]at c;have a7:=(cq wt (k:=0)).1;have a8:=(cq wt (k:=1)).1;have k0:=kf _ (JQ a7);have k1:=kf _ (JQ a8);obtain⟨o,A⟩:∃l,(kidsT t).drop 2=l:=⟨_,rfl⟩
 have c5:o.length=(kidsT t).length-2:=by rw[<- A,VK]
 have c6:=au rP (o.map row);have c7:=au row o;rw[A]at c;have S:∀(l:List Tr) y,y∈((l.map row).map λt=>[ah t]) ->y.length=1:=λl y u=>by
  obtain⟨_,_,rfl⟩:=List.mem_map.1 u
  rfl
 refine aP (r:=dA B fU f) 154 [.tmp 8] τok func199 ?_;refine aD<|aD<|de i0 hi ?_ (hi:=ei);refine vk ?_;refine aD<|az 0 (aF wt) ?_;refine az 1 (aF wt) ?_;refine bH 2 (kidsT t).length ?_ (S _);have a9:((((kidsT t).map row).map λt=>[ah t]).take (kidsT t).length).drop 2=(o.map row).map rP:=by
  rw[JG Uo,<- List.map_drop,<- List.map_drop,A]
  rfl
 rw[a9];refine vk ?_;refine aD ?_;have s1:=hT 1 Uo n hn;unfold bO at s1;cases e4:rc cx (kidD t 1) n with
 |error e=>
  rw[e4]at s1 c;obtain rfl:.error e=f:=c;refine bG s1 ?_;exact rfl
 |ok q=>
 obtain⟨y,m⟩:=q;have fy:=hr.ft _ _ _ _ hcx hcl k1 e4;have hm:=hr.le _ _ _ _ e4;simp only at fy hm;rw[e4,oH]at c;rw[e4]at s1;simp only at c;have hW:=wB hI hB hcx hcl fy m;refine ax s1 ?_;cases e5:dz B cx y m with
 |error e=>
  rw[e5]at hW c;obtain rfl:.error e=f:=c;refine bG hW ?_;exact rfl
 |ok q=>
 obtain⟨z,m2⟩:=q;obtain⟨a0,a',W⟩:=jb hB hcx fy e5;simp only at W a';have wh:=aC W.head;have l6:=au (λt=>[ah t]) ((argsT z).map row);have l7:=au row (argsT z);have c8:=oG (aC W) 4096 W.len;rw[e5,oH]at c;rw[e5]at hW;simp only at c;refine ax hW ?_;refine aD<|aI 0 (aL wh) ?_;have j:(headT z).n.op≠9 \/(headT z).n.a≠t.n.a \/(argsT z).length≠M+ni -> .error 14=f:=λh=>by
  rw[KX h]at c;exact c
 refine af (λg1=>?_) (λg1=>?_)
 ·have:=j (.inl g1)
  subst this;refine vk ?_;refine bK (fT UO) ?_;exact rfl
 refine aI 0 (aL wh) ?_;refine af (λg2=>?_) (λg2=>?_)
 ·have:=j (.inr (.inl g2))
  subst this;refine vk ?_;refine bK (fT UO) ?_;exact rfl
 refine vi ?_;refine af (λg3=>?_) (λg3=>?_)
 ·have g3:¬ ((((argsT z).map row).map λt=>[ah t]).length:Int)=((x.params.map λt=>[ah t]).length:Int)+((x.indices.map λt=>[ah t]).length:Int):=g3
  have:=j (.inr (.inr Uo));subst this;refine vk ?_;refine bK (fT UO) ?_;exact rfl
 have g3:¬ ¬ ((((argsT z).map row).map λt=>[ah t]).length:Int)=((x.params.map λt=>[ah t]).length:Int)+((x.indices.map λt=>[ah t]).length:Int):=g3;have c9:(headT z).n.op=9:=QY g1;have c':(headT z).n.a=t.n.a:=QY g2;rw[KY Uo]at c;refine vk ?_;refine aD<|af (λg4=>?_) (λg4=>?_)
 ·have g4:¬ (((o.map row).map rP).length:Int)=((x.ctors.map cd).length:Int):=g4
  rw[KX Uo]at c;subst c;refine bK (fT UO) ?_;exact rfl
 have g4:¬ ¬ (((o.map row).map rP).length:Int)=((x.ctors.map cd).length:Int):=g4;rw[KY Uo]at c;refine aD<|bH 0 M ?_ (S _) rfl (by show ((x.params.map λt=>[ah t]).length:Int)=_;omega);refine bH M (argsT z).length ?_ (S _) (by show ((x.params.map λt=>[ah t]).length:Int)=_;omega) (by show (argsT z).length=(((argsT z).map row).map λt=>[ah t]).length;omega);obtain⟨O,C⟩:∃l,(argsT z).take M=l:=⟨_,rfl⟩
 obtain⟨ix,D⟩:∃l,(argsT z).drop M=l:=⟨_,rfl⟩
 have T:O.length=M:=by rw[<- C,VJ];omega
 have U:∀y∈O,Ft (QB B) (cx.length:Int) y:=λy u=>W.args y (List.mem_of_mem_take (by rw[C];exact u));have hiF:∀y∈ix,Ft (QB B) (cx.length:Int) y:=λy u=>W.args y (List.mem_of_mem_drop (by rw[D];exact u));have d':ix.length<=100:=by rw[<- D,VK];omega
 have b0:((((argsT z).map row).map λt=>[ah t]).take M).drop 0=(O.map row).map rP:=by
  rw[List.drop_zero,<- List.map_take,<- List.map_take,C]
  rfl
 have b1:((((argsT z).map row).map λt=>[ah t]).take (argsT z).length).drop M=(ix.map row).map rP:=by
  rw[JG Uo,<- List.map_drop,<- List.map_drop,D]
  rfl
 rw[b0,b1];rw[C,D]at c;refine vk ?_;refine aD ?_;have s0:=hT 0 Uo m2 Uo;unfold bO at s0;cases e6:rc cx (kidD t 0) m2 with
 |error e=>
  rw[e6]at s0 c;obtain rfl:.error e=f:=c;refine bG s0 ?_;refine gq ?_;refine vk ?_;exact rfl
 |ok q=>
 obtain⟨mt,m3⟩:=q;have fm:=hr.ft _ _ _ _ hcx hcl k0 e6;have b2:=hr.le _ _ _ _ e6;simp only at fm b2;rw[e6,oH]at c;rw[e6]at s0;simp only at c;refine ax s0 ?_;have hM:=Og hI hB hcx a0 (n:=m3) Z U (by rw[T,e1,v]) fm;cases e7:qC B cx t.n.a O mt m3 with
 |error e=>
  rw[e7]at hM c;obtain rfl:.error e=f:=c;refine bG hM ?_;refine gq ?_;refine vk ?_;exact rfl
 |ok q=>
 obtain⟨b9,m4⟩:=q;have e0:m4<=m3:=Aq _ _ _ _ _ e7;rw[e7,oH]at c;rw[e7]at hM;simp only at c;refine ax hM ?_;refine vk ?_;refine eo τok (σ:=Nat) [(0,_),(1,_),(6,_),(10,_),(11,_),(12,_),(15,_),(16,_)] [(6,_)] (λ_=>[]) (λm=>[(0,.st 1 259 ((fC B m).map .p))])
  (λm=>m<=n/\aJ (lZ B rc cx t.n.a O (kidD t 0) 0 o m) (λ_ n=>di (aO (kidD t 0) (ix++[kidD t 1])) n)=f) ?_ ?_
 ·refine aI 0 (x:=s.n) (by rw[K.sort];exact aL (aC K.fs)) ?_
  refine af (λX=>?_) (λX=>?_);rotate_left
  ·have X:¬ s.n.a=0:=X
   rw[KY Uo,oH]at c;simp only at c;rw[KY UO]at c;exact aw m4 ⟨Uo,c⟩
  have X:s.n.a=0:=X;refine af (λg8=>?_) (λg8=>?_);rotate_left
  ·rw[KY Uo,oH]at c
   simp only at c;rw[KY UO]at c;exact aw m4 ⟨Uo,c⟩
  rw[KX ⟨X,g8⟩]at c;have E:=Of hI hB hr a3 (n:=m4) Uo Z hg;cases e8:ke B rc t.n.a m4 with
  |error e=>
   rw[e8]at E c;obtain rfl:.error e=f:=c;refine bG E ?_;exact rfl
  |ok q=>
   obtain⟨b,m5⟩:=q;have V:=Ar hB hr e8;simp only at V;rw[e8,oH]at c;rw[e8]at E;simp only at c;refine ax E ?_;cases b with
   |true=>
    rw[KY UO]at c;exact aw m5 ⟨Uo,c⟩
   |false=>
    rw[KX rfl]at c;subst c;refine bK (fT UO) ?_;exact rfl
 clear c
 rintro m5 ⟨V,d⟩;refine aj<|aB τok (σ:=Nat×Nat) [(0,_),(1,_),(6,_),(10,_),(11,_),(15,_),(16,_),(119,_),(120,_)] [(6,_)] (λq=>[(121,vI q.1)]) (λq=>[(0,.st 1 259 ((fC B q.2).map .p))])
  (λq=>q.1<=o.length/\q.2<=n/\aJ (lZ B rc cx t.n.a O (kidD t 0) q.1 (o.drop q.1) q.2) (λ_ n=>di (aO (kidD t 0) (ix++[kidD t 1])) n)=f) (λq=>o.length-q.1) (0,m5) ⟨KV _,V,d⟩ ?_
 clear d
 rintro⟨k,m6⟩ ⟨hk,b3,d⟩;simp only at hk b3 d;refine aj<|af (λg9=>?_) (λg9=>?_)
 ·have g9:(k:Int)<(((o.map row).map rP).length:Int):=g9
  obtain⟨b,hb,b4⟩:=ay (l:=o) (k:=k);have a1:(kidsT t)[2+k]?=some b:=by rw[<- A,List.getElem?_drop]at hb;exact hb
  have b5:kidD t (2+k)=b:=by
   have:=(cq wt (k:=2+k)).1;rw[a1]at this;exact(JB this).symm
  rw[b4]at d;simp only[lZ]at d;have fb:=kf _ (JQ a1);have F:=N5 hB (N:=(cx.length:Int)) Uo Uo Z (b:=(k:Int)) Uo (by rw[R];omega) U (by rw[T,e1,v]) k0;refine az k (x:=row b) (by rw[JX,hb];rfl) ?_;cases P:jt B t.n.a (k:Int) O (kidD t 0)with
  |error e=>
   have he:=Am P;rw[P]at F d;obtain rfl:.error e=f:=d;refine ae F ?_;refine bK (jN _ (show e≠0 by omega)) ?_;refine gq ?_;refine vk ?_;exact rfl
  |ok ty=>
   have b6:=Fv hB Uo Uo Z Uo (by rw[R];omega) U (by rw[T,e1,v]) k0 P;rw[P]at F d;have d:aJ (aJ (fP B rc cx b ty m6) λ_ n=>lZ B rc cx t.n.a O (kidD t 0) (k+1) (o.drop (k+1)) n) (λ_ n=>di (aO (kidD t 0) (ix++[kidD t 1])) n)=f:=d;refine ae F ?_;refine ae (fO _) ?_;have a2:=hT (2+k) Uo m6 Uo;rw[b5]at a2;have hC:=wC hI hB hcx hcl hr fb b6 a2;cases H:fP B rc cx b ty m6 with
   |error e=>
    rw[H]at hC d;obtain rfl:.error e=f:=d;refine bG hC ?_;refine vk ?_;exact rfl
   |ok q=>
    obtain⟨_,m7⟩:=q;have b7:=(mb hr H).2;simp only at b7;rw[H,oH]at d;rw[H]at hC;refine ax hC ?_;refine vk ?_;refine vi ?_;exact aw (k+1,m7) ⟨Us,Us,d⟩
 have g9:¬ (k:Int)<(((o.map row).map rP).length:Int):=g9;rw[List.drop_of_length_le Uo]at d;have d:di (aO (kidD t 0) (ix++[kidD t 1])) m6=f:=d;refine gm (E9 (ys:=ix) (λy u=>⟨(hiF y u).ok,(hiF y u).len⟩) Uo) ?_;refine bi ?_ (hb:=Uk);have I:=td hB (L:=(ix.map row).map rP++[rP (row (kidD t 1))]) k0 (ys:=ix++[kidD t 1]) (λy u=>by
  rcases List.mem_append.1 u with u|u
  ·exact hiF y u
  ·obtain rfl:y=kidD t 1:=by simpa using u
   exact k1) (by rw[JK];simp;omega) (by rw[KB,KB];rfl)
 cases P:aO (kidD t 0) (ix++[kidD t 1])with
 |error e=>
  have he:=iX P;rw[P]at I d;obtain rfl:.error e=f:=d;refine ae I ?_;refine bK (jN _ (show e≠0 by omega)) ?_;exact rfl
 |ok w=>
  rw[P]at I d;obtain rfl:.ok (w,m6)=f:=d;refine ae I ?_;refine ae (fO _) ?_;exact eP9
end
section
variable{B:ak}{cx:Ctx}{t:Tr}{n:Nat}{rc:RcJ}
variable(hI:BoI B)(hB:GoodB B)(hcx:CxOk B cx)(hcl:cx.length<=260)(ht:Ft (QB B) (cx.length:Int) t)
variable(hr:cG B rc)
include hI hB hcx hcl ht hr
theorem Oi(L:t.n.op=7)(P:n<=100000)(l:∀n,n<=100000 ->bO B cx (kidD t 0) n (rc cx (kidD t 0) n))(m:∀n,n<=100000 ->bO B cx (kidD t 1) n (rc cx (kidD t 1) n))(q:cx.length<=256 ->∀n,n<=100000 ->bO B (cx++[(kidD t 0,some (kidD t 1))]) (kidD t 2) n (rc (cx++[(kidD t 0,some (kidD t 1))]) (kidD t 2) n)):bO B cx t n (ox B rc cx t n):=by
 obtain⟨b,a⟩:∃r,ox B rc cx t n=r:=⟨_,rfl⟩
 unfold bO;rw[a];have wt:=aC ht;have R:=au aA cx;refine aP (r:=dA B fU b) 258 [.tmp 6] τok func142 ?_;refine aj<|aI 0 (aL wt) ?_;refine vN t.n.op 1 ?_;refine vN t.n.op 2 ?_;refine vN t.n.op 8 ?_;refine vN t.n.op 9 ?_;refine vN t.n.op 10 ?_;refine ae (iY ht) ?_;refine vN t.n.op 4 ?_;refine vN t.n.op 5 ?_;refine vN t.n.op 6 ?_;refine vY t.n.op 7 ?_ L;obtain⟨W,c,s,S⟩:=kU ht L;unfold ox at a;have h:=pv hI hB hcx hcl hr c (l n P);refine az 0 (aF wt) ?_;cases i:dP B rc cx (kidD t 0) n with
 |error e=>
  rw[i]at h a;obtain rfl:.error e=b:=a;refine bG h ?_;exact rfl
 |ok p=>
 obtain⟨⟨T,X⟩,w⟩:=p;obtain⟨c1,A,_⟩:=fQ hB hr i;obtain⟨_,U,V⟩:=kX hB hr hcx c i;simp only at A U V;rw[i]at h a;refine ax h ?_;have j:=wC hI hB hcx hcl hr s c (m w Uo);have a:aJ (fP B rc cx (kidD t 1) (kidD t 0) w) (λ_ n=>
  aJ (rc (cx++[(kidD t 0,some (kidD t 1))]) (kidD t 2) n) λz n=>di (bq z (kidD t 1) 0) n)=b:=a
 refine az 1 (aF wt) ?_;refine az 0 (aF wt) ?_;cases C:fP B rc cx (kidD t 1) (kidD t 0) w with
 |error e=>
  rw[C]at a j;obtain rfl:.error e=b:=a;refine bG j ?_;refine vk ?_;exact rfl
 |ok p=>
 obtain⟨_,D⟩:=p;have E:=(mb hr C).2;simp only at E;rw[C]at a j;have M:∀x,some (kidD t 1)=some x ->Ft (QB B) (cx.length:Int) x:=λx F=>by injection F with F;rw[<- F];exact s
 have d:=hcx.snoc c (v:=some (kidD t 1)) M;have H:Ft (QB B) ((cx++[(kidD t 0,some (kidD t 1))]).length:Int) (kidD t 2):=by rw[bB];exact S.mono Uo
 have f:=q Uo D Uo;unfold bO at f;have a:aJ (rc (cx++[(kidD t 0,some (kidD t 1))]) (kidD t 2) D) (λz n=>di (bq z (kidD t 1) 0) n)=b:=a;refine ax j ?_;refine vk ?_;refine az 0 (aF wt) ?_;refine az 1 (aF wt) ?_;refine ae (pu hcx Uo c (o:=some (kidD t 1)) M) ?_;refine az 2 (aF wt) ?_;cases I:rc (cx++[(kidD t 0,some (kidD t 1))]) (kidD t 2) D with
 |error e=>
  rw[I]at f a;obtain rfl:.error e=b:=a;refine bG f ?_;refine r7 [false,false,false,true,true,true,true,true] ?_;refine az 1 (aF wt) ?_;refine vk ?_;exact rfl
 |ok p=>
 obtain⟨y,O⟩:=p;have K:=hr.ft _ _ _ _ d (by rw[bB];omega) H I;simp only at K;rw[bB]at K;rw[I]at f a;have a:di (bq y (kidD t 1) 0) O=b:=a;refine ax f ?_;refine az 1 (aF wt) ?_;have k:=ph (x:=y) (u:=kidD t 1) (v:=0) (N:=(cx.length:Int)) (K.mono Uo) s Uo Uo;cases q1:bq y (kidD t 1) 0 with
 |error e=>
  have Y:=jp q1;rw[q1]at k a;obtain rfl:.error e=b:=a;refine ae k ?_;refine bK (jN _ (show e≠0 by omega)) ?_;refine gq ?_;refine vk ?_;exact rfl
 |ok z=>
  rw[q1]at k a;obtain rfl:.ok (z,O)=b:=a;refine ae k ?_;refine ae (fO _) ?_;exact kP9
end
section
variable{B:ak}{cx:Ctx}{t:Tr}{n g:Nat}{rc:RcJ}
variable(hI:BoI B)(hB:GoodB B)(hcx:CxOk B cx)(hcl:cx.length<=260)(ht:Ft (QB B) (cx.length:Int) t)
variable(hr:cG B rc)
include hI hB hr hcx hcl ht
theorem Oj(b:t.n.op=11)(h:n<=100000)(d:qM B rc g)(j:t.n.a.toNat*5000+4096<=g)(k:∀i,i<(kidsT t).length ->∀n,n<=100000 ->bO B cx (kidD t i) n (rc cx (kidD t i) n)):bO B cx t n (kg B rc cx t.n (kidsT t) n):=by
 have f:=Oh hI hB hr hcx hcl ht b h d j k;obtain⟨c,a⟩:∃r,kg B rc cx t.n (kidsT t) n=r:=⟨_,rfl⟩
 unfold bO;rw[a];have wt:=aC ht;refine aP (r:=dA B fU c) 258 [.tmp 6] τok func142 ?_;refine aj<|aI 0 (aL wt) ?_;rw[a]at f;refine vN t.n.op 1 ?_;refine vN t.n.op 2 ?_;refine vN t.n.op 8 ?_;refine vN t.n.op 9 ?_;refine vN t.n.op 10 ?_;refine ae (iY ht) ?_;refine vN t.n.op 4 ?_;refine vN t.n.op 5 ?_;refine vN t.n.op 6 ?_;refine vN t.n.op 7 ?_;refine vY t.n.op 11 ?_ b;cases c with
 |error e=>
  refine bG f ?_;exact rfl
 |ok q=>
  refine ax f ?_;exact eP9
theorem Ol(c:t.n.op=12)(j:n<=100000)(d:∀i,i<t.n.b.toNat ->∀n,n<=100000 ->bO B cx (kidD t (2*i)) n (rc cx (kidD t (2*i)) n))(f:cx.length<=256 ->∀i,i<t.n.b.toNat ->∀n,n<=100000 ->bO B (cx++aQ t) (kidD t (2*i+1)) n (rc (cx++aQ t) (kidD t (2*i+1)) n)):bO B cx t n (ma B rc cx t n):=by
 have h:=Bb hI hB hr hcx hcl ht c j d f;obtain⟨b,a⟩:∃r,ma B rc cx t n=r:=⟨_,rfl⟩
 unfold bO;rw[a];have wt:=aC ht;refine aP (r:=dA B fU b) 258 [.tmp 6] τok func142 ?_;refine aj<|aI 0 (aL wt) ?_;rw[a]at h;refine vN t.n.op 1 ?_;refine vN t.n.op 2 ?_;refine vN t.n.op 8 ?_;refine vN t.n.op 9 ?_;refine vN t.n.op 10 ?_;refine ae (iY ht) ?_;refine vN t.n.op 4 ?_;refine vN t.n.op 5 ?_;refine vN t.n.op 6 ?_;refine vN t.n.op 7 ?_;refine vN t.n.op 11 ?_;cases b with
 |error e=>
  refine bG h ?_;exact rfl
 |ok q=>
  refine ax h ?_;exact eP9
end
section
variable{B:ak}{g:Nat}{rc:RcJ}
variable(hI:BoI B)(hB:GoodB B)
include hI hB
theorem Om(hr:cG B rc)(c:qM B rc g):qM B (jv B rc) (g+1):=λcx k t n hcx hcl ht o A b=>by
 have wt:=aC ht;have a:∀i,i<(kidsT t).length ->Mt k (kidD t i)/\k*5000+(row (kidD t i)).length<=g:=λi e=>by
  have:=o.kid (JQ (cq wt e).1);exact⟨this.1,Uo⟩
 unfold jv;refine FI t ht.ok (λh=>?_) (λh=>?_) (λh=>?_) (λh=>?_) (λh=>?_) (λh=>?_) (λh=>?_) (λh=>?_) (λh=>?_) (λh=>?_) (λh=>?_)
 ·rw[KX h]
  exact N7 hI hB hcx hcl ht h
 ·rw[KY Uo,KX h]
  exact N8 hI hB hcx hcl ht h
 ·rw[KY Uo,KY Uo,KX h]
  exact N9 hI hB hcx hcl ht h
 ·rw[KY Uo,KY Uo,KY Uo,KX h]
  exact Oa hI hB hcx hcl ht h
 ·rw[KY Uo,KY Uo,KY Uo,KY Uo,KX h]
  exact Ob hI hB hcx hcl ht h
 ·rw[KY Uo,KY Uo,KY Uo,KY Uo,KY Uo,KX h]
  obtain⟨l,d,f⟩:=dq ht (.inl h);exact Oc hI hB hcx hcl ht hr h b (λn b=>c _ k _ _ hcx hcl d (a 0 Uo).1 (a 0 Uo).2 b) λm n b=>c _ k _ _ (hcx.snoc d λx j=>by cases j) (by rw[bB];omega) (by rw[bB];exact f.mono Uo) (a 1 Uo).1 (a 1 Uo).2 b
 ·rw[KY Uo,KY Uo,KY Uo,KY Uo,KY Uo,KY Uo,KX h]
  obtain⟨l,d,f⟩:=dq ht (.inr h);exact Od hI hB hcx hcl ht hr h b (λn b=>c _ k _ _ hcx hcl d (a 0 Uo).1 (a 0 Uo).2 b) λm n b=>c _ k _ _ (hcx.snoc d λx j=>by cases j) (by rw[bB];omega) (by rw[bB];exact f.mono Uo) (a 1 Uo).1 (a 1 Uo).2 b
 ·rw[KY Uo,KY Uo,KY Uo,KY Uo,KY Uo,KY Uo,KY Uo,KX h]
  obtain⟨l,d,f⟩:=nc ht h;exact Oe hI hB hcx hcl ht hr h b (λn b=>c _ k _ _ hcx hcl d (a 0 Uo).1 (a 0 Uo).2 b) λn b=>c _ k _ _ hcx hcl f (a 1 Uo).1 (a 1 Uo).2 b
 ·rw[KY Uo,KY Uo,KY Uo,KY Uo,KY Uo,KY Uo,KY Uo,KY Uo,KX h]
  obtain⟨l,d,f,q⟩:=kU ht h;exact Oi hI hB hcx hcl ht hr h b (λn b=>c _ k _ _ hcx hcl d (a 0 Uo).1 (a 0 Uo).2 b) (λn b=>c _ k _ _ hcx hcl f (a 1 Uo).1 (a 1 Uo).2 b) λm n b=>c _ k _ _ (hcx.snoc d λx j=>by injection j with j;rw[<- j];exact f) (by rw[bB];omega) (by rw[bB];exact q.mono Uo) (a 2 Uo).1 (a 2 Uo).2 b
 ·rw[KY Uo,KY Uo,KY Uo,KY Uo,KY Uo,KY Uo,KY Uo,KY Uo,KY Uo,KX h]
  obtain⟨r,s,u,v⟩:=mc ht h;have w:=(kW hB (iS ht.node' (.inr h))).1;have y:t.n.a<(k:Int):=o t.n (JQ (aL wt)) h;have:=aZ t;exact Oj hI hB hcx hcl ht hr h b c Uo λi e n b=>c _ k _ _ hcx hcl (v _ (JQ (cq wt e).1)) (a i e).1 (a i e).2 b
 ·rw[KY Uo,KY Uo,KY Uo,KY Uo,KY Uo,KY Uo,KY Uo,KY Uo,KY Uo,KY Uo]
  obtain⟨r,s,u,_⟩:=dp ht.ok h;have z:=fA ht.ok h;have p:(cx++aQ t).length=cx.length+t.n.b.toNat:=by rw[JK,oq]
  exact Ol hI hB hcx hcl ht hr h b (λi e n b=>c _ k _ _ hcx hcl (gM ht h e).2.2.1 (a _ Uo).1 (a _ Uo).2 b) λm i e n b=>c _ k _ _ (ng hcx Uo ht h) Uo ((gM ht h e).2.2.2.mono Uo) (a _ Uo).1 (a _ Uo).2 b
theorem jgG:∀g,qM B (gb B g) g
 |0=>λcx k t n _ _ _ _ h _=>by
  have:=aZ t;omega
 |g+1=>Om hI hB (eN hB g) (jgG g)
end
def Bc{β:Type}(r:Except Int β)(ok:β ->Prop)(er:Int ->Prop):Prop:=match r with
 | .ok q=>ok q
 | .error e=>er e
end Go.Q
