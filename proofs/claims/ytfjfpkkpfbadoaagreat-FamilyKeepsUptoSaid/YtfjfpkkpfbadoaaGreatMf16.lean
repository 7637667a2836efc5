import Derived.Test.YtfjfpkkpfbadoaaGreatMf15
import Derived.Carry
set_option linter.all false
set_option maxRecDepth 100000
set_option maxHeartbeats 4000000
open Go.Proofs Go.Proofs.YtfjfpkkpfbadoaaGreat Go.Proofs.Tryz Cd Go.Wx Lv Tm
namespace Go.Q
theorem Qb(e:Int)(N:Nat)(t:N<=1000000):∀x:Tr,Wf x ->(row x).length<=N ->VC prog 25 [bB x,pI e] (.bool (bL (row x) e)):=by
 induction N with
 |zero=>
  intro x _ h;have:=aR x;omega
 |succ N o=>
  intro x j u;have p:=gO j.ok;have v:=aq trP (kidsT x);generalize a:bL (row x) e=c;rw[G5 j.ok e]at a;refine cN 31 [.tmp 4] τok func25 ?_;refine aD<|dd τok (σ:=Unit) [(1,_),(2,_)] [(2,_)] (λ_=>[]) (λ_=>[]) (λ_=>((kidsT x).any λy=>bL (row y) e)=c) ?_ ?_
  ·refine ae (λd=>?_) (λd=>?_)
   ·refine ae (λf=>?_) (λf=>?_)
    ·have d:x.n.op=9:=d
     have f:x.n.a=e:=f;rw[KU ⟨d,f⟩]at a;have a:true=c:=a;subst a;exact aF
    ·have f:¬ x.n.a=e:=f
     rw[KH λq=>f q.2]at a;exact au () a
   ·have d:¬ x.n.op=9:=d
    rw[KH λq=>d q.1]at a;exact au () a
  intro _ b;refine aj<|aB τok (σ:=Nat) [(1,_),(2,_)] [(2,_)] (λi=>[(5,vI i)]) (λ_=>[]) (λi=>i<=(kidsT x).length/\(((kidsT x).drop i).any λy=>bL (row y) e)=c) (λi=>(kidsT x).length-i) 0 ⟨KV _,b⟩ ?_
  clear b
  rintro i ⟨z,b⟩;refine aj<|ae (λg=>?_) (λg=>?_)
  ·have g:(i:Int)<(((kidsT x).map trP).length:Int):=g
   obtain⟨y,m,r⟩:=az (l:=kidsT x) (k:=i);have s:=ij j.ok m;rw[r,List.any_cons]at b;refine vt i m ?_;refine af (o Uo y (j.kid m) Uo) ?_;cases n:bL (row y) e with
   |true=>
    rw[n]at b;have b:true=c:=b;subst b;exact aF
   |false=>
    rw[n,Bool.false_or]at b;refine vi ?_;exact au (i+1) ⟨Uo,b⟩
  ·have g:¬ (i:Int)<(((kidsT x).map trP).length:Int):=g
   rw[JY Uo]at b;have b:false=c:=b;subst b;exact aF
theorem tQ(e:Int){x:Tr}(a:Wf x):VC prog 25 [bB x,pI e] (.bool (bL (row x) e)):=Qb e 4096 Uo x a a.len
theorem Qc(e:Int){np ni:Nat}(hnp:np<=16/\ni<=16)(N:Nat)(X:N<=1000000):∀(x:Tr) (first:Int),Wf x ->(row x).length<=N -> -1<=first ->first+N<=10000000 ->VC prog 23 [bB x,pI e,pI np,pI ni,pI first] (.bool (nj np ni e N x first)):=by
 induction N with
 |zero=>
  intro x _ _ h;have:=aR x;omega
 |succ N L=>
  intro x first z Y M O;generalize b:nj np ni e (N+1) x first=i;simp only[nj]at b;refine vf 94 [.tmp 10] τok func23 ?_;refine af (tQ e z) ?_;cases E:bL (row x) e with
  |false=>
   rw[KX E]at b;subst b;exact aF
  |true=>
  rw[KY (by rw[E];decide)]at b;refine ae (λl=>?_) (λl=>?_)
  ·have l:x.n.op=4:=l
   rw[KX l]at b;obtain⟨m,P,R,Z,l1⟩:=gm z (.inl l);refine vt 0 (y:=kidD x 0) (by rw[m];rfl) ?_;refine af (tQ e P) ?_;cases F:bL (row (kidD x 0)) e with
   |true=>
    rw[F]at b;have b:false=i:=b;subst b;exact aF
   |false=>
    rw[F]at b;have b:nj np ni e N (kidD x 1) (first+1)=i:=b;refine vt 1 (y:=kidD x 1) (by rw[m];rfl) ?_;refine vi ?_;have I:=L Uo (kidD x 1) (first+1) R Uo Uo Uo;rw[b]at I;refine af I ?_;exact aF
  ·have l:¬ x.n.op=4:=l
   rw[KY l]at b;refine vi ?_;refine vi ?_;refine aB τok (σ:=Tr×Nat×Int) [(1,_),(2,_),(3,_),(4,_)] [] (λq=>[(5,.c (.ptr 5 0)),(11,vI q.2.2)]) (λq=>[(5,.st 0 60 ((ec q.1).map .p))]) (λq=>Wf q.1/\q.2.1<=32/\q.2.2=(q.2.1:Int)-1/\mf np e first q.2.1 q.1=i) (λq=>q.2.1) (x,np+ni,(np:Int)+ni-1) ⟨z,Us,Us,b⟩ ?_
   clear b
   rintro⟨y,k,v⟩ ⟨K,S,T,d⟩;simp only at K S T d;refine aj<|ae (λg=>?_) (λg=>?_)
   ·have g:v≥0:=g
    obtain⟨k,rfl⟩:∃j,k=j+1:=⟨k-1,Uo⟩
    obtain rfl:v=(k:Int):=Uo
    simp only[mf]at d;refine ae (λn=>?_) (λn=>?_)
    ·have n:y.n.op≠6:=n
     rw[KX n]at d;subst d;exact aF
    have n:¬ y.n.op≠6:=n;rw[KY n]at d;obtain⟨f,a,m,wf,U,_⟩:=j6 K (Decidable.not_not.1 n);have V:kidD y 0=f:=by unfold kidD;rw[m];rfl
    have W:kidD y 1=a:=by unfold kidD;rw[m];rfl
    rw[V,W]at d;have A:bL (row a) e=true \/(k<np/\(a.n.op≠1 \/a.n.a≠first-(k:Int))) ->false=i:=λh=>by rw[KX h]at d;exact d
    refine vt 1 (y:=a) (by rw[m];rfl) ?_;refine af (tQ e U) ?_;cases s:bL (row a) e with
    |true=>
     have:=A (.inl s);subst this;exact aF
    |false=>
    have t:¬ (k<np/\(a.n.op≠1 \/a.n.a≠first-(k:Int))) ->mf np e first k f=i:=λh=>by
     rw[KY (by rintro(q|q);rw[s]at q;cases q;exact h q)]at d;exact d
    refine ae (λu=>?_) (λu=>?_)
    ·have u:(k:Int)<np:=u
     refine ae (λC=>?_) (λC=>?_)
     ·have:=A (.inr ⟨Uo,.inl C⟩)
      subst this;exact aF
     refine vi ?_;refine ae (λD=>?_) (λD=>?_)
     ·have:=A (.inr ⟨Uo,.inr D⟩)
      subst this;exact aF
     have d:=t (λq=>q.2.elim C D);refine vt 0 (y:=f) (by rw[m];rfl) ?_;refine vi ?_;exact au (f,k,(k:Int)-1) ⟨wf,Us,rfl,d⟩ (hm:=Nat.lt_succ_self k)
    ·have u:¬ (k:Int)<np:=u
     have d:=t (λq=>Uo);refine vt 0 (y:=f) (by rw[m];rfl) ?_;refine vi ?_;exact au (f,k,(k:Int)-1) ⟨wf,Us,rfl,d⟩ (hm:=Nat.lt_succ_self k)
   ·have g:¬ v≥0:=g
    obtain rfl:k=0:=Uo
    simp only[mf]at d;refine ae (λo=>?_) (λo=>?_)
    ·have o:y.n.op=9:=o
     refine ae (λr=>?_) (λr=>?_)
     ·have r:y.n.a=e:=r
      rw[KU ⟨o,r⟩]at d;subst d;exact aF
     ·have r:¬ y.n.a=e:=r
      rw[KH λq=>r q.2]at d;subst d;exact aF
    ·have o:¬ y.n.op=9:=o
     rw[KH λq=>o q.1]at d;subst d;exact aF
theorem H3{e:Int}{np ni:Nat}(hnp:np<=16/\ni<=16){x:Tr}(a:Wf x){ar:Int}(b:0<=ar)(h1:ar<=1000000):VC prog 23 [bB x,pI e,pI np,pI ni,pI (ar-1)] (.bool (fV np ni e x ar)):=by
 rw[<- Om np ni e a ar 4096 a.len];exact Qc e hnp 4096 Uo x (ar-1) a a.len Uo Uo
theorem xc{x:Tr}(a:Wf x):VC prog 24 [ah (row x)] (bB x):=by
 refine vf 11 [.cell 2 60] τok func24 ?_;refine af (iO a) ?_;exact aF
theorem H4(B:ak)(e:Int):jk B e=if cP B≠0 then cP B else if bF B B.ents.length e=true then 0 else 1:=by
 unfold jk bF;split
 ·rfl
 by_cases h:0<=e/\e<B.ents.length/\(ax B e).kind=1
 ·rw[KY Uo,KY Uo,KY (by simp[h.2.2]),KX (by simp[h.1,h.2.1,h.2.2])]
 ·rw[KY (c:=(decide (0<=e) && (decide (e<B.ents.length) && decide ((ax B e).kind=1)))=true) (by
   simp only[Bool.and_eq_true,decide_eq_true_eq];exact h)]
  split
  ·rfl
  split
  ·rfl
  rw[KX Uo]
theorem Qd{B:ak}(hS:dh B)(e:Int):VC prog 8 [bk B,pI e] (.tup [.bool (ka B e).1,pI (ka B e).2]):=by
 have N:=aq bI B.ents;have I:VC prog 22 [bk B,pI e,pI ((B.ents.map bI).length:Nat)] (.bool (bF B B.ents.length e)):=by
  rw[N];exact pi (B:=B) (known:=B.ents.length) (KJ _) e
 generalize a:ka B e=m;unfold ka at a;have d:=H4 B e;refine vf 94 [.tmp 4,.tmp 5] τok func8 ?_;refine af (s8 hS) ?_;refine ae (λo=>?_) (λo=>?_)
 ·have o:cP B≠0:=o
  rw[KX o]at d;rw[d,KX o]at a;subst a;exact aF
 have o:¬ cP B≠0:=o;rw[KY o]at d;refine af I ?_;cases f:bF B B.ents.length e with
 |false=>
  rw[f,KY UO]at d;rw[d,KX UO]at a;subst a;exact aF
 |true=>
 rw[f,KX rfl]at d;rw[KY (by simpa using d)]at a;obtain⟨hR,hB,O,P,hx,s,ps,qi,v⟩:=wF d;have R:=v.lc;have S:=v.lp;have T:=v.li;have lp:=KG List.length v.params;have U:=KG List.length v.indices;rw[KF]at lp U;have eC:=aq bA (ax B e).ctors;have V:=aq rP (ax B e).params;have W:=aq (λt:List Nd=>[ah t]) (ax B e).params;have X:=aq rP (ax B e).indices;refine cS e.toNat (iQ O P) ?_;unfold AZ at a;refine aB τok (σ:=Nat) [(1,_),(2,_),(7,_),(8,_)] [(2,_),(7,_)] (λk=>[(9,vI k)]) (λ_=>[]) (λk=>k<=(ax B e).ctors.length/\(oy (ax B e).params.length (ax B e).indices.length e ((ax B e).ctors.drop k),(0:Int))=m) (λk=>(ax B e).ctors.length-k) 0 ⟨KV _,a⟩ ?_
 clear a
 rintro k ⟨hk,b⟩;refine aj<|ae (λc=>?_) (λc=>?_);rotate_left
 ·have c:¬ (k:Int)<(((ax B e).ctors.map bA).length:Int):=c
  rw[JY Uo]at b;subst b;exact aF
 have c:(k:Int)<(((ax B e).ctors.map bA).length:Int):=c;obtain⟨n,g,Y⟩:=az (l:=(ax B e).ctors) (k:=k);rw[Y]at b;simp only[oy]at b;obtain⟨z,F,h⟩:=v.ct k n g;have K:n.args.map tr=z:=qF h.args λy p=>by
  obtain⟨j,L⟩:=JH p;exact(h.fa j y L).ok
 have Z:=KG List.length h.args;have lo:=KG List.length h.out;have a0:=h.la;have a1:=h.lo;rw[KF]at Z lo;have eA:=aq rP n.args;have eO:=aq rP n.out;unfold AY at b;obtain⟨M,q⟩:∃r,ox (ax B e).params.length (ax B e).indices.length e z 0=r:=⟨_,rfl⟩
 rw[K,q]at b;refine aB τok (σ:=Nat) [(1,_),(2,_),(7,_),(8,_),(9,_)] [(2,_),(7,_)] (λj=>[(10,vI j)]) (λ_=>[]) (λj=>j<=z.length/\ox (ax B e).params.length (ax B e).indices.length e (z.drop j) j=M) (λj=>z.length-j) 0 ⟨KV _,q⟩ ?_
 clear q
 rintro j ⟨L,f⟩;refine aj<|ee k g ?_;refine ae (λA=>?_) (λA=>?_)
 ·have A:(j:Int)<((n.args.map rP).length:Int):=A
  obtain⟨y,p,u⟩:=az (l:=z) (k:=j);rw[u]at f;simp only[ox]at f;have i:=h.fa j y p;refine ee k g ?_;refine aA j (x:=row y) (by rw[h.args,JX,p];rfl) ?_;refine af (xc (aC i)) ?_;refine vi ?_;refine vi ?_;have hw:=qL (H3 (e:=e) (np:=((ax B e).params.map rP).length) (ni:=((ax B e).indices.map rP).length) Uo (aC i) (ar:=(((ax B e).params.map rP).length:Int)+(j:Int)) Uo Uo) (r':=.bool (fV (ax B e).params.length (ax B e).indices.length e y (((ax B e).params.length+j:Nat):Int))) (by
   rw[V,X]
   congr 2)
  refine af hw ?_;refine vk ?_;cases C:fV (ax B e).params.length (ax B e).indices.length e y (((ax B e).params.length+j:Nat):Int)with
  |false=>
   rw[KX C]at f;subst f;rw[KX rfl]at b;subst b;exact aF
  |true=>
   rw[KY (by rw[C];decide)]at f;refine vi ?_;exact au (j+1) ⟨Uo,f⟩
 ·have A:¬ (j:Int)<((n.args.map rP).length:Int):=A
  rw[JY Uo]at f;have f:true=M:=f;subst f;simp only[Bool.true_eq_false,if_false]at b;refine aB τok (σ:=Nat) [(1,_),(2,_),(7,_),(8,_),(9,_)] [(2,_),(7,_)] (λj=>[(11,vI j)]) (λ_=>[]) (λj=>j<=F.length/\(if (!(((F.drop j).map row).any λt=>bL t e))=false then (false,(0:Int))else (oy (ax B e).params.length (ax B e).indices.length e ((ax B e).ctors.drop (k+1)),(0:Int)))=m) (λj=>F.length-j) 0 ⟨KV _,by
   rw[List.drop_zero,<- h.out]
   revert b
   cases (!(n.out.any λt=>bL t e))<;>exact id⟩ ?_
  clear b
  rintro j ⟨L,b⟩;refine aj<|ee k g ?_;refine ae (λD=>?_) (λD=>?_)
  ·have D:(j:Int)<((n.out.map rP).length:Int):=D
   obtain⟨y,p,u⟩:=az (l:=F) (k:=j);rw[u,List.map_cons,List.any_cons]at b;have i:=h.fo y (JQ p);refine ee k g ?_;refine aA j (x:=row y) (by rw[h.out,JX,p];rfl) ?_;refine af (xc (aC i)) ?_;refine af (tQ e (aC i)) ?_;cases E:bL (row y) e with
   |true=>
    rw[E]at b;have b:(false,(0:Int))=m:=b;subst b;exact aF
   |false=>
    rw[E,Bool.false_or]at b;refine vi ?_;exact au (j+1) ⟨Uo,b⟩
  ·have D:¬ (j:Int)<((n.out.map rP).length:Int):=D
   rw[JY Uo]at b;have b:(oy (ax B e).params.length (ax B e).indices.length e ((ax B e).ctors.drop (k+1)),(0:Int))=m:=b;refine vi ?_;exact au (k+1) ⟨Uo,b⟩
end Go.Q
namespace Go.Wx
theorem Qe{P:Program}{n:Nat}{A:AS}{K:Exit ->AS ->Prop}{c:Code}(t:Nat)(h:VCode P n c (A.upd [(t,.c (.p (.sl [])))] []) K)(d:look A.e t=some (.c (.p (.raw (.slice none 0 0)))):=by rfl):VCode P n c A K:=by
 refine h.of λi X k s w ⟨C,ρ,hR⟩=>?_;obtain⟨v,e,a⟩:=hR.slot t _ d (λj f=>by cases f);have a:RV C (.raw (.slice none 0 0)) v:=a;cases a;refine⟨C,ρ,hR.slots (wr:=[(t,.c (.p (.sl [])))]) (λl b g _=>?_) λ_ _=>rfl⟩;obtain⟨rfl,rfl⟩:=bU g;exact⟨_,e,.nil _ _⟩
theorem BQ{P:Program}{n:Nat}{o:Oper}{A:AS}{k:Kk}{b:List PanicEntry ->List Nat ->Prop}{f:FuncId}{xs:List AV}{q d e:Option (List PV)}{j g T:Nat}{cs cs' a:List PV}{r:PV}(h:VP P f T cs cs' a r)(i:fin n o.dst (.c (.p r)) λwr=>k wr ((j,.st g T (cs'.map .p))::bM A (refsA xs)) [])(l:look A.m j=some (.st g T (cs.map .p)):=by rfl)(m:cM A xs=some a:=by rfl):gU P n o A k b f (.c (.ptr j 0)::xs) q d e:=
 match ay (q:=q) h i l m with
 |⟨x⟩=>⟨x⟩
end Go.Wx
namespace Go.Q
def nu{α:Type}(r:RS α):RS Unit:=aJ r λ_ n=>.ok ((),n)
def eN{α:Type}(r:RS α):Prop:=match r with
 | .ok q=>q.2<=100000
 | .error e=>e.1≠0
theorem H5{α:Type}(B:ak)(r:RS α):dG B (nu r)=dG B r:=by cases r<;>rfl
theorem BR{α:Type}{r:RS α}(h:eN r):eN (nu r):=by cases r<;>exact h
theorem Qf(r:RS Unit):(aJ r λ_ n=>.ok ((),n))=r:=by cases r<;>rfl
def stM(B:ak)(r:RS Unit):List (Nat×SE):=[(0,.st 1 97 ((dG B r).map .p))]
theorem ko(B:ak)(r:RS Unit):some (SE.st 1 97 ((dG B r).map .p))=some (.st 1 97 (((dG B r).map AC.p).map (AC.ren id))):=by rw[List.map_map];rfl
def NZ{α:Type}(r:Except Int (α×Nat)):Prop:=∀e,r= .error e ->e≠0
theorem nv{α β:Type}{m:Except Int (α×Nat)}{k:α ->Nat ->Except Int (β×Nat)}(h1:NZ m)(h2:∀a n,NZ (k a n)):NZ (aQ m k):=λe h=>(bdJ_er h).elim (h1 e) λ⟨p,_,h⟩=>h2 p.1 p.2 e h
theorem BS{α:Type}{c:Prop} [Decidable c]{b:Except Int (α×Nat)}{x:Int}(h:x≠0)(h2:NZ b):NZ (if c then .error x else b):=by
 split
 ·exact λe a=>by cases a;exact h
 ·exact h2
section
variable{B:ak}(hB:GoodB B){en:Int}
include hB
theorem pY':∀(l:List Tr) (cx:Ctx) (n:Nat),NZ (gn B l cx n)
 |[],_,_=>λe h=>by cases h
 |x::r,cx,n=>nv (λe=>ir (dj hB GJ)) λ_ n=>pY' r _ n
theorem rQ':∀(l:List Tr) (cx:Ctx) (n:Nat),NZ (jl B en l cx n)
 |[],_,_=>λe h=>by cases h
 |x::r,cx,n=>nv (λe=>ir (dj hB GJ)) λ_ n=>BS UO (BS UO (rQ' r _ n))
theorem H6{go:List Tr}{a:Nat}{cx:Ctx}:∀(l:List Tr) (j n:Nat),NZ (jm B en go a cx l j n)
 |[],_,_=>λe h=>by cases h
 |x::r,j,n=>BS UO (nv (λe h=>by
   cases hm:iS (fq B en) go a j with
   |ok z=>rw[hm]at h;cases h
   |error x=>
    rw[hm]at h;cases h;exact HO hm) λ_ n=>nv (λe=>kT (dj hB GJ)) λ_ n=>H6 r _ n)
theorem H7{a:Ctx}:∀(l:List dy) (n:Nat),NZ (j8 B en a l n)
 |[],_=>λe h=>by cases h
 |x::r,n=>nv (rQ' hB _ _ n) λ_ n=>nv (H6 hB _ _ n) λ_ n=>H7 r n
theorem Qg(n:Nat):NZ (pk B en n):=nv (λe h=>(dj hB GJ).er _ _ _ _ h) λ_ n=>nv (pY' hB _ _ n) λ_ n=>nv (pY' hB _ _ n) λ_ n=>H7 hB _ n
end
section
variable{B:ak}(hS:dh B)(hR:cP B=0)(hB:GoodB B)
include hS hR hB
theorem BU{cx:Ctx}(a:CxOk B cx)(b:cx.length<=260){x:Tr}(c:Ft (QB B) (cx.length:Int) x){n:Nat}(d:n<=100000):dY B (inferS B GJ) cx x n:=
 typV hS hR hB GJ cx 64 x n a b c (wD hB c) (by have:=yj';have:=c.len;omega) d
theorem BV{r:RS Unit}(hr:eN r){cx:Ctx}(a:CxOk B cx)(b:cx.length<=260){x:Tr}(c:Ft (QB B) (cx.length:Int) x):VP prog 50 97 (dG B r) (dG B (nu (aJ r λ_ n=>sortS B (inferS B GJ) cx x n))) [aO (cx.map aE),ah (row x)] (Bt (aJ r λ_ n=>sortS B (inferS B GJ) cx x n)):=by
 rw[H5];cases r with
 |error e=>exact Bv e.2 hr _ _
 |ok q=>exact pr hS hB (bS' GJ) (dj hB GJ) a b c hr (BU hS hR hB a b c hr)
omit hS hR in
theorem BW{r:RS Unit}(hr:eN r)(cx:Ctx)(x:Tr):eN (aJ r λ_ n=>sortS B (inferS B GJ) cx x n):=by
 cases r with
 |error e=>exact hr
 |ok q=>
  have c:q.2<=100000:=hr;show eN (sortS B (inferS B GJ) cx x q.2);have a:=gp (B:=B) (bS' (B:=B) GJ) (cx:=cx) x q.2;cases b:sortS B (inferS B GJ) cx x q.2 with
  |error e=>exact ir (dj hB GJ) (eJ a b)
  |ok p=>
   have:=(fA hB (dj hB GJ) (fC a b)).2.1;show p.2<=100000;omega
omit hS hR in
theorem Qh{cx:Ctx}{x y:Tr}{n:Nat}(c:n<=100000):eN (checkS B (inferS B GJ) cx x y n):=by
 have a:=kg (B:=B) (bS' (B:=B) GJ) (cx:=cx) x y n;cases b:checkS B (inferS B GJ) cx x y n with
 |error e=>exact kT (dj hB GJ) (eJ a b)
 |ok p=>
  have:=(jC (dj hB GJ) (fC a b)).2;show p.2<=100000;omega
omit hS hR hB in
theorem H8{r:RS Unit}(cx:Ctx)(y:Tr)(l:List Tr){β:Type}(K:Ctx ->Nat ->RS β):(aJ r λ_ n=>aJ (kn B (y::l) cx n) K)=aJ (nu (aJ r λ_ n=>sortS B (inferS B GJ) cx y n)) λ_ n=>aJ (kn B l (cx++[(y,none)]) n) K:=by
 cases r with
 |error e=>rfl
 |ok q=>
  simp only[aJ,kn,nu];cases sortS B (inferS B GJ) cx y q.2<;>rfl
def px(B:ak)(en:Int)(q:RS (Int×List Atom)):RS Unit:=aJ q λl n=>if gb B.vars B.orders l.2 (bq (tr (ax B en).sort))=false then .error (21,n)else .ok ((),n)
def oJ(B:ak)(en:Int)(y:Tr)(ar:Int)(r:RS Unit):RS Unit:=aJ r λ_ n=>if fV (ax B en).params.length (ax B en).indices.length en y ar=false then .error (20,n)else .ok ((),n)
omit hS hR hB in
theorem Qi{en:Int}{q:RS (Int×List Atom)}(h:eN q):eN (px B en q):=by
 cases q with
 |error e=>exact h
 |ok q=>
  show eN (if _ then _ else _);split
  ·exact(by decide:(21:Int)≠0)
  ·exact h
omit hS hR hB in
theorem Qj{en:Int}{y:Tr}{ar:Int}{r:RS Unit}(h:eN r):eN (oJ B en y ar r):=by
 cases r with
 |error e=>exact h
 |ok q=>
  show eN (if _ then _ else _);split
  ·exact(by decide:(20:Int)≠0)
  ·exact h
omit hS hR hB in
theorem Ql(en:Int)(n:Nat)(cx:Ctx)(y:Tr)(l:List Tr){β:Type}(K:Ctx ->Nat ->RS β):aJ (nt B en (y::l) cx n) K=aJ (oJ B en y (cx.length:Int) (px B en (sortS B (inferS B GJ) cx y n))) λ_ n=>aJ (nt B en l (cx++[(y,none)]) n) K:=by
 simp only[nt,px,oJ];cases sortS B (inferS B GJ) cx y n with
 |error e=>rfl
 |ok q=>
  cases a:gb B.vars B.orders q.1.2 (bq (tr (ax B en).sort))with
  |false=>simp[aJ,a]
  |true=>cases b:fV (ax B en).params.length (ax B en).indices.length en y (cx.length:Int)<;>simp[aJ,a,b]
omit hS hR hB in
theorem Qm(r:RS Unit)(hr:eN r):VP prog 54 97 (dG B r) (dG B (aJ r λ_ n=>(.error (20,n):RS Unit))) [pI 20] (.tup []):=by
 cases r with
 |error e=>
  have h:=ie (B:=B) e.2 e.1 20;rw[KY hr]at h;exact h
 |ok q=>
  have h:=ie (B:=B) q.2 0 20;rw[KX rfl]at h;exact h
def Qn(q:RS (Int×List Atom)):PV:=match q with
 | .ok q=>cw q.1.2
 | .error _=>.sl []
theorem Qo{en:Int}(hf:jk B en=0){n:Nat}(Y:n<=100000):VP prog 28 97 (cB B n 0) (dG B (pv B en n)) [pI en] (.tup []):=by
 obtain⟨_,_,h0,h1,hx,s,L,W,F⟩:=wF hf;obtain⟨e1,e2,e3⟩:=F.ps_eq hx;rw[show ((en.toNat:Nat):Int)=en by omega]at e1 e2 e3;have a4:Ft (QB B) 0 s:=F.fs.wk λm hm=>my (Nat.le_of_lt (aL hx)) hm;have c6:=λ(k:Nat) y=>F.up_p hB hx (k:=k) (y:=y);have a5:=λ(k:Nat) y=>F.up_i hB hx (k:=k) (y:=y);have g0:=F.lc;have c7:=F.lp;have c8:=F.li;have lp:=KG List.length F.params;have li:=KG List.length F.indices;rw[KF]at lp li;have eC:=aq bA (ax B en).ctors;have eP:=aq rP (ax B en).params;have g1:=aq (λt:List Nd=>[ah t]) (ax B en).params;have eI:=aq rP (ax B en).indices;generalize M:pv B en n=o;unfold pv at M;rw[e3,e1,e2]at M;have a1:CxOk B []:=λi q hq=>by simp at hq
 have hT:=BU hS hR hB a1 Ud a4 Y;unfold dY at hT;rw[<- H5,<- F.sort]at hT;have a6:eN (inferS B GJ [] s n):=by
  have hf:=bS' (B:=B) GJ [] s n;cases U:inferS B GJ [] s n with
  |error e=>exact(dj hB GJ).er _ _ _ _ (eJ hf U)
  |ok p=>
   have:=(dj hB GJ).le _ _ _ _ (fC hf U);show p.2<=100000;omega
 refine aX (r:=.ok (_,_)) 261 [] τok func28 ?_;refine aD<|cS en.toNat (iQ h0 h1) ?_;refine aD<|aD<|ay hT ?_;refine aD<|Qe 6 ?_;refine dd τok (σ:=Ctx×RS Unit) [(0,_),(1,_),(4,_),(5,_)] [(4,_)] (λq=>[(6,vP (aO (q.1.map aE)))]) (λq=>stM B q.2)
  (λq=>CxOk B q.1/\q.1.length=L.length/\eN q.2/\(aJ q.2 λ_ n=>aJ (kn B W q.1 n) λ_ n=>ig B en q.1 (ax B en).ctors n)=o) ?_ ?_
 ·refine aB τok (σ:=Nat×Ctx×RS Unit) [(0,_),(1,_),(4,_),(5,_)] [(4,_)] (λq=>[(6,vP (aO (q.2.1.map aE))),(7,vI q.1)]) (λq=>stM B q.2.2)
   (λq=>q.1<=L.length/\CxOk B q.2.1/\q.2.1.length=q.1/\eN q.2.2/\(aJ q.2.2 λ_ n=>aJ (kn B (L.drop q.1) q.2.1 n) λR n=>aJ (kn B W R n) λ_ n=>ig B en R (ax B en).ctors n)=o) (λq=>L.length-q.1) (0,[],nu (inferS B GJ [] s n)) ⟨KV _,a1,rfl,BR a6,by
    rw[<- M,List.drop_zero];unfold nu;cases inferS B GJ [] s n<;>rfl⟩ ?_ (y1:=⟨ko B _,trivial⟩)
  clear M hT a6
  rintro⟨i,c,r⟩ ⟨hi,O,hl,d,a⟩;simp only at hi O hl d a;refine aj<|ae (λg=>?_) (λg=>?_)
  ·have g:(i:Int)<(((ax B en).params.map rP).length:Int):=g
   obtain⟨y,K,Z⟩:=az (l:=L) (k:=i);rw[Z,H8]at a;have f:=c6 i y K;rw[<- hl]at f;have D:(ax B en).params[i]?=some (row y):=by rw[F.params,JX,K];rfl
   refine aA i D ?_;refine BQ (BV hS hR hB d O Uo f) ?_;refine aA i D ?_;refine af (jI (cx:=c) y none Uo) ?_;refine vi ?_;exact au (i+1,c++[(y,none)],_) ⟨Us,O.snoc f Ud,Uk,BR (BW hB d c y),a⟩ (y':=⟨ko B _,trivial⟩)
  ·have g:¬ (i:Int)<(((ax B en).params.map rP).length:Int):=g
   rw[JY Uo]at a;exact au (c,r) ⟨O,Us,d,a⟩ (y':=⟨ko B _,trivial⟩)
 clear M hT a6
 rintro⟨R,r⟩ ⟨a7,a8,d,a⟩;simp only at a7 a8 d a;refine aD<|dd τok (σ:=RS Unit) [(0,_),(1,_),(4,_),(5,_),(6,_)] [(4,_)] (λq=>[]) (λq=>stM B q)
  (λq=>eN q/\(aJ q λ_ n=>ig B en R (ax B en).ctors n)=o) ?_ ?_
 ·refine aB τok (σ:=Nat×Ctx×RS Unit) [(0,_),(1,_),(4,_),(5,_),(6,_)] [(4,_)] (λq=>[(8,vP (aO (q.2.1.map aE))),(9,vI q.1)]) (λq=>stM B q.2.2)
   (λq=>q.1<=W.length/\CxOk B q.2.1/\q.2.1.length=L.length+q.1/\eN q.2.2/\(aJ q.2.2 λ_ n=>aJ (kn B (W.drop q.1) q.2.1 n) λ_ n=>ig B en R (ax B en).ctors n)=o) (λq=>W.length-q.1) (0,R,r) ⟨KV _,a7,a8,d,a⟩ ?_ (y1:=⟨ko B _,trivial⟩)
  clear a d
  rintro⟨i,c,r⟩ ⟨hi,O,hl,d,a⟩;simp only at hi O hl d a;refine aj<|ae (λg=>?_) (λg=>?_)
  ·have g:(i:Int)<(((ax B en).indices.map rP).length:Int):=g
   obtain⟨y,K,Z⟩:=az (l:=W) (k:=i);rw[Z,H8]at a;have f:=a5 i y K;rw[<- hl]at f;have D:(ax B en).indices[i]?=some (row y):=by rw[F.indices,JX,K];rfl
   refine aA i D ?_;refine BQ (BV hS hR hB d O Uo f) ?_;refine aA i D ?_;refine af (jI (cx:=c) y none Uo) ?_;refine vi ?_;exact au (i+1,c++[(y,none)],_) ⟨Us,O.snoc f Ud,Uk,BR (BW hB d c y),a⟩ (y':=⟨ko B _,trivial⟩)
  ·have g:¬ (i:Int)<(((ax B en).indices.map rP).length:Int):=g
   rw[JY Uo]at a;exact au r ⟨d,a⟩ (y':=⟨ko B _,trivial⟩)
 clear a d
 rintro r ⟨d,a⟩;refine aj<|aB τok (σ:=Nat×RS Unit) [(0,_),(1,_),(4,_),(5,_),(6,_)] [(4,_)] (λq=>[(10,vI q.1)]) (λq=>stM B q.2)
  (λq=>q.1<=(ax B en).ctors.length/\eN q.2/\(aJ q.2 λ_ n=>ig B en R ((ax B en).ctors.drop q.1) n)=o) (λq=>(ax B en).ctors.length-q.1) (0,r) ⟨KV _,d,a⟩ ?_ (y1:=⟨ko B _,trivial⟩)
 clear a d
 rintro⟨k,r⟩ ⟨hk,d,a⟩;simp only at hk d a;refine aD ?_;rcases r with e|⟨⟨⟩,n⟩
 ·have d:e.1≠0:=d
  have a:.error e=o:=a;subst a;refine ae (λg=>?_) (λg=>?_)
  ·refine vn (p:=e.1=0) ?_ d
   exact eP9
  ·skip
   exact eP9
 have Y:n<=100000:=d;have a:ig B en R ((ax B en).ctors.drop k) n=o:=a;refine ae (λg=>?_) (λg=>?_);rotate_left
 ·have g:¬ (k:Int)<(((ax B en).ctors.map bA).length:Int):=g
  rw[JY Uo]at a;subst a;exact eP9
 have g:(k:Int)<(((ax B en).ctors.map bA).length:Int):=g;refine vy (p:=(0:Int)=0) ?_ rfl;obtain⟨P,b4,Z⟩:=az (l:=(ax B en).ctors) (k:=k);rw[Z]at a;simp only[ig]at a;obtain⟨A,E,S⟩:=F.ct k P b4;have b5:∀(i:Nat) y,A[i]?=some y ->Ft (QB B) ((L.length+i:Nat):Int) y:=λi y K=>S.up_a hx F.kind K;have X:∀y∈E,Ft (QB B) ((L.length+A.length:Nat):Int) y:=λy K=>S.up_o hx F.kind K;have c9:P.args.map tr=A:=qF S.args (λy K=>by
  obtain⟨j,hj⟩:=JH K;exact(S.fa j y hj).ok)
 have c':P.out.map tr=E:=qF S.out (λy K=>(S.fo y K).ok);have d':P.args.length=A.length:=by rw[S.args];simp
 have g2:P.out.length=E.length:=by rw[S.out];simp
 have e0:=S.la;have e4:=S.lo;have eA:=aq rP P.args;have eO:=aq rP P.out;rw[c9,c',d']at a;have hG:CtG B en W A E L.length P:=⟨c7,e0,a5,X,c8,e4,F.indices,e2,S.args,S.out⟩
 refine VCode.seq<|VCode.blk<|aD<|ee k b4 ?_;refine aD<|dd τok (σ:=Ctx×RS Unit) [(0,_),(1,_),(4,_),(5,_),(6,_),(10,_),(11,_)] [(4,_),(11,_)] (λq=>[(8,vP (aO (q.1.map aE)))]) (λq=>stM B q.2)
  (λq=>CxOk B q.1/\eN q.2/\(∀p,q.2= .ok p ->q.1.length=L.length+A.length)/\(aJ q.2 λ_ n=>aJ (ml B en E A.length q.1 E 0 n) λ_ n=>ig B en R ((ax B en).ctors.drop (k+1)) n)=o) ?_ ?_
 ·refine aB τok (σ:=Nat×Ctx×RS Unit) [(0,_),(1,_),(4,_),(5,_),(6,_),(10,_),(11,_)] [(4,_),(11,_)] (λq=>[(8,vP (aO (q.2.1.map aE))),(12,vI q.1)]) (λq=>stM B q.2.2)
   (λq=>q.1<=A.length/\CxOk B q.2.1/\q.2.1.length=L.length+q.1/\eN q.2.2/\(aJ q.2.2 λ_ n=>aJ (nt B en (A.drop q.1) q.2.1 n) λV n=>aJ (ml B en E A.length V E 0 n) λ_ n=>ig B en R ((ax B en).ctors.drop (k+1)) n)=o) (λq=>A.length-q.1) (0,R,.ok ((),n)) ⟨KV _,a7,a8,Y,a⟩ ?_
  clear a Y d
  rintro⟨i,c,r⟩ ⟨hi,O,hl,d,a⟩;simp only at hi O hl d a;refine aD ?_;rcases r with e|⟨⟨⟩,n⟩
  ·have a9:e.1≠0:=d
   refine ae (λg=>?_) (λg=>?_)
   ·refine vn (p:=e.1=0) ?_ a9
    exact au (c,.error e) ⟨O,d,(λp h=>by cases h),a⟩
   ·exact au (c,.error e) ⟨O,d,(λp h=>by cases h),a⟩
  have Y:n<=100000:=d;refine ae (λg=>?_) (λg=>?_);rotate_left
  ·have g:¬ (i:Int)<((P.args.map rP).length:Int):=g
   rw[JY Uo]at a;exact au (c,.ok ((),n)) ⟨O,d,λ_ _=>Us,a⟩
  have g:(i:Int)<((P.args.map rP).length:Int):=g;refine vy (p:=(0:Int)=0) ?_ rfl;obtain⟨y,K,Z⟩:=az (l:=A) (k:=i);rw[Z]at a;have a:aJ (nt B en (y::A.drop (i+1)) c n) (λV n=>aJ (ml B en E A.length V E 0 n) λ_ n=>ig B en R ((ax B en).ctors.drop (k+1)) n)=o:=a;rw[Ql]at a;have f:=b5 i y K;rw[<- hl]at f;have D:P.args[i]?=some (row y):=by rw[S.args,JX,K];rfl
  have U:=BV hS hR hB (r:=.ok ((),n)) d O Uo f;have U:VP prog 50 97 (cB B n 0) (dG B (nu (sortS B (inferS B GJ) c y n))) [aO (c.map aE),ah (row y)] (Bt (sortS B (inferS B GJ) c y n)):=U;have b6:eN (sortS B (inferS B GJ) c y n):=BW hB (r:=.ok ((),n)) d c y;have e5:∀p,sortS B (inferS B GJ) c y n= .ok p ->p.1.2.length<=1000000:=λp h=>by
   have:=(jD hB (dj hB GJ) O f (fC (gp (B:=B) (bS' (B:=B) GJ) (cx:=c) y n) h)).2.2.hi;omega
  generalize sortS B (inferS B GJ) c y n=q at *
  refine VCode.seq<|VCode.blk<|dd τok (σ:=Unit) [(0,_),(1,_),(4,_),(5,_),(6,_),(8,_),(10,_),(11,_),(12,_)] [(4,_),(11,_)] (λ_=>[(14,vP (Qn q))]) (λ_=>stM B (nu q)) (λ_=>True) ?_ ?_
  ·refine aA i D ?_
   rcases q with e|p
   ·refine ay U ?_
    exact au () trivial
   ·refine ay U ?_
    exact au () trivial
  rintro⟨⟩ -
  refine dd τok (σ:=Unit) [(0,_),(1,_),(4,_),(5,_),(6,_),(8,_),(10,_),(11,_),(12,_)] [(4,_),(11,_)] (λ_=>[]) (λ_=>stM B (px B en q)) (λ_=>True) ?_ ?_
  ·rcases q with e|⟨⟨kd,lv⟩,n2⟩
   ·refine vn (p:=e.1=0) ?_ b6
    refine vk ?_;exact au () trivial
   ·refine vy (p:=(0:Int)=0) ?_ rfl
    have b7:=tx (aC a4) F.s2;rw[<- F.sort]at b7;refine af b7 ?_;have e6:=ww a4.ok F.s2;have e7:lv.length<=1000000:=e5 _ rfl;refine af (Ak hS.o e7 e6) ?_;refine vk ?_;cases hu:gb B.vars B.orders lv (bq s)with
    |false=>
     have hU:px B en (.ok ((kd,lv),n2))= .error (21,n2):=KX (by rw[e3];exact hu);rw[hU];exact au () trivial
    |true=>
     have hU:px B en (.ok ((kd,lv),n2))= .ok ((),n2):=KY (by rw[e3];simp[hu]);rw[hU];exact au () trivial
  rintro⟨⟩ -
  have b8:=Qi (B:=B) (en:=en) b6
  generalize px B en q=ru at *
  refine dd τok (σ:=Unit) [(0,_),(1,_),(4,_),(5,_),(6,_),(8,_),(10,_),(11,_),(12,_)] [(4,_),(11,_)] (λ_=>[]) (λ_=>stM B (oJ B en y (c.length:Int) ru)) (λ_=>True) ?_ ?_
  ·refine aA i D ?_
   refine af (xc (aC f)) ?_;refine vi ?_;refine vi ?_;have hw:=qL (H3 (e:=en) (np:=((ax B en).params.map rP).length) (ni:=((ax B en).indices.map rP).length) Uo (aC f) (ar:=(((ax B en).params.map rP).length:Int)+(i:Int)) Uo Uo) (r':=.bool (fV (ax B en).params.length (ax B en).indices.length en y (c.length:Int))) (by
    rw[eP,eI]
    congr 2
    omega)
   refine af hw ?_;refine vk ?_;cases b9:fV (ax B en).params.length (ax B en).indices.length en y (c.length:Int)with
   |false=>
    have hW:oJ B en y (c.length:Int) ru=aJ ru λ_ n=>.error (20,n):=by
     unfold oJ;simp only[b9,if_true]
    rw[hW];refine BQ (Qm ru b8) ?_;exact au () trivial (y':=⟨ko B _,trivial⟩)
   |true=>
    have hW:oJ B en y (c.length:Int) ru=ru:=by
     unfold oJ;simp only[b9,Bool.true_eq_false,if_false];exact Qf ru
    rw[hW];exact au () trivial (y':=⟨ko B _,trivial⟩)
  rintro⟨⟩ -
  refine aj<|aA i D ?_;refine af (jI (cx:=c) y none Uo) ?_;refine aj<|vi ?_;exact au (i+1,c++[(y,none)],_) ⟨Us,O.snoc f Ud,Uk,Qj b8,a⟩ (y':=⟨ko B _,trivial⟩)
 clear a Y d
 rintro⟨V,r⟩ ⟨a',d,I,a⟩;simp only at a' d I a;refine aj<|aB τok (σ:=Nat×RS Unit) [(0,_),(1,_),(4,_),(5,_),(6,_),(8,_),(10,_),(11,_)] [(4,_),(11,_)] (λq=>[(15,vI q.1)]) (λq=>stM B q.2)
  (λq=>q.1<=E.length/\eN q.2/\(∀p,q.2= .ok p ->V.length=L.length+A.length)/\(aJ q.2 λ_ n=>aJ (ml B en E A.length V (E.drop q.1) q.1 n) λ_ n=>ig B en R ((ax B en).ctors.drop (k+1)) n)=o) (λq=>E.length-q.1) (0,r) ⟨KV _,d,I,a⟩ ?_ (y1:=⟨ko B _,trivial⟩)
 clear a d I
 rintro⟨j,r⟩ ⟨hj,d,I,a⟩;simp only at hj d I a;refine aj ?_;rcases r with e|⟨⟨⟩,n⟩
 ·have a9:e.1≠0:=d
  refine ae (λg=>?_) (λg=>?_)
  ·refine vn (p:=e.1=0) ?_ a9
   refine aj<|vi ?_;exact au (k+1,.error e) ⟨Us,d,a⟩
  ·refine aj ?_
   refine vi ?_;exact au (k+1,.error e) ⟨Us,d,a⟩
 have Y:n<=100000:=d;have a2:=I _ rfl;refine ae (λg=>?_) (λg=>?_);rotate_left
 ·have g:¬ (j:Int)<((P.out.map rP).length:Int):=g
  rw[JY Uo]at a;refine aj<|vi ?_;exact au (k+1,.ok ((),n)) ⟨Us,d,a⟩
 have g:(j:Int)<((P.out.map rP).length:Int):=g;refine vy (p:=(0:Int)=0) ?_ rfl;obtain⟨y,K,Z⟩:=az (l:=E) (k:=j);obtain⟨x0,b0,_⟩:=az (l:=W) (k:=j);rw[Z]at a;have a:aJ (if bL (row y) en=true then .error (20,n)else aJ (du (iS (fq B en) E A.length j) n) λb' n=>aJ (checkS B (inferS B GJ) V y b' n) λ_ n=>ml B en E A.length V (E.drop (j+1)) (j+1) n) (λ_ n=>ig B en R ((ax B en).ctors.drop (k+1)) n)=o:=a;rw[e2]at a;have f:=X y (JQ K);have a3:=a5 j x0 b0;have D:P.out[j]?=some (row y):=by rw[S.out,JX,K];rfl
 refine aA j D ?_;refine af (xc (aC f)) ?_;refine af (tQ en (aC f)) ?_;cases c0:bL (row y) en with
 |true=>
  rw[KX c0]at a;have a:.error (20,n)=o:=a;subst a;exact eP9
 |false=>
 rw[KY (by rw[c0];decide)]at a;have b1:=hG.ft (j:=j) Uo;have c1:=λz=>hG.made (j:=j) Uo (z:=z);obtain⟨MD,T⟩:∃r,iS W E A.length j=r:=⟨_,rfl⟩
 rw[T]at a;rw[T]at c1;unfold iS at T;have c2:W.getD j (varX 0)=x0:=by simp[b0]
 rw[c2]at T b1;refine aA j (x:=row x0) (by rw[F.indices,JX,b0];rfl) ?_;have hL:=qL (ot (aC a3) (a3.small Uo) (b:=((P.args.map rP).length:Int)) (fr:=(j:Int)) Uo Uo) (r':=.tup [ah (row (aG x0 (A.length:Int) (j:Int))),pI 0]) (by rw[show ((P.args.map rP).length:Int)=(A.length:Int) by omega]);refine af hL ?_;refine ay (fW n _) ?_;refine vk ?_;refine vi ?_;refine aB τok (σ:=Int×Except Int Tr) [(0,_),(1,_),(4,_),(5,_),(6,_),(8,_),(10,_),(11,_),(15,_)] [(4,_),(11,_)] (λq=>match q.2 with
  | .ok t=>[(16,vP (ah (row t))),(17,vI q.1)]
  | .error e=>[(16,vP (.sl [])),(17,vI q.1)]) (λq=>match q.2 with
  | .ok t=>[(0,.st 1 97 ((cB B n 0).map .p))]
  | .error e=>[(0,.st 1 97 ((cB B n e).map .p))]) (λq=>-1<=q.1/\q.1<16/\match q.2 with
  | .ok t=>∃m:Nat,q.1=(m:Int)-1/\m<=W.length/\Ft (QB B) ((L.length+A.length+m:Nat):Int) t/\jG E m t=MD
  | .error e=>e≠0/\ .error e=MD) (λq=>(q.1+1).toNat) ((j:Int)-1,.ok (aG x0 (A.length:Int) (j:Int))) ⟨Us,Us,j,rfl,Uo,b1,T⟩ ?_
 clear T hL b1
 rintro⟨i,r⟩ ⟨e8,e9,hm⟩;simp only at e8 e9 hm;refine aj ?_;rcases r with e|t
 ·obtain⟨he,hm⟩:=hm
  subst hm;have a:.error (e,n)=o:=a;refine ae (λg=>?_) (λg=>?_)
  ·refine vn (p:=e=0) ?_ he
   refine vn (p:=e=0) ?_ he;refine vi ?_;exact au (j+1,.error (e,n)) ⟨Us,he,(λp h=>by cases h),a⟩
  ·refine vn (p:=e=0) ?_ he
   refine vi ?_;exact au (j+1,.error (e,n)) ⟨Us,he,(λp h=>by cases h),a⟩
 obtain⟨m,g3,g4,c3,C⟩:=hm;refine ae (λg=>?_) (λg=>?_)
 ·have g:i≥0:=g
  obtain⟨m,rfl⟩:∃k,m=k+1:=⟨m-1,Uo⟩
  obtain rfl:i=(m:Int):=Uo
  refine vy (p:=(0:Int)=0) ?_ rfl;obtain⟨z,hz,_⟩:=az (l:=E) (k:=m);have e':E.getD m (varX 0)=z:=by simp[hz]
  have b2:=X z (JQ hz);simp only[jG]at C;rw[e']at C;have b3:Ft (QB B) ((L.length+A.length+m:Nat):Int) (aG z (m:Int) 0):=by
   have:=b2.lift (qk B) Uo (b:=(m:Int)) Uo Uo
   rwa [show ((L.length+A.length:Nat):Int)+(m:Int)=((L.length+A.length+m:Nat):Int) by omega]at this
  refine aA m (x:=row z) (by rw[S.out,JX,hz];rfl) ?_;refine af (ot (aC b2) (b2.small Uo) (b:=(m:Int)) (fr:=0) Uo Uo) ?_;refine ay (fW n _) ?_;have U:=s5 (x:=t) (u:=aG z (m:Int) 0) (v:=0) (aC c3) (aC b3) (b3.small Uo) Uo;cases a0:bh t (aG z (m:Int) 0) 0 with
  |error e=>
   have he:e≠0:=by
    have:=gY a0;omega
   rw[a0]at U C;have C:.error e=MD:=C;refine af U ?_;refine ay (k7 n he _) ?_;refine vi ?_;exact au ((m:Int)-1,.error e) ⟨Us,Us,he,C⟩
  |ok t'=>
   rw[a0]at U C;have C:jG E m t'=MD:=C;have c4:=gQ (qk B) (N:=((L.length+A.length+m:Nat):Int)) (v:=0) (c3.mono Uo) b3 Uo Uo Uo Uo a0;rw[Int.add_zero]at c4;refine af U ?_;refine ay (fW n _) ?_;refine vi ?_;exact au ((m:Int)-1,.ok t') ⟨Us,Us,m,rfl,Uo,c4,C⟩
 ·have g:¬ i≥0:=g
  obtain rfl:m=0:=Uo
  have C:.ok t=MD:=C;subst C;have c5:=c1 t rfl;rw[<- a2]at f c5;have a:aJ (aJ (checkS B (inferS B GJ) V y t n) λ_ n=>ml B en E A.length V (E.drop (j+1)) (j+1) n) (λ_ n=>ig B en R ((ax B en).ctors.drop (k+1)) n)=o:=a;have f':=tM hS hB (bS' (B:=B) GJ) (dj hB GJ) a' Uo f c5 Y (BU hS hR hB a' Uo f Y);refine vy (p:=(0:Int)=0) ?_ rfl;refine aA j D ?_;refine ay f' ?_;refine vi ?_;exact au (j+1,checkS B (inferS B GJ) V y t n) ⟨Us,Qh hB Y,λ_ _=>a2,by
   rw[<- a];cases checkS B (inferS B GJ) V y t n<;>rfl⟩ (y':=⟨ko B _,trivial⟩)
end
section
variable{B:ak}(hS:dh B)
include hS
theorem H9(en fuel:Int):VC prog 10 [bk B,pI en,pI fuel] (tO (famTop B en fuel)):=by
 have m:=aq bI B.ents;have i:VC prog 22 [bk B,pI en,pI ((B.ents.map bI).length:Nat)] (.bool (bF B B.ents.length en)):=by
  rw[m];exact pi (B:=B) (known:=B.ents.length) (KJ _) en
 generalize a:famTop B en fuel=f;unfold famTop at a;have b:=H4 B en;refine vf 32 [.tmp 6,.tmp 7] τok func10 ?_;refine af (s8 hS) ?_;refine ae (λc=>?_) (λc=>?_)
 ·have c:cP B≠0:=c
  rw[KX c]at b;rw[b,KX c]at a;subst a;exact aF
 have c:¬ cP B≠0:=c;rw[KY c]at b;refine af i ?_;cases l:bF B B.ents.length en with
 |false=>
  rw[l,KY UO]at b;rw[b,KX UO]at a;subst a;exact aF
 |true=>
 rw[l,KX rfl]at b;rw[KY (by simpa using b)]at a;have hR:=Decidable.not_not.1 c;have hB:=FE hR;have h:=Qo hS hR hB b (qD fuel);have d:=Qa hB en (qD fuel);rw[a]at d;refine Kb (BA fuel) ?_;have j:∀e,pv B en (bK fuel)= .error e ->e.1≠0:=λe k=>by
  have:=eJ d k;exact Qg hB _ _ (a.trans this)
 generalize pv B en (bK fuel)=q at *
 rcases q with e|⟨⟨⟩,n⟩
 ·have d:.error e.1=f:=d
  subst d;have k:=j e rfl;refine ay h ?_;have g:=leftV (B:=B) e.2 e.1;rw[KY k]at g;refine ay g ?_;exact aF
 ·have d:.ok ((),n)=f:=d
  subst d;refine ay h ?_;have g:=leftV (B:=B) n 0;rw[KX rfl]at g;refine ay g ?_;exact aF
end
theorem xd{l:List (List Nd)}(h:lI l):VC prog 31 [bG l] (bG l):=by
 have b:=aq (λt:List Nd=>[ah t]) l;have d:=h.1;refine cN 20 [.tmp 2] τok func31 ?_;refine aj<|dK 3 1000 39 1 rfl rfl<|aB τok (σ:=Nat) [(0,_)] [] (λi=>[(3,.c (.row 1000)),(4,vI i)]) (λi=>[(1000,.rw 39 1 ((l.take i).map rP))]) (λi=>i<=l.length) (λi=>l.length-i) 0 (KV _) ?_;rintro i e;refine aj<|ae (λg=>?_) (λg=>?_)
 ·obtain⟨t,a,f⟩:=az (l:=l) (k:=i)
  refine aA i a ?_;refine af (vU (h.2 t (JQ a))) ?_;refine bg ?_ (hb:=Uk);refine vi ?_;exact au (i+1) (by show i+1<=_;omega) (sw 1000 18) (y':=⟨KG (λl=>some (SE.rw _ _ l)) (by rw[QQ,a];simp[dp];rfl),trivial⟩)
 ·rw[JG Uo]
  exact aF
theorem xe{l:List (List Nd)}(h:lI l):VC prog 59 [bG l,bG l] (.bool true):=by
 have e:=aq (λt:List Nd=>[ah t]) l;have f:=h.1;refine vf 27 [.tmp 4] τok func59 ?_;refine vn ?_ (λq=>q rfl);refine vl τok (σ:=Nat) [(0,_),(1,_)] (λi=>[(5,vI i)]) (λi=>i<=l.length) (λi=>l.length-i) 0 (KV _) ?_;rintro i j;refine ae (λg=>?_) (λg=>?_)
 ·obtain⟨t,c,m⟩:=az (l:=l) (k:=i)
  have d:=qv (a:=t) (b:=t) (by have:=h.2 t (JQ c);omega) (by have:=h.2 t (JQ c);omega);rw[KU rfl]at d;refine aA i c ?_;refine aA i c ?_;refine af d ?_;refine vk ?_;refine vi ?_;exact au (i+1) (by show i+1<=_;omega)
 ·exact aF
theorem Qp(l:List aV):∀x∈l,(orP x).length=3/\∀q∈orP x,q.one=true:=λx _=>⟨rfl,λq a=>by
 simp only[orP,JJ,JZ,or_false]at a;rcases a with rfl|rfl|rfl<;>rfl⟩
theorem Qq(l:List (Int×Int)):∀x∈l,(prP x).length=2/\∀q∈prP x,q.one=true:=λx _=>⟨rfl,λq a=>by
 simp only[prP,JJ,JZ,or_false]at a;rcases a with rfl|rfl<;>rfl⟩
theorem Qr{B:ak}(hB:dh B):VC prog 11 [bk B] (bk B):=by
 have o:=aq orP B.orders;have q:=aq prP B.prims;have r:=aq bI B.ents;have d:=hB.o;have e:=hB.p;have f:=hB.e;refine cN 85 [.cell 2 26] τok func11 ?_;refine aD<|aD<|va ?_ (Qp _);refine va ?_ (Qq _);refine vk ?_;show VCode _ _ _ _ _;refine mN 3 1 15 ?_;refine mN 3 4 19 ?_;refine kJ 3 2 1000 43 7 rfl rfl rfl UO<|aD<|aB τok (σ:=Nat) [(1,_),(2,_),(3,_)] [(1,_),(2,_)] (λi=>[(4,vI i)]) (λi=>[(3,.st 0 26 [.p (pI B.vars),.p (.sl (B.orders.map orP)),.row 1000,.p (pI B.nat),.p (.sl (B.prims.map prP))]),(1000,.rw 43 7 ((B.ents.take i).map bI))]) (λi=>i<=B.ents.length) (λi=>B.ents.length-i) 0 (KV _) ?_;rintro i s;refine aD<|ae (λg=>?_) (λg=>?_)
 ·obtain⟨x,c,t⟩:=az (l:=B.ents) (k:=i)
  have a:=hB.x x (JQ c);have u:=a.c;have eC:=aq bA x.ctors;refine VCode.seq (VCode.blk<|aD<|cS i c ?_);refine aD<|af (vU a.s) ?_;refine af (xd a.p) ?_;refine af (xd a.i) ?_;refine af (vU a.t) ?_;refine af (vU a.b) ?_;refine vk ?_;show VCode _ _ _ _ _;refine kJ 6 4 1002 49 2 rfl rfl rfl UO<|aD<|aB τok (σ:=Nat) [(1,_),(2,_),(3,_),(4,_),(5,_),(6,_)] [(1,_),(2,_),(3,_),(1000,_),(5,_)] (λk=>[(7,vI k)]) (λk=>[(6,.st 0 43 [.p (pI x.kind),.p (ah x.sort),.p (bG x.params),.p (bG x.indices),.row 1002,.p (ah x.type),.p (ah x.body)]),(1002,.rw 49 2 ((x.ctors.take k).map bA))]) (λk=>k<=x.ctors.length) (λk=>x.ctors.length-k) 0 (KV _) ?_;rintro k v;refine aj<|ae (λh=>?_) (λh=>?_)
  ·obtain⟨y,b,j⟩:=az (l:=x.ctors) (k:=k)
   obtain⟨m,n⟩:=a.a y (JQ b);refine ee k b ?_;refine af (xd m) ?_;refine ee k b ?_;refine af (xd n) ?_;refine bg ?_ (hb:=Uk);refine vk ?_;refine vi ?_;exact au (k+1) (by show k+1<=_;omega) (sw 1002 76) (y':=⟨rfl,KG (λl=>some (SE.rw _ _ l)) (by rw[QQ,b];simp[dp];rfl),trivial⟩)
  ·rw[JG Uo]
   show VCode _ _ _ _ _;refine mN 6 4 1002 ?_;refine aj<|bg ?_ (hb:=Uk);refine aj<|vi ?_;exact au (i+1) (by show i+1<=_;omega) (sw 1000 82) (y':=⟨rfl,KG (λl=>some (SE.rw _ _ l)) (by rw[QQ,c];simp[dp];rfl),trivial⟩)
 ·rw[JG Uo]
  show VCode _ _ _ _ _;refine mN 3 2 1000 ?_;exact aj<|aF
theorem Qs(x y:Operand)(n:aV)(w:World):(do eqGuard .neq 73 x y (.agg #[.int .i64 n.low,.int .i64 n.add,.int .i64 n.high]) (.agg #[.int .i64 n.low,.int .i64 n.add,.int .i64 n.high]);binOp .neq 73 (.agg #[.int .i64 n.low,.int .i64 n.add,.int .i64 n.high]) (.agg #[.int .i64 n.low,.int .i64 n.add,.int .i64 n.high]):Sem Value).run prog w= .ok (.bool false) w:=by
 have d : (prog.fieldsOf 73).toList.map (λf => (f.name != "_", f.offset, f.type)) = [(true, 0, 3), (true, 1, 3), (true, 2, 3)] := by kernel_rfl
 have k:prog.underlying 73=some (.struct (prog.fieldsOf 73)):=UD
 have l:prog.eqGuardType prog.depth 73=false:=UD
 have e:prog.stoodInHeld 73=false:=UD
 simp only[Sem.run_bind,run_eqGuard_agg w .neq 73 x y _ _ l,Result.andThen_ok,run_neq_struct];rw[show (10000:Nat)=9999+1 from rfl,run_equalIn_struct w 9999 73 _ _ k e]
 generalize (prog.fieldsOf 73).toList=j at d
 have i:j.length=3:=by have:=KG List.length d;simpa using this
 match j,i,d with
 |[f,g,h],_,d=>
  simp only[List.map_cons,List.map_nil,List.cons.injEq,Prod.mk.injEq,bne_iff_ne,ne_eq,and_true]at d;obtain⟨⟨m,o,t1⟩,⟨p,q,t2⟩,r,s,t3⟩:=d;have t:∀(a b:Int) (w:World),(Op.equalIn 9999 3 (.int .i64 a) (.int .i64 b)).run prog w= .ok (a==b) w:=λa b w=>by rw[show (9999:Nat)=9998+1 from rfl];exact run_equalIn_int w 9998 3 .i64 .i64 a b underlying3
  have u:∀(a b c:Value) (w:World),(part 3 #[a,b,c] 0).run prog w= .ok a w:=λa b c w=>by simp[part,isAgg,run_underlying underlying3]
  have v:∀(a b c:Value) (w:World),(part 3 #[a,b,c] 1).run prog w= .ok b w:=λa b c w=>by simp[part,isAgg,run_underlying underlying3]
  have z:∀(a b c:Value) (w:World),(part 3 #[a,b,c] 2).run prog w= .ok c w:=λa b c w=>by simp[part,isAgg,run_underlying underlying3]
  simp[Op.eqFields,m,p,r,o,q,s,t1,t2,t3,u,v,z,t]
theorem Qt(x y:Operand)(n:Int×Int)(w:World):(do eqGuard .neq 76 x y (.agg #[.int .i64 n.1,.int .i64 n.2]) (.agg #[.int .i64 n.1,.int .i64 n.2]);binOp .neq 76 (.agg #[.int .i64 n.1,.int .i64 n.2]) (.agg #[.int .i64 n.1,.int .i64 n.2]):Sem Value).run prog w= .ok (.bool false) w:=by
 have c : (prog.fieldsOf 76).toList.map (λf => (f.name != "_", f.offset, f.type)) = [(true, 0, 3), (true, 1, 3)] := by kernel_rfl
 have i:prog.underlying 76=some (.struct (prog.fieldsOf 76)):=UD
 have j:prog.eqGuardType prog.depth 76=false:=UD
 have d:prog.stoodInHeld 76=false:=UD
 simp only[Sem.run_bind,run_eqGuard_agg w .neq 76 x y _ _ j,Result.andThen_ok,run_neq_struct];rw[show (10000:Nat)=9999+1 from rfl,run_equalIn_struct w 9999 76 _ _ i d]
 generalize (prog.fieldsOf 76).toList=h at c
 have e:h.length=2:=by have:=KG List.length c;simpa using this
 match h,e,c with
 |[f,g],_,c=>
  simp only[List.map_cons,List.map_nil,List.cons.injEq,Prod.mk.injEq,bne_iff_ne,ne_eq,and_true]at c;obtain⟨⟨k,l,t1⟩,m,o,t2⟩:=c;have p:∀(a b:Int) (w:World),(Op.equalIn 9999 3 (.int .i64 a) (.int .i64 b)).run prog w= .ok (a==b) w:=λa b w=>by rw[show (9999:Nat)=9998+1 from rfl];exact run_equalIn_int w 9998 3 .i64 .i64 a b underlying3
  have q:∀(a b:Value) (w:World),(part 3 #[a,b] 0).run prog w= .ok a w:=λa b w=>by simp[part,isAgg,run_underlying underlying3]
  have r:∀(a b:Value) (w:World),(part 3 #[a,b] 1).run prog w= .ok b w:=λa b w=>by simp[part,isAgg,run_underlying underlying3]
  simp[Op.eqFields,k,m,l,o,t1,t2,q,r,p]
theorem BX{x y:Operand}{p:aV}{k:PV ->Prop}(e:k (.bool false)):nM prog .neq 73 x y (.c (.p (.agg (orP p)))) (.c (.p (.agg (orP p)))) k:=by
 refine⟨_,λC ρ va o w f g=>?_,e⟩;have rd:∀{v:Value},RA C ρ (.c (.p (.agg (orP p)))) v ->v= .agg #[.int .i64 p.low,.int .i64 p.add,.int .i64 p.high]:=λ{v} h=>by
  have h:RV C (.agg (orP p)) v:=h;cases h with
  |agg q i j d=>
   match i,j with
   |[a,b,c],_=>
    have l:=d 0 _ _ rfl rfl;have m:=d 1 _ _ rfl rfl;have n:=d 2 _ _ rfl rfl;cases l;cases m;cases n
    rfl
 rw[rd f,rd g];exact⟨_,.bool _,Qs x y p w⟩
theorem BY{x y:Operand}{p:Int×Int}{k:PV ->Prop}(e:k (.bool false)):nM prog .neq 76 x y (.c (.p (.agg (prP p)))) (.c (.p (.agg (prP p)))) k:=by
 refine⟨_,λC ρ va n w f g=>?_,e⟩;have rd:∀{v:Value},RA C ρ (.c (.p (.agg (prP p)))) v ->v= .agg #[.int .i64 p.1,.int .i64 p.2]:=λ{v} h=>by
  have h:RV C (.agg (prP p)) v:=h;cases h with
  |agg o i j d=>
   match i,j with
   |[a,b],_=>
    have l:=d 0 _ _ rfl rfl;have m:=d 1 _ _ rfl rfl;cases l;cases m
    rfl
 rw[rd f,rd g];exact⟨_,.bool _,Qt x y p w⟩
theorem Qu{x:cf}(h:qe x):VC prog 32 [.agg (bI x),.agg (bI x)] (.bool true):=by
 have eC:=aq bA x.ctors;have j:=h.c;have c:∀{t:List Nd},t.length<=1000000 ->VC prog 13 [ah t,ah t] (.bool true):=λ{t} h=>by
  have:=qv (a:=t) (b:=t) Uo Uo
  rwa [KU rfl]at this
 refine vf 97 [.tmp 4] τok func32 ?_;refine vn ?_ (λq=>q rfl);refine vn ?_ (λq=>q rfl);refine af (c h.s) ?_;refine af (xe h.p) ?_;refine af (xe h.i) ?_;refine af (c h.t) ?_;refine af (c h.b) ?_;refine aB τok (σ:=Nat) [(2,_),(3,_)] [(2,_),(3,_)] (λi=>[(5,vI i)]) (λ_=>[]) (λi=>i<=x.ctors.length) (λi=>x.ctors.length-i) 0 (KV _) ?_;rintro i m;refine aj<|ae (λg=>?_) (λg=>?_)
 ·obtain⟨y,d,n⟩:=az (l:=x.ctors) (k:=i)
  obtain⟨e,f⟩:=h.a y (JQ d);refine ee i d ?_;refine ee i d ?_;refine af (xe e) ?_;refine ee i d ?_;refine ee i d ?_;refine af (xe f) ?_;refine vk ?_;refine vi ?_;exact au (i+1) (by show i+1<=_;omega)
 ·exact aF
theorem Qv{B:ak}(hB:dh B):VC prog 12 [bk B,bk B] (.bool true):=by
 have h:=aq orP B.orders;have j:=aq prP B.prims;have m:=aq bI B.ents;have d:=hB.o;have e:=hB.p;have f:=hB.e;refine vf 102 [.tmp 4] τok func12 ?_;refine vn ?_ (λq=>q rfl);refine vn ?_ (λq=>q rfl);refine vn ?_ (λq=>q rfl);refine vn ?_ (λq=>q rfl);refine vn ?_ (λq=>q rfl);refine aB τok (σ:=Nat) [(2,_),(3,_)] [(2,_),(3,_)] (λi=>[(5,vI i)]) (λ_=>[]) (λi=>i<=B.orders.length) (λi=>B.orders.length-i) 0 (KV _) ?_;rintro i b;refine aj<|ae (λg=>?_) (λg=>?_)
 ·obtain⟨y,a,c⟩:=az (l:=B.orders) (k:=i)
  refine vm (p:=orP) i a ?_;refine vm (p:=orP) i a ?_;refine BX<|vk ?_;refine vi ?_;exact au (i+1) (by show i+1<=_;omega)
 refine aB τok (σ:=Nat) [(2,_),(3,_)] [(2,_),(3,_)] (λi=>[(6,vI i)]) (λ_=>[]) (λi=>i<=B.ents.length) (λi=>B.ents.length-i) 0 (KV _) ?_;rintro i b;refine aj<|ae (λg=>?_) (λg=>?_)
 ·obtain⟨y,a,c⟩:=az (l:=B.ents) (k:=i)
  refine cS i a ?_;refine cS i a ?_;refine af (Qu (hB.x y (JQ a))) ?_;refine vk ?_;refine vi ?_;exact au (i+1) (by show i+1<=_;omega)
 refine aB τok (σ:=Nat) [(2,_),(3,_)] [(2,_),(3,_)] (λi=>[(7,vI i)]) (λ_=>[]) (λi=>i<=B.prims.length) (λi=>B.prims.length-i) 0 (KV _) ?_;rintro i b;refine aj<|ae (λg=>?_) (λg=>?_)
 ·obtain⟨y,a,c⟩:=az (l:=B.prims) (k:=i)
  refine vm (p:=prP) i a ?_;refine vm (p:=prP) i a ?_;refine BY<|vk ?_;refine vi ?_;exact au (i+1) (by show i+1<=_;omega)
 ·exact aF
theorem wD':VC prog 5 [] (.bool true):=VC.of ⟨⟨_,func5,rfl,UO⟩,λw C c hS d=>by
 obtain rfl:c=[]:=List.length_eq_zero_iff.1 d.1;exact((P9 w).2).mono λe g ⟨f,a⟩=>⟨_,C,f,.bool _,⟨hS.tr a,λ_ _ _ h=>h,λb o v h=>.inl ⟨o,v,h⟩,a⟩⟩⟩
theorem Ia{B:ak}{lim:Int}(c:0<=lim/\lim<=100000)(h:oI B lim<lim):dh B:=by
 unfold oI at h;have a:=HU (lim:=lim) Uo B.ents ((B.orders.length:Int)+(B.prims.length:Int));obtain⟨d,b⟩:=a.2 Uo Uo;exact⟨Uo,Uo,Uo,b⟩
theorem Qw{B:ak}(b:BoI B)(en fuel:Int):VC prog 3 [bk B,pI en,pI fuel] (.bool true):=by
 refine vf 68 [.tmp 6] τok func3 ?_;refine af wD' ?_;refine af (HV b.lm (lid:=3000) UO) ?_;refine ae (λg=>?_) (λg=>?_)
 ·exact aF
 have g:¬ oI B 3000≥3000:=g;have hS:=Ia (B:=B) (lim:=3000) UO Uo;refine ae (λh=>?_) (λh=>?_)
 ·exact aF
 have c:=BG b hS en fuel;have d:=H9 hS en fuel;refine af (A7 hS en) ?_;refine af (Qd hS en) ?_
 generalize ka B en=p
 obtain⟨f,a⟩:=p
 generalize famTop B en fuel=q at *
 rcases q with e|q
 ·refine af c ?_
  refine af d ?_;cases f
  all_goals
   refine vy (p:=a=a) ?_ rfl;refine vy (p:=(0:Int)=0) ?_ rfl;refine vy (p:=e=e) ?_ rfl;exact aF
 ·refine af c ?_
  refine af d ?_;cases f
  all_goals
   refine vy (p:=a=a) ?_ rfl;refine vy (p:=(q.2:Int)=q.2) ?_ rfl;refine vy (p:=(0:Int)=0) ?_ rfl;exact aF
theorem Qx{w:World}{B:ak}{v:Value}(a:BoV (Im [] w) B v)(en fuel:Int):Calls prog 3 #[v,.int .i64 en,.int .i64 fuel] w (λe w'=>e= .returned (.bool true)/\Kp [] w w'):=
 ((Qw a.boi en fuel).run.2 w _ [v,.int .i64 en,.int .i64 fuel] (Im.sub [] w) (dF a.rv (dF (.int _ _) (dF (.int _ _) mg)))).mono λe w' ⟨u,f,b,c,d⟩=>⟨by cases c;exact b,d.kp⟩
theorem Qy{B:ak}(d:BoI B)(en:Int):VC prog 4 [bk B,pI en] (.bool true):=by
 refine vf 78 [.tmp 4] τok func4 ?_;refine af wD' ?_;refine af (HV d.lm (lid:=3000) UO) ?_;refine ae (λg=>?_) (λg=>?_)
 ·exact aF
 have g:¬ oI B 3000≥3000:=g;have hS:=Ia (B:=B) (lim:=3000) UO Uo;have t:=aq bI B.ents;have m:=hS.e;have f:=BG d hS en 200;have h:=H9 hS en 200;refine af (Qr hS) ?_
 generalize famTop B en 200=q at *
 obtain⟨n,e,o⟩:∃n e:Int,tO q= .tup [pI n,pI e]:=by
  rcases q with e|q
  ·exact⟨0,e,rfl⟩
  ·exact⟨q.2,0,rfl⟩
 rw[o]at f h;refine af f ?_;refine af (A7 hS en) ?_;refine af h ?_;refine af (Qv hS) ?_;refine aB τok (σ:=Nat) [(2,_),(5,_),(6,_),(7,_),(8,_),(9,_),(10,_)] [(2,_),(5,_)] (λi=>[(11,vI i)]) (λ_=>[]) (λi=>i<=B.ents.length) (λi=>B.ents.length-i) 0 (KV _) ?_;intro i u;refine aj<|ae (λg=>?_) (λg=>?_)
 ·have g:(i:Int)<((B.ents.map bI).length:Int):=g
  refine vy (p:=(i:Int)<((B.ents.map bI).length:Int)) ?_ g;obtain⟨x,c,_⟩:=az (l:=B.ents) (k:=i);have r:=(hS.x x (JQ c)).s;have j:=qv (a:=x.sort) (b:=x.sort) Uo Uo;rw[KU rfl]at j;refine cS i c ?_;refine cS i c ?_;refine af j ?_;refine vk ?_;refine vi ?_;exact au (i+1) Uo
 ·refine vy (p:=n=n) ?_ rfl
  refine vy (p:=e=e) ?_ rfl;exact aF
theorem wE'{w:World}{B:ak}{v:Value}(a:BoV (Im [] w) B v)(en:Int):Calls prog 4 #[v,.int .i64 en] w (λe w'=>e= .returned (.bool true)/\Kp [] w w'):=
 ((Qy a.boi en).run.2 w _ [v,.int .i64 en] (Im.sub [] w) (dF a.rv (dF (.int _ _) mg))).mono λe w' ⟨u,f,b,c,d⟩=>⟨by cases c;exact b,d.kp⟩
end Go.Q
namespace Go.Q
open Go.ChangeShapes Go.WideShapes Go.ChangeAt Go.RowKit
section
variable{H:Type}{enc:TypeId×Value ->H}{w:World}{spare:Nat ->Bool}{held:Bool}
theorem Qz{r:Reach}{l:Nat}{v:Value}{d:DataW H}{m:List MemPlace}(a:Value.okWide prog w r l 26 v)(h:DataW.Trod enc prog w 0 spare held 26 v d m)(hB:Rows.uptoBulk d<=1048576):
  ∃x,BoV (Im [] w) x v:=by
 obtain⟨c,rfl,n⟩:=okWide_struct underlying26 a;obtain⟨g,e⟩:=h;have f:c.size=5:=by rw[n];kernel_rfl
 obtain⟨x,i,j,k,p,y,z,q,s,t⟩:=P5 (cs:=c.toList) (by simpa using f) (by simpa[Value.cells]using e) hB;have u:c= #[.int .i64 x.vars,i,j,.int .i64 x.nat,k]:=by
  have:=KG List.toArray p
  simpa using this
 subst u;exact⟨x,BoV.mono (C:=Old w) ⟨i,j,k,rfl,q,s,t⟩ λb o v h=>⟨Old.sub w _ _ _ h,Ud⟩⟩
end
end Go.Q
