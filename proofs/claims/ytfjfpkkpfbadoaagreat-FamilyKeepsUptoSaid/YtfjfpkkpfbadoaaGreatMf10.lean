import Derived.Test.YtfjfpkkpfbadoaaGreatMf09
set_option linter.all false
set_option maxHeartbeats 4000000
open Go.Proofs Go.Proofs.Tryz Cd Go.Wx Lv Tm
namespace Go.Q
def sO(C:Mem)(w:World)(bj:Nat)(B:ak)(n:Nat):Prop:=
 ∃v1 v2 v3,Bk w.heap bj [iV B.vars,v1,v2,iV B.nat,v3,iV (n:Int)] 180/\SV rOr C B.orders v1/\SV rEn C B.ents v2/\SV rPr C B.prims v3
def Mu{α:Type}(D:World ->α ->Value ->Prop)(X:List Nat)(w:World)(bj:Nat)(B:ak)(r:Except Int (α×Nat))(e:Ending)(w':World):Prop:=
 (match r with
  | .ok q=>∃u,e= .returned u/\D w' q.1 u/\sO (Im X w') w' bj B q.2
  | .error er=>e= .panicked (fd er))/\Kp [bj] w w'
def DSp(X:List Nat)(w':World)(x:Tr)(u:Value):Prop:=∃h a,u= .tuple #[h,a]/\TmV (Im X w') (headT x) h/\TmsV (Im X w') (argsT x) a
def Mt(k:Nat)(t:Tr):Prop:=∀m∈row t,m.op=11 ->m.a<(k:Int)
def FF(B:ak)(g:Nat)(rc:RcJ):Prop:=∀(X:List Nat) (w:World) (bj:Nat) (cx:Ctx) (k:Nat) (t:Tr) (n:Nat) (vc v:Value),(XL X w) ->bj∈X ->CxOk B cx ->cx.length<=260 ->sO (Im X w) w bj B n ->n<=100000 ->
 Ft (QB B) (cx.length:Int) t ->Mt k t ->k*5000+(row t).length<=g ->SV rBd (Im X w) (cx.map aE) vc ->TmV (Im X w) t v ->
 CC 77 #[pt bj,vc,v] w (Mu (λw' x u=>TmV (Im X w') x u) X w bj B (rc cx t n))
def DSo(X:List Nat)(w':World)(q:Int×List Atom)(u:Value):Prop:=∃a c,u= .tuple #[iV q.1,.slice a q.2.length c]/\Sl rAt (Im X w') a q.2
def PaP(C:Mem)(w:World)(r:Except Int Tr)(e:Ending)(w':World):Prop:=
 (match r with
  | .ok z=>∃u,e= .returned u/\TmV (Cn C w w') z u
  | .error er=>e= .panicked (fd er))/\Kp [] w w'
structure MoS where
 i:Nat
 cx:Ctx
 m:Tr
 n:Nat
 vc:Value
 vm:Value
theorem FG{B:ak}{i:Nat}{s:Int}{N:Int}{y:Tr}(h:Ft (cr B i s) N y):Mt i y:=λm b a=>by
 have:=h.al m b;simp[cr,aY,a,bF]at this;exact this.2.1
theorem vO(l:List Tr)(y:Tr):cV (l++[y])=cV l++[(y,none)]:=by simp[cV]
theorem sP(l:List Tr):(cV l).length=l.length:=by simp[cV]
theorem z7{B:ak}{l:List Tr}(h:∀(k:Nat) y,l[k]?=some y ->Ft (QB B) (k:Int) y):CxOk B (cV l):=λi q a=>by
 unfold cV at a;rw[JX]at a;obtain⟨y,b,rfl⟩:=Option.map_eq_some_iff.1 a;exact⟨h i y b,λx c=>by cases c⟩
theorem Mt.kid{k:Nat}{t y:Tr}(h:Mt k t)(i:y∈kidsT t):Mt k y/\(row y).length<(row t).length:=by
 obtain⟨n,d⟩:=t;have e:∀(l:List Tr) (z:Tr),z∈l ->(∀m∈row z,m∈rows l)/\(row z).length<=(rows l).length:=by
  intro l
  induction l with
  |nil=>intro z b;cases b
  |cons a l w=>
   intro z b;rcases List.mem_cons.1 b with rfl|b
   ·exact⟨λm c=>by simp[rows,c],by simp[rows]⟩
   ·obtain⟨j,q⟩:=w z b
    exact⟨λm c=>by simp[rows,j m c],by simp[rows];omega⟩
 have o:row (.mk n d)=n::rows d:=by simp[row]
 have p:∀z∈d,(∀m∈row z,m∈row (.mk n d))/\(row z).length<(row (.mk n d)).length:=λz b=>by
  obtain⟨j,q⟩:=e d z b;rw[o];exact⟨λm c=>List.mem_cons_of_mem _ (j m c),Uk⟩
 have f:(∀m∈row y,m∈row (.mk n d))/\(row y).length<(row (.mk n d)).length:=by
  simp only[kidsT]at i;split at i
  ·simp at i
  split at i
  ·obtain⟨z,b,g⟩:=List.mem_flatMap.1 i
   obtain⟨j,q⟩:=p z b;obtain⟨v,r⟩:=z;have g:y∈r:=g;obtain⟨x,A⟩:=e r y g;have s:row (.mk v r)=v::rows r:=by simp[row]
   rw[s]at j q;exact⟨λm c=>j m (List.mem_cons_of_mem _ (x m c)),by simp at q;omega⟩
  ·exact p y i
 exact⟨λm c u=>h m (f.1 m c) u,f.2⟩
theorem Mv{f:Tr}{i:Nat}(hi:i<f.n.b.toNat):(bv f).take (i+1)=(bv f).take i++[(aG (kidD f (2*i)) i 0,none)]:=dP (zM hi)
theorem oj{α β:Type}{q:α×Nat}{k:α ->Nat ->Except Int (β×Nat)}:aQ (.ok q) k=k q.1 q.2:=rfl
def z8{β:Type}(r:Except Int β)(ok:β ->Prop)(er:Int ->Prop):Prop:=match r with
 | .ok q=>ok q
 | .error e=>er e
def kV(t:List Nd):Option (Tr×List Nd):=match parse cnt nx t.length .tm t with
 |some (x,r)=>if gF' x=true then some (x,r)else none
 |none=>none
theorem Aa{x:Tr}(a:Ok .tm x)(r:List Nd):kV (row x++r)=some (x,r):=by
 unfold kV;rw[fH' (cnt:=cnt) (nx:=nx) x _ .tm r Ud a.1];simp[a.2]
theorem Ab{t:List Nd}{x:Tr}{r:List Nd}(h:kV t=some (x,r)):t=row x++r/\Ok .tm x:=by
 unfold kV at h;split at h
 ·rename_i y q a
  split at h
  ·rename_i b
   obtain⟨rfl,rfl⟩:y=x/\q=r:=by simpa using h
   obtain⟨c,d⟩:=cX' _ _ _ _ _ a;exact⟨c,d,b⟩
  ·cases h
 ·cases h
theorem Mw{x y:Tr}{r s:List Nd}(b:Ok .tm x)(c:Ok .tm y)(h:row x++r=row y++s):x=y/\r=s:=by
 have a:=Aa b r;rw[h,Aa c s]at a;simp only[QZ,Prod.mk.injEq]at a;exact⟨a.1.symm,a.2.symm⟩
theorem vQ{t:List Nd}{a:Nat}(ha:a<=t.length):endS t .tm a=(kV (t.drop a)).map λq=>t.length-q.2.length:=by
 unfold endS kV;rw[Ct (cnt:=cnt) (nx:=nx) (s:=Md.tm) (f:=t.length) (g:=(t.drop a).length) Ud (KJ _)];cases parse cnt nx (t.drop a).length .tm (t.drop a)with
 |none=>rfl
 |some q=>
  obtain⟨x,r⟩:=q;simp only
  by_cases h:gF' x=true
  ·simp[h]
  ·simp[h]
theorem FH{op:Int}:∀{K g:List Tr} {F b:List Nd} {i:Nat},K.length=g.length ->(∀k∈K,Ok .tm k) ->(∀k∈g,Ok .tm k) ->(op=12 ->∀j,i<=j ->j<i+K.length ->∃f l,F[j/2]?=some f/\b[j/2]?=some l) ->cj op F i K=cj op b i g ->K=g/\(op=12 ->∀j,i<=j ->j<i+K.length ->j%2=0 ->F[j/2]?=b[j/2]?)
 |[],[],F,b,i,_,_,_,_,_=>⟨rfl,λ_ j h1 h2=>by simp at h2;omega⟩
 |x::r,y::r',F,b,i,hl,m,d,n,h=>by
  simp only[cj]at h;have hr:(op=12/\i%2=0 ->F[i/2]?=b[i/2]?)/\row x++cj op F (i+1) r=row y++cj op b (i+1) r':=by
   by_cases c:op=12/\i%2=0
   ·obtain⟨f,l,h1,h2⟩:=n c.1 i (KJ _) Ud
    rw[KX c,KX c,h1,h2]at h;simp only[Option.toList,List.cons_append,List.nil_append,List.cons.injEq]at h;exact⟨λ_=>by rw[h1,h2,h.1],h.2⟩
   ·rw[KY c,KY c]at h
    exact⟨λq=>absurd q c,by simpa using h⟩
  obtain⟨rfl,p⟩:=Mw (m x Ud) (d y Ud) hr.2;obtain⟨rfl,s⟩:=FH (by simpa using hl) (λk h=>m k (by simp[h])) (λk h=>d k (by simp[h])) (λa j h1 h2=>n a j Uo Uk) p;refine⟨rfl,λa j h1 h2 o=>?_⟩
  by_cases e:j=i
  ·subst e
   exact hr.1 ⟨a,o⟩
  ·exact s a j Uo (by simp at h2;omega) o
theorem Ac{op:Int}{F:List Nd}{y:Tr}:∀(K:List Tr) (i:Nat),cj op F i (K++[y])=cj op F i K++((if op=12/\(i+K.length)%2=0 then (F[(i+K.length)/2]?).toList else [])++row y)
 |[],i=>by simp[cj]
 |x::r,i=>by
  simp only[List.cons_append,cj,Ac r (i+1),JV,List.append_assoc];rw[show i+1+r.length=i+(r.length+1) by omega]
theorem FI{op:Int}{F b:List Nd}:∀(K:List Tr) (i:Nat),(op=12 ->∀j,i<=j ->j<i+K.length ->j%2=0 ->F[j/2]?=b[j/2]?) ->cj op F i K=cj op b i K
 |[],i,_=>rfl
 |x::r,i,h=>by
  simp only[cj];rw[FI r (i+1) λa j h1 h2 h3=>h a j Uo Uk h3]
  by_cases hc:op=12/\i%2=0
  ·rw[KX hc,KX hc,h hc.1 i (KJ _) Ud hc.2]
  ·rw[KY hc,KY hc]
def iN(t:List Nd)(n:Nd)(i a:Nat):Option Nat:=
 if n.op=12 then (if i%2=0 then gL t .fn (n.b.toNat-i/2) a else (endS t .tm a).bind (gL t .fn (n.b.toNat-(i+1)/2)))
 else gL t .tm ((bD n).toNat-i) a
def z6P:PV:=.agg [pI 0,pI 0,pI 0,.sl [],.sl [],.sl []]
theorem FJ{x:Tr}(t:Ok .tm x){j:Nat}{y:Tr}(d:(kidsT x)[j]?=some y):Ok .tm y:=by
 obtain⟨n,a⟩:=x;obtain⟨u,k,s⟩:=t.kids;obtain⟨C,D,v,w⟩:=eS u
 by_cases m:n.op=2
 ·simp[kidsT,m]at d
 ·by_cases b:n.op=12
  ·have e:kidsT (.mk n a)=a.flatMap (·.ks):=by simp[kidsT,b]
   rw[e]at d;have l:∀(i:Nat) f,a[i]?=some f ->Ok .fn f:=λi f l=>⟨by
    have:=iW a 0 i f k l
    rwa [show nx Md.tm n (0+i)= .fn by simp[nx,m,b]]at this,dD' a i f s l⟩
   obtain⟨f,o,c⟩:=xc' a (λf z=>by
    obtain⟨i,p⟩:=JH z;obtain⟨g,A,B,rfl,_⟩:=(l i f p).fn
    rfl) j y d
   obtain⟨g,A,B,rfl,_,_,q,r⟩:=(l _ f o).fn;simp only[Tr.ks]at c;rcases(show j%2=0 \/j%2=1 by omega)with h|h<;>rw[h]at c
   ·obtain rfl:=JB c;exact q
   ·obtain rfl:=JB c;exact r
  ·have e:kidsT (.mk n a)=a:=by simp[kidsT,m,b]
   rw[e]at d;have:=iW a 0 j y k d;rw[show nx Md.tm n (0+j)= .tm by simp[nx,m,b]]at this;exact⟨this,dD' a j y s d⟩
def hY(t:List Nd):PV:=match kV t with
 |some (x,r)=>.tup [bB x,pI ((t.length-r.length:Nat):Int),.bool true]
 |none=>.tup [z6P,pI 0,.bool false]
theorem Ad{t:List Nd}(h:endS t .tm 0=none):PV.tup [z6P,pI 0,.bool false]=hY t:=by
 rw[vQ Uo,List.drop_zero]at h;unfold hY;cases a:kV t with
 |none=>rfl
 |some q=>rw[a]at h;cases h
theorem FK{t:List Nd}{e:Nat}(h:endS t .tm 0=some e):∃x,Ok .tm x/\t=row x++t.drop e/\(row x).length=e/\hY t= .tup [bB x,pI (e:Int),.bool true]:=by
 rw[vQ Uo,List.drop_zero]at h;unfold hY;cases a:kV t with
 |none=>rw[a]at h;cases h
 |some q=>
  obtain⟨x,r⟩:=q;rw[a]at h;obtain⟨b,d⟩:=Ab a;simp only[Option.map_some,QZ]at h;have f:=KG List.length b;rw[JK]at f;have c:(row x).length=e:=Uo
  refine⟨x,d,?_,c,by simp only[h]⟩;rw[<- c]
  conv=>lhs;rw[b]
  conv=>rhs;rw[b,List.drop_left]
theorem Mx{n:Nd}{r:List Nd}(h:aH n=false):endS (n::r) .tm 0=none:=by
 refine ud _ _ λm a=>?_;obtain rfl:n=m:=by simpa using a
 simp only[cnt];rw[KY];rintro⟨b,c,d⟩;simp[aH,b,c,d]at h
theorem My{n:Nd}{r:List Nd}{x:Tr}(d:Ok .tm x)(h2:n.op=2){e:Nat}(h:n::r=row x++(n::r).drop e)(he:(row x).length=e):bB x= .agg (fL n [] ((r.take (e-1)).map ndP) []):=by
 have a:=iH d;rw[a]at h;obtain⟨b,h⟩:=List.cons.inj h;have c:kidsT x=[]:=by
  obtain⟨m,g⟩:=x;obtain rfl:n=m:=b;simp[kidsT,h2]
 have f:funsT x=[]:=KY (by rw[<- b,h2];decide);rw[c]at h a;simp only[cj,JD]at h a;rw[a]at he;have:atmsT x=r.take (e-1):=by
  rw[h,<- he,JV,Nat.add_sub_cancel];exact List.take_left.symm
 show PV.agg (fL _ _ _ _)=_;rw[c,f,this,<- b]
 rfl
theorem qu{x:Tr}(u:Ok .tm x):((kidsT x).length:Int)=bD x.n/\aH x.n=true/\(x.n.op=12 ->2*(funsT x).length=(kidsT x).length):=by
 obtain⟨n,b⟩:=x;obtain⟨v,j,g⟩:=u.kids;obtain⟨c,w,d,l⟩:=eS v;have z:=nA c;have A:=dn c;have m:aH n=true:=by simp[aH,c,w,d]
 show ((kidsT (.mk n b)).length:Int)=bD n/\aH n=true/\(n.op=12 ->2*(funsT (.mk n b)).length=(kidsT (.mk n b)).length)
 by_cases i:n.op=2
 ·have e:kidsT (.mk n b)=[]:=by simp[kidsT,i]
  rw[e];exact⟨by simp[bD,i],m,λh=>absurd h Uo⟩
 ·rw[KY i]at l
  by_cases a:n.op=12
  ·have s:aI n.b 1 4=true:=by simp[aw,a]at c;exact c.1
   have s:=dI.1 s;have o:bw n=n.b:=by simp[bw,a]
   have p:∀(r:List Tr) (k:Nat),bH cnt nx r n .tm k ->eV' r=true ->(r.flatMap (·.ks)).length=2*r.length:=by
    intro r
    induction r with
    |nil=>intros;rfl
    |cons y r B=>
     intro k o g;obtain⟨t,_,_⟩:=kt o g;rw[show nx Md.tm n 0= .fn by simp[nx,a]]at t;obtain⟨f,D,E,rfl,_⟩:=t.fn;simp only[List.flatMap_cons,JK,JV];rw[B (k+1) o.2 (oK g).2];simp[Tr.ks];omega
   have e:kidsT (.mk n b)=b.flatMap (·.ks):=by simp[kidsT,a]
   have C:funsT (.mk n b)=b.map (·.n):=KX a;rw[e,C,p b 0 j g,KF];refine⟨?_,m,λ_=>rfl⟩;have q:IntKind.i64.wrap (2*n.b)=2*n.b:=by rw[IntKind.wrap_i64];omega
   simp[bD,a,q];omega
  ·have e:kidsT (.mk n b)=b:=by simp[kidsT,i,a]
   rw[e];refine⟨?_,m,λh=>absurd h a⟩;have q:IntKind.i64.wrap (2+n.b)=2+n.b:=by rw[IntKind.wrap_i64];omega
   have:bw n=bD n:=by
    simp only[bw,bD,a,d,if_false,q,or_false]
    repeat' split
    all_goals first|rfl|omega
   omega
theorem Mz{n:Nd}{r:List Nd}{x:Tr}{K:List Tr}{F:List Nd}(f:Ok .tm x)(h2:n.op≠2){e:Nat}(h:n::r=row x++(n::r).drop e)(he:(row x).length=e)(p:∀k∈K,Ok .tm k)(hl:(K.length:Int)=bD n)(l:n.op=12 ->2*F.length=K.length)(g:n.op≠12 ->F=[])(b:(n::r).take e=n::cj n.op F 0 K):bB x= .agg (fL n (K.map trP) [] (F.map ndP)):=by
 have m:=iH f;have c:n=x.n:=by
  rw[m]at h;exact(List.cons.inj h).1
 have q:(n::r).take e=row x:=by
  conv=>lhs;rw[h]
  rw[<- he,List.take_left]
 have o:atmsT x=[]:=KY (by rw[<- c];exact h2);obtain⟨s,_,d⟩:=qu f;rw[<- c]at s d;rw[q,m,o,<- c]at b;have b:=(List.cons.inj b).2;rw[List.nil_append]at b;obtain⟨t,u⟩:=FH Uo (λk v=>by
  obtain⟨j,i⟩:=JH v;exact FJ f i) p (λa j _ i=>⟨_,_,List.getElem?_eq_getElem (by have:=d a;omega),List.getElem?_eq_getElem (by have:=l a;have:=d a;omega)⟩) b
 have w:funsT x=F:=by
  by_cases a:n.op=12
  ·have:=d a
   have:=l a;refine List.ext_getElem? λj=>?_
   by_cases i:j<F.length
   ·have:=u a (2*j) Uo Uo Uo
    rwa [show 2*j/2=j by omega]at this
   ·rw[QF Uo,QF Uo]
  ·rw[g a]
   exact KY (by rw[<- c];exact a)
 show PV.agg (fL _ _ _ _)=_;rw[t,w,o,<- c]
 rfl
def ol(t:List Nd)(i:Nat):Int:=if i=0 then -1 else ((t[i]?).map (·.a)).getD 0
theorem MA{n:Nd}{r:List Nd}(h2:n.op=2)(t:aw n=true)(F:(n::r).length<=1000000):VC prog 74 [ah (n::r)] (hY (n::r)):=by
 have f:=Cz (n::r) (a:=0) (n:=n) rfl h2 t;have U:=dn t;have u:aH n=true:=by simp[aH,t,h2]
 have v:bD n=0:=by simp[bD,h2]
 have b:gM (n::r) n.b.toNat (-1) (0+1)=none ->PV.tup [z6P,pI 0,.bool false]=hY (n::r):=λh=>Ad (by rw[f,h]);have H:=zm n;rw[u,v]at H;have K:=aq ndP (n::r);refine vf 183 [.cell 2 60,.tmp 3,.tmp 4] τok func74 ?_;refine vn ?_ (by rw[K,JV];omega);refine vm 0 rfl ?_;refine af H ?_;refine vm 0 rfl ?_;refine vm 0 rfl ?_;refine vy ?_;refine kJ 7 4 1001 47 3 rfl rfl rfl UO<|aB τok (σ:=Nat) [(0,_),(2,_),(3,_),(4,_),(5,_),(7,_)] [(2,_)] (λi=>[(8,vI ((1+i:Nat):Int)),(9,vI i)]) (λi=>[(7,.st 0 60 [.p (pI n.op),.p (pI n.a),.p (pI n.b),.p (.raw (.slice none 0 0)),.row 1001,.p (.raw (.slice none 0 0))]),(1001,.rw 47 3 ((r.take i).map ndP))]) (λi=>i<=n.b.toNat/\i<=r.length/\gM (n::r) n.b.toNat (-1) (0+1)=gM (n::r) (n.b.toNat-i) (ol (n::r) i) (1+i)) (λi=>n.b.toNat-i) 0 ⟨KV _,KV _,rfl⟩ ?_;rintro i ⟨V,L,k⟩;rw[k]at f b;refine aj<|vm 0 rfl ?_;refine ae (λg=>?_) (λg=>?_)
 ·obtain⟨c,w⟩:∃c,n.b.toNat-i=c+1:=⟨n.b.toNat-i-1,Uo⟩
  rw[w]at f b k;simp only[gM]at f b k;refine ae (λM=>?_) (λM=>?_)
  ·rw[QF Uo]at b
   exact vk ⟨_,_,rfl,rfl,b rfl⟩
  ·obtain⟨m,d⟩:∃m,(n::r)[1+i]?=some m:=⟨_,gE⟩
   rw[d]at b k;simp only at b k;refine vm (1+i) d ?_;refine ae (λj=>?_) (λj=>?_)
   ·exact vk ⟨_,_,rfl,rfl,b (KY λq=>j q.1)⟩
   have j:m.op=3:=Uo
   refine vm (1+i) d ?_;refine bN (jd _ _ _) (λo=>?_) (λo=>?_)
   ·refine vm (1+i) d ?_
    refine bN (jd _ _ _) (λy=>?_) (λy=>?_)
    ·have z:aw m=true:=by simp[aw,j,o,y]
     have A:ol (n::r) i<m.a ->gM (n::r) n.b.toNat (-1) (0+1)=gM (n::r) (n.b.toNat-(i+1)) (ol (n::r) (i+1)) (1+(i+1)):=λN=>by
      rw[k,KX ⟨j,z,N⟩,show n.b.toNat-(i+1)=c by omega];have e:ol (n::r) (i+1)=m.a:=by
       unfold ol;rw[KY Uo,Nat.add_comm i 1,d]
       rfl
      rw[e]
      rfl
     have I:(r.take i).map ndP++[ndP m]=(r.take (i+1)).map ndP:=by
      have B:r[i]?=some m:=by rwa [Nat.add_comm,List.getElem?_cons_succ]at d
      rw[QQ,B];simp
     refine ae (λO=>?_) (λO=>?_)
     ·obtain⟨p,s⟩:∃p,(n::r)[i]?=some p:=⟨_,List.getElem?_eq_getElem (by rw[JV];omega)⟩
      have C:ol (n::r) i=p.a:=by unfold ol;rw[KY Uo,s];rfl
      rw[C]at b A;refine vm (1+i) d ?_;refine vi ?_;refine vm i s ?_;refine ae (λP=>?_) (λP=>?_)
      ·exact vk ⟨_,_,rfl,rfl,b (KY λq=>by have:=q.2.2;omega)⟩
      ·refine vk ?_
       refine vm (1+i) d ?_;refine bg ?_;refine vk ?_;refine vi ?_;refine vi ?_;exact au (i+1) ⟨Uo,by have:=aL d;rw[JV]at this;omega,A Uo⟩ (sw 1001 101) (y':=⟨rfl,KG (λl=>some (SE.rw _ _ l)) I,trivial⟩)
     ·refine vk ?_
      refine vm (1+i) d ?_;refine bg ?_;refine vk ?_;refine vi ?_;refine vi ?_;exact au (i+1) ⟨Uo,by have:=aL d;rw[JV]at this;omega,A (by rw[ol,KX Uo];have:=dI.1 o;omega)⟩ (sw 1001 101) (y':=⟨rfl,KG (λl=>some (SE.rw _ _ l)) I,trivial⟩)
    ·exact vk ⟨_,_,rfl,rfl,b (KY λq=>by simp[aw,j,o,y]at q)⟩
   ·exact vk ⟨_,_,rfl,rfl,b (KY λq=>by simp[aw,j,o]at q)⟩
 ·rw[show n.b.toNat-i=0 by omega]at f
  simp only[gM]at f;obtain⟨x,R,S,D,T⟩:=FK f;have E:=My R h2 S D;refine aB τok (σ:=Unit) [(2,_),(3,_),(4,_),(5,_),(7,_),(8,_)] [(2,_),(7,_),(1001,_)] (λ_=>[(10,vI 0)]) (λ_=>[]) (λ_=>True) (λ_=>0) () VQ ?_;rintro _ _;refine aj<|vn ?_;exact aF (h3:=by rw[T,E,show 1+i-1=i by omega];rfl)
theorem sQ(t:List Nd)(s:Md)(c a:Nat):gL t s (c+1) a=(endS t s a).bind (gL t s c):=by
 simp only[gL];cases endS t s a<;>rfl
theorem FL{t:List Nd}{n:Nd}{i a:Nat}(h:n.op=12 ->i%2=1)(hi:(i:Int)<bD n)(hb:n.op=12 ->bD n=2*n.b/\0<=n.b):iN t n i a=(endS t .tm a).bind (iN t n (i+1)):=by
 unfold iN
 by_cases c:n.op=12
 ·have:=h c
  rw[KX c,KY Uo]
  congr 1
  funext b
  rw[KX c,KX Uo]
 ·rw[KY c,show (bD n).toNat-i=(bD n).toNat-(i+1)+1 by omega,sQ]
  congr 1
  funext b
  rw[KY c]
theorem MC{t:List Nd}{n f:Nd}{i a:Nat}(b:n.op=12)(h:i%2=0)(hi:(i:Int)<bD n)(hb:n.op=12 ->bD n=2*n.b/\0<=n.b)(g:t[a]?=some f)(d:f.op=13)(j:aw f=true):iN t n i a=(endS t .tm (a+1)).bind (iN t n (i+1)):=by
 obtain⟨l,m⟩:=hb b;unfold iN;rw[KX b,KX h,show n.b.toNat-i/2=n.b.toNat-(i+1+1)/2+1 by omega,sQ,ri t .fn g (c:=2) (by simp[cnt,d,j]) (λe=>by cases e) (s':=.tm) (λk=>rfl) Uo,sQ t .tm 1];cases endS t .tm (a+1)with
 |none=>rfl
 |some e=>
  simp only[Option.bind_some,KX b];rw[KY Uo,sQ t .tm 0];cases endS t .tm e<;>rfl
theorem FM{t:List Nd}{n:Nd}{i a:Nat}(b:n.op=12)(h:i%2=0)(hi:(i:Int)<bD n)(hb:n.op=12 ->bD n=2*n.b/\0<=n.b)(c:∀f,t[a]?=some f ->¬ (f.op=13/\aw f=true)):iN t n i a=none:=by
 obtain⟨d,e⟩:=hb b;unfold iN;rw[KX b,KX h,show n.b.toNat-i/2=n.b.toNat-(i+1+1)/2+1 by omega,sQ,ud t .fn λf h=>by
  simp only[cnt];rw[KY (c f h)]]
 rfl
theorem ME(t:List Nd)(a:Nat):PV.sl (((t.map ndP).take (t.map ndP).length).drop a)=ah (t.drop a):=by
 rw[List.take_length,<- List.map_drop]
 rfl
theorem MF{n:Nd}{r:List Nd}(h2:n.op≠2)(B:aH n=true)(a5:(n::r).length<=1000000)(ih:∀a,1<=a ->a<=(n::r).length ->VC prog 74 [ah ((n::r).drop a)] (hY ((n::r).drop a))):VC prog 74 [ah (n::r)] (hY (n::r)):=by
 have u:aw n=true/\n.op≠3/\n.op≠13:=by simpa[aH]using B
 obtain⟨u,h3,v⟩:=u;have U:=dn u;have o:n.op=12 ->bD n=2*n.b/\0<=n.b:=λb=>by
  have C:IntKind.i64.wrap (2*n.b)=2*n.b:=by rw[IntKind.wrap_i64];omega
  exact⟨by simp[bD,b,C],U.1⟩
 have a6:0<=bD n/\bD n<=100:=by
  have hk:=nA u
  by_cases b:n.op=12
  ·have:=o b
   have:aI n.b 1 4=true:=by simp[aw,b]at u;exact u.1
   have:=dI.1 this;omega
  ·have C:IntKind.i64.wrap (2+n.b)=2+n.b:=by rw[IntKind.wrap_i64];omega
   have:bw n=bD n:=by
    simp only[bw,bD,b,v,if_false,C,or_false]
    repeat' split
    all_goals first|rfl|omega
   omega
 have hE:endS (n::r) .tm 0=iN (n::r) n 0 1:=by
  have D:cnt .tm n=some (bw n).toNat:=by simp[cnt,u,h3,v,h2]
  unfold iN
  by_cases b:n.op=12
  ·have:=o b
   rw[KX b,KX UO,ri (n::r) .tm (a:=0) (n:=n) rfl D (λ_=>h2) (s':=.fn) (λk=>by simp[nx,b]) h2]
   congr 1
   simp[bw,b]
  ·rw[KY b,ri (n::r) .tm (a:=0) (n:=n) rfl D (λ_=>h2) (s':=.tm) (λk=>by simp[nx,b,h2]) h2]
   have C:IntKind.i64.wrap (2+n.b)=2+n.b:=by rw[IntKind.wrap_i64];omega
   have:bw n=bD n:=by
    simp only[bw,bD,b,v,if_false,C,or_false]
    repeat' split
    all_goals first|rfl|omega
   rw[this]
   rfl
 have D:=zm n;rw[B]at D;have eL:=aq ndP (n::r);have eC:(n::r).length=r.length+1:=rfl;refine cN 183 [.cell 2 60,.tmp 3,.tmp 4] τok func74 ?_;refine aj<|vn ?_;refine vm 0 rfl ?_;refine af D ?_;refine vm 0 rfl ?_;refine vm 0 rfl ?_;refine vn ?_;refine kJ 7 3 1000 60 6 rfl rfl rfl UO<|kJ 7 5 1002 47 3 rfl rfl rfl UO<|aB τok (σ:=Nat×Nat×List Tr×List Nd) [(0,_),(2,_),(3,_),(4,_),(5,_),(7,_)] [(2,_)] (λq=>[(8,vI (q.2.1:Int)),(10,vI q.1)]) (λq=>[(7,.st 0 60 [.p (pI n.op),.p (pI n.a),.p (pI n.b),.row 1000,.p (.raw (.slice none 0 0)),.row 1002]),(1000,.rw 60 6 (q.2.2.1.map trP)),(1002,.rw 47 3 (q.2.2.2.map ndP))])
  (λq=>(q.1:Int)<=bD n/\1<=q.2.1/\q.2.1<=(n::r).length/\endS (n::r) .tm 0=iN (n::r) n q.1 q.2.1/\q.2.2.1.length=q.1/\(∀k∈q.2.2.1,Ok .tm k)/\(n.op=12 ->q.2.2.2.length=(q.1+1)/2)/\(n.op≠12 ->q.2.2.2=[])/\(n::r).take q.2.1=n::cj n.op q.2.2.2 0 q.2.2.1) (λq=>(bD n).toNat-q.1) (0,1,[],[]) ⟨Us,UO,Ud,hE,rfl,Ud,λ_=>rfl,λ_=>rfl,by simp[cj]⟩ ?_
 rintro⟨i,a,K,F⟩ ⟨g1,V,W,M,N,X,E,O,P⟩;simp only at g1 V W M N X E O P;have R:iN (n::r) n i a=none ->PV.tup [z6P,pI 0,.bool false]=hY (n::r):=λh=>Ad (by rw[M,h]);refine aD<|ae (λg=>?_) (λg=>?_)
 ·refine VCode.seq (VCode.blk ?_)
  refine dd τok (σ:=Nat×List Nd) [(0,_),(2,_),(3,_),(4,_),(5,_),(7,_),(10,_)] [(2,_),(1000,_)] (λq=>[(8,vI (q.1:Int))]) (λq=>[(7,.st 0 60 [.p (pI n.op),.p (pI n.a),.p (pI n.b),.row 1000,.p (.raw (.slice none 0 0)),.row 1002]),(1002,.rw 47 3 (q.2.map ndP))])
   (λq=>1<=q.1/\q.1<=(n::r).length/\iN (n::r) n i a=(endS (n::r) .tm q.1).bind (iN (n::r) n (i+1))/\(n.op=12 ->q.2.length=(i+2)/2)/\(n.op≠12 ->q.2=[])/\∀y,(n::r).take q.1++row y=n::cj n.op q.2 0 (K++[y])) ?_ ?_
  ·have t:∀y,(n::r).take a++((if n.op=12/\i%2=0 then (F[i/2]?).toList else [])++row y)=n::cj n.op F 0 (K++[y]):=λy=>by
    rw[Ac,P,KW,N];simp
   refine vm 0 rfl ?_;refine ae (λb=>?_) (λb=>?_)
   ·refine pT Uo Uo Uo ?_
    refine ae (λS=>?_) (λS=>?_)
    ·refine ae (λq1=>?_) (λq1=>?_)<;>simp only at q1
     ·exact⟨_,_,rfl,rfl,R (FM b Uo g o λf c=>by rw[QF Uo]at c;cases c)⟩
     obtain⟨f,c⟩:∃f,(n::r)[a]?=some f:=⟨_,gE⟩
     have w:¬ (f.op=13/\aw f=true) ->PV.tup [z6P,pI 0,.bool false]=hY (n::r):=λq=>R (FM b Uo g o λf' H=>by rw[c]at H;obtain rfl:=JB H;exact q);refine vm a c ?_;refine ae (λA=>?_) (λA=>?_)
     ·exact⟨_,_,rfl,rfl,w λq=>A q.1⟩
     have A:f.op=13:=Uo
     refine vm a c ?_;refine bN (jd _ _ _) (λT=>?_) (λT=>?_)
     ·refine vm a c ?_
      refine ae (λq4=>?_) (λq4=>?_)
      ·exact⟨_,_,rfl,rfl,w λq=>by simp[aw,A,T,q4]at q⟩
      have Y:aw f=true:=by simp[aw,A,T];omega
      have Z:=MC b Uo g o c A Y;refine vm a c ?_;refine bg ?_;refine vk ?_;refine vi ?_;refine au (a+1,F++[f]) ⟨Us,aL c,Z,λ_=>by simp only[JK,List.length_singleton,E b];omega,λq=>absurd b q,λy=>?_⟩ (sw 1002 157);have a7:=E b;simp only;rw[Ac,<- FI (F:=F) K 0 λ_ j _ hj a8=>by rw[QH Uo],KW,N,KX ⟨b,Uo⟩,QU Uo,QQ,c,P,show i/2-F.length=0 by omega];simp
     ·exact⟨_,_,rfl,rfl,w λq=>by simp[aw,A,T]at q⟩
    ·refine au (a,F) ⟨V,W,FL (λ_=>Uo) g o,λq=>by have:=E q;simp only;omega,O,λy=>?_⟩
     rw[<- t,KY λq=>S (by have:=q.2;simp only;omega)]
     rfl
   ·refine au (a,F) ⟨V,W,FL (λq=>absurd q b) g o,λq=>absurd q b,O,λy=>?_⟩
    rw[<- t,KY λq=>b q.1]
    rfl
  ·rintro⟨d,F'⟩ ⟨m1,m2,m3,m4,m5,m6⟩
   simp only at m1 m2 m3 m4 m5 m6;have e:=ih d m1 m2;rw[<- ME]at e;have s:=vQ m2;have a0:∀x∈(n::r).map ndP,x.length=3:=λx hx=>by
    obtain⟨m,_,rfl⟩:=List.mem_map.1 hx
    rfl
   refine aj<|bO d _ ?_ a0;cases I:kV ((n::r).drop d)with
   |none=>
    rw[I]at s;rw[m3,s]at R;rw[show hY ((n::r).drop d)= .tup [z6P,pI 0,.bool false] by unfold hY;rw[I]]at e;exact af e<|⟨_,_,rfl,rfl,R rfl⟩
   |some q=>
    obtain⟨y,r'⟩:=q;rw[I]at s;rw[show hY ((n::r).drop d)= .tup [bB y,pI ((((n::r).drop d).length-r'.length:Nat):Int),.bool true] by unfold hY;rw[I]]at e;obtain⟨L,a1⟩:=Ab I;have a2:=KG List.length L;rw[JK,VK]at a2;have a9:=aR y;refine af e ?_;refine bg ?_;refine vi ?_ (by rw[VK];omega) (by rw[VK];omega);refine aj<|vi ?_;have e1:(d:Int)+((((n::r).drop d).length-r'.length:Nat):Int)=((d+(row y).length:Nat):Int):=by rw[VK];omega
    refine au (i+1,d+(row y).length,K++[y],F') ⟨Us,Us,Us,?_,by simp[N],λk hk=>?_,λq=>by have:=m4 q;simp only;omega,m5,?_⟩ (sw 1000 176) (x:=⟨KG (λz=>some (vI z)) e1,rfl,trivial⟩) (y':=⟨rfl,KG (λl=>some (SE.rw _ _ l)) (by rw[KB];exact KG (List.map trP K++[·]) (kK y).symm),rfl,trivial⟩)
    ·rw[M,m3,s]
     simp only[Option.map_some,Option.bind_some];rw[show (n::r).length-r'.length=d+(row y).length by omega]
    ·rcases List.mem_append.1 hk with h|h
     ·exact X k h
     ·obtain rfl:=List.mem_singleton.1 h
      exact a1
    ·simp only
     rw[<- m6 y,List.take_add,L,List.take_left]
 ·have S:endS (n::r) .tm 0=some a:=by
   rw[M];unfold iN
   by_cases b:n.op=12
   ·have:=o b
    rw[KX b,KX Uo,show n.b.toNat-i/2=0 by omega]
    rfl
   ·rw[KY b,show (bD n).toNat-i=0 by omega]
    rfl
  obtain⟨x,hx,ht,a3,hr⟩:=FK S;have a4:=Mz hx h2 ht a3 X Uo (λb=>by have:=E b;have:=o b;omega) O P;exact aF (h3:=by rw[hr,a4];rfl)
theorem EZ':∀(N:Nat) (t:List Nd),t.length<=N ->N<=1000000 ->VC prog 74 [ah t] (hY t):=by
 intro N
 induction N with
 |zero=>
  intro t h _;obtain rfl:t=[]:=List.length_eq_zero_iff.1 (by omega);refine vf 183 [.cell 2 60,.tmp 3,.tmp 4] τok func74 ?_;exact⟨_,_,rfl,rfl,rfl⟩
 |succ N e=>
  intro t h f;cases t with
  |nil=>
   refine vf 183 [.cell 2 60,.tmp 3,.tmp 4] τok func74 ?_;exact⟨_,_,rfl,rfl,rfl⟩
  |cons n r=>
   cases b:aH n with
   |false=>
    have c:=zm n;rw[b]at c;have g:=aq ndP (n::r);have eC:(n::r).length=r.length+1:=rfl;refine vf 183 [.cell 2 60,.tmp 3,.tmp 4] τok func74 ?_;refine vn ?_;refine vm 0 rfl ?_;refine af c ?_;exact⟨_,_,rfl,rfl,Ad (Mx b)⟩
   |true=>
    by_cases d:n.op=2
    ·exact MA d (by simp[aH]at b;exact b.1) (by omega)
    ·exact MF d b (by omega) λa i j=>e _ (by rw[VK];omega) (by omega)
end Go.Q
