import Derived.Test.YtdfeclpphaccnaaGreatMs09
set_option linter.all false
set_option maxRecDepth 100000
set_option maxHeartbeats 4000000
open Go.Proofs Go.Proofs.Tryz Cd Go.Wx Lv Tm
namespace Go.Q
def vK(n:Nd)(d:Int):List Tr ->Nat ->List (Int×Int)
 |[],_=>[]
 |y::r,i=>varsT y (d+kb n i) 0++vK n d r (i+1)
def iG(f:Int ->Nd ->Tr)(n:Nd)(d:Int):List Tr ->Nat ->List Tr
 |[],_=>[]
 |y::r,i=>mT f y (d+kb n i) 0::iG f n d r (i+1)
theorem Av{f:Int ->Nd ->Tr}{n:Nd}{d:Int}:∀(l:List Tr) (i:Nat),(iG f n d l i).length=l.length
 |[],_=>rfl
 |y::r,i=>by simp[iG,Av r]
section
variable{x:Tr}{f:Int ->Nd ->Tr}{d:Int}
theorem Aw{n:Nd}{ks:List Tr}(h:Ok .tm (.mk n ks))(a:n.op=12):∀y∈ks,Ok .fn y:=λy i=>by
 obtain⟨l,b,k⟩:=h.kids;obtain⟨j,c⟩:=JH i;have e:=jF ks 0 j y b c;rw[show nx Md.tm n (0+j)= .fn by simp[nx,a]]at e;exact⟨e,dK' ks j y k c⟩
theorem FL{n:Nd}{ks:List Tr}(h:Ok .tm (.mk n ks))(h2:n.op≠2)(a:n.op≠12):∀y∈ks,Ok .tm y:=λy i=>by
 obtain⟨l,b,k⟩:=h.kids;obtain⟨j,c⟩:=JH i;have e:=jF ks 0 j y b c;rw[show nx Md.tm n (0+j)= .tm by simp[nx,h2,a]]at e;exact⟨e,dK' ks j y k c⟩
theorem vR{n:Nd}{ks:List Tr}(c:Ok .tm (.mk n ks))(h2:n.op=2):∀y∈ks,∃m,y= .mk m []/\m.op=3:=λy e=>by
 obtain⟨k,b,l⟩:=c.kids;obtain⟨j,i⟩:=JH e;have a:=jF ks 0 j y b i;rw[show nx Md.tm n (0+j)= .am by simp[nx,h2]]at a;obtain⟨m,o⟩:=y;have a:=a.1;simp only[cnt]at a;split at a
 ·rename_i h
  exact⟨m,by rw[List.length_eq_zero_iff.1 (JB a).symm],h.1⟩
 ·cases a
theorem FM{n:Nd}(a:n.op=12):∀(ks:List Tr) (j:Int) (i:Nat),(∀y∈ks,Ok .fn y) ->i%2=0 ->varsK ks n 0 j d=vK n d (ks.flatMap (·.ks)) i
 |[],j,i,_,_=>rfl
 |y::r,j,i,k,hi=>by
  obtain⟨g,ty,bo,rfl,b,_,c,e⟩:=(k y Ud).fn;have l:varsT (.mk g [ty,bo]) (d+arC n 0 j) n.b=varsT ty d 0++varsT bo (d+n.b) 0:=by
   rw[show d+arC n 0 j=d by simp[arC,bh,a]];simp only[varsT,varsK,KY (show ¬ g.op=1 by omega),JD];rw[uM c.n13 _ _ 0,uM e.n13 _ _ 0,show d+arC g n.b 0=d by simp[arC,b],show d+arC g n.b (0+1)=d+n.b by simp[arC,b]]
  have h:(Tr.mk g [ty,bo]).ks=[ty,bo]:=rfl;simp only[varsK,l,List.flatMap_cons,h,List.cons_append,List.nil_append,vK];rw[FM a r (j+1) (i+1+1) (λz o=>k z (by simp[o])) Uo];have p:kb n i=0:=by simp[kb,a];omega
  have q:kb n (i+1)=n.b:=by simp[kb,a];omega
  rw[p,q];simp
theorem FN{n:Nd}(a:n.op≠12)(b:n.op≠13):∀(ks:List Tr) (i:Nat),(∀y∈ks,Ok .tm y) ->varsK ks n 0 i d=vK n d ks i
 |[],i,_=>rfl
 |y::r,i,c=>by
  have:=FN a b r (i+1) λz e=>c z (by simp[e]);simp only[varsK,vK];rw[show (i:Int)+1=((i+1:Nat):Int) by omega,this,uM (c y Ud).n13 _ _ 0];simp[kb,a,arC,b]
theorem Ax(i:Ok .tm x)(h1:x.n.op≠1):varsT x d 0=vK x.n d (kidsT x) 0:=by
 obtain⟨n,b⟩:=x;obtain⟨t,p,o⟩:=i.tm;have h1:n.op≠1:=h1;have e:varsT (.mk n b) d 0=varsK b n 0 0 d:=by simp[varsT,h1]
 rw[e]
 by_cases k:n.op=2
 ·have c:kidsT (.mk n b)=[]:=by simp[kidsT,k]
  rw[c];have:∀(l:List Tr) (j:Int),(∀y∈l,∃m,y= .mk m []/\m.op=3) ->varsK l n 0 j d=[]:=by
   intro l
   induction l with
   |nil=>intros;rfl
   |cons y r q=>
    intro j h;obtain⟨m,rfl,p⟩:=h y Ud;simp only[varsK,varsT,KY (show ¬ m.op=1 by omega),List.nil_append];exact q _ λz s=>h z (by simp[s])
  rw[this b 0 (vR i k)]
  rfl
 by_cases a:n.op=12
 ·have c:kidsT (.mk n b)=b.flatMap (·.ks):=by simp[kidsT,a]
  rw[c];exact FM a b 0 0 (Aw i a) rfl
 ·have c:kidsT (.mk n b)=b:=by simp[kidsT,k,a]
  rw[c];exact FN a o b 0 (FL i k a)
theorem FO{n:Nd}(c:n.op=12):∀(ks:List Tr) (j:Int) (i:Nat),(∀y∈ks,Ok .fn y) ->i%2=0 ->(mK f ks n 0 j d).flatMap (·.ks)=iG f n d (ks.flatMap (·.ks)) i/\(mK f ks n 0 j d).map (·.n)=ks.map (·.n)
 |[],j,i,_,_=>⟨rfl,rfl⟩
 |y::r,j,i,o,hi=>by
  obtain⟨g,ty,bo,rfl,e,_,h,k⟩:=(o y Ud).fn;obtain⟨p,q⟩:=FO c r (j+1) (i+1+1) (λz s=>o z (by simp[s])) Uo;have t:mT f (.mk g [ty,bo]) (d+arC n 0 j) n.b= .mk g [mT f ty d 0,mT f bo (d+n.b) 0]:=by
   rw[po Uo,show d+arC n 0 j=d by simp[arC,bh,c]];simp only[mK];rw[Au h.n13 _ _ 0,Au k.n13 _ _ 0,show d+arC g n.b 0=d by simp[arC,e],show d+arC g n.b (0+1)=d+n.b by simp[arC,e]]
  have u:kb n i=0:=by simp[kb,c];omega
  have v:kb n (i+1)=n.b:=by simp[kb,c];omega
  have l:∀a b:Tr,(Tr.mk g [a,b]).ks=[a,b]:=λ_ _=>rfl;have w:∀a b:Tr,(Tr.mk g [a,b]).n=g:=λ_ _=>rfl;simp only[mK,List.flatMap_cons,List.map_cons,t,l,w,p,q,iG,List.cons_append,List.nil_append,u,v,Int.add_zero,and_self]
theorem FP{n:Nd}(a:n.op≠12)(b:n.op≠13):∀(ks:List Tr) (i:Nat),(∀y∈ks,Ok .tm y) ->mK f ks n 0 i d=iG f n d ks i
 |[],i,_=>rfl
 |y::r,i,c=>by
  have:=FP a b r (i+1) λz e=>c z (by simp[e]);simp only[mK,iG];rw[show (i:Int)+1=((i+1:Nat):Int) by omega,this,Au (c y Ud).n13 _ _ 0];simp[kb,a,arC,b]
theorem Ay(h1:x.n.op≠1):(mT f x d 0).n=x.n:=by
 obtain⟨n,a⟩:=x;rw[po (show n.op≠1 from h1)]
 rfl
theorem MK(k:Ok .tm x)(h1:x.n.op≠1):kidsT (mT f x d 0)=iG f x.n d (kidsT x) 0/\atmsT (mT f x d 0)=atmsT x/\funsT (mT f x d 0)=funsT x:=by
 obtain⟨n,o⟩:=x;obtain⟨w,q,p⟩:=k.tm;have h1:n.op≠1:=h1;rw[po h1]
 by_cases e:n.op=2
 ·have b:∀l,kidsT (.mk n l)=[]:=λl=>by simp[kidsT,e]
  have i:∀l,atmsT (.mk n l)=l.map (·.n):=λl=>KX e;have c:∀l,funsT (.mk n l)=[]:=λl=>KY (show ¬ n.op=12 by omega);rw[b,b,i,i,c,c];refine⟨rfl,?_,rfl⟩;have:∀(l:List Tr) (j:Int),(∀y∈l,∃m,y= .mk m []/\m.op=3) ->(mK f l n 0 j d).map (·.n)=l.map (·.n):=by
   intro l
   induction l with
   |nil=>intros;rfl
   |cons y r s=>
    intro j h;obtain⟨m,rfl,q⟩:=h y Ud;simp only[mK,List.map_cons];rw[po Uo,s _ λz t=>h z (by simp[t])]
    rfl
  exact this o 0 (vR k e)
 have i:∀l,atmsT (.mk n l)=[]:=λl=>KY e;rw[i,i]
 by_cases a:n.op=12
 ·have b:∀l,kidsT (.mk n l)=l.flatMap (·.ks):=λl=>by simp[kidsT,a]
  have c:∀l,funsT (.mk n l)=l.map (·.n):=λl=>KX a;obtain⟨u,v⟩:=FO (f:=f) (d:=d) a o 0 0 (Aw k a) rfl;rw[b,b,c,c];exact⟨u,rfl,v⟩
 ·have b:∀l,kidsT (.mk n l)=l:=λl=>by simp[kidsT,e,a]
  have c:∀l,funsT (.mk n l)=[]:=λl=>KY a;rw[b,b,c,c];exact⟨FP a p o 0 (FL k e a),rfl,rfl⟩
theorem ML(a:Ok .tm x)(h1:x.n.op≠1):bE (mT f x d 0)= .agg (fL x.n ((iG f x.n d (kidsT x) 0).map trP) ((atmsT x).map ndP) ((funsT x).map ndP)):=by
 obtain⟨b,c,e⟩:=MK (f:=f) (d:=d) a h1;show PV.agg (fL _ _ _ _)=_;rw[b,c,e,Ay h1]
theorem Az{n:Nd}{y:Tr}:∀(l:List Tr) (i:Nat),iG f n d (l++[y]) i=iG f n d l i++[mT f y (d+kb n (i+l.length)) 0]
 |[],i=>by simp[iG]
 |z::r,i=>by
  simp only[List.cons_append,iG,Az r (i+1),JV];rw[show i+1+r.length=i+(r.length+1) by omega]
end
theorem me(t:List Nd)(h:t.length<=1000000):VC prog 86 [ah t] (pI (fF t)):=by
 have l:=au ndP t;refine vf 23 [.tmp 2] τok func86 ?_;refine af (λg=>?_) (λg=>?_)
 ·exact aE (h3:=by unfold fF;rw[KX Uo];rfl)
 have b:=Ew' _ t (KJ _) Uo;have a:=DP t;rw[ve Uo,List.drop_zero]at a;have c:¬ t.length>4096:=Uo
 unfold ia at b;cases e:kS t with
 |none=>
  rw[e]at b a;refine ae b ?_;exact aE (h3:=by unfold fF;rw[KY c,KY λq=>by simpa using a.2 q];rfl)
 |some q=>
  obtain⟨x,r⟩:=q;obtain⟨i,n⟩:=zJ e;have j:=KG List.length i;rw[JK]at j;rw[e]at b a;simp only[Option.map_some,QZ]at b a;refine ae b ?_;refine af (λk=>?_) (λk=>?_)
  ·exact aE (h3:=by unfold fF;rw[KY c,KY λq=>by have:=a.2 q;omega];rfl)
  ·exact aE (h3:=by unfold fF;rw[KY c,KX (a.1 Uo)];rfl)
theorem nr{x:Tr}(a:Wf x):fF (row x)=0:=kN a.ok a.len
theorem vS{t:List Nd}(h:fF t=0):∃x,Wf x/\t=row x:=by
 unfold fF at h;split at h
 ·cases h
 ·split at h
  ·rename_i e a
   obtain⟨x,b⟩:=Option.isSome_iff_exists.1 a;obtain⟨rfl,c⟩:=DN b;exact⟨x,⟨c,Uo⟩,rfl⟩
  ·cases h
theorem jx{x:Tr}(a:Wf x):VC prog 87 [ah (row x)] (.tup [bE x,.bool true]):=by
 have c:=me (row x) (by have:=a.len;omega);rw[nr a]at c;have b:=Ew' _ (row x) (KJ _) (by have:=a.len;omega);have:=zI a.ok [];rw[JD]at this;unfold ia at b;rw[this]at b;refine vf 18 [.cell 2 145,.tmp 3] τok func87 ?_;refine ae c ?_;refine vn ?_;refine ae b ?_;exact aE
theorem iH{x:Tr}(a:Wf x):VC prog 55 [ah (row x)] (bD ((kidsT x).map row)):=by
 have j:=au trP (kidsT x);have h:=iy a.ok;refine cR 29 [.tmp 2] τok func55 ?_;refine aj<|ae (jx a) ?_;refine dC 5 1000 29 1 rfl rfl<|aB τok (σ:=Nat) [(3,_)] [(3,_)] (λi=>[(5,.c (.row 1000)),(6,vI i)]) (λi=>[(1000,.rw 29 1 (((kidsT x).take i).map λy=>[ah (row y)]))]) (λi=>i<=(kidsT x).length) (λi=>(kidsT x).length-i) 0 (KV _) ?_;rintro i n;refine aj<|af (λg=>?_) (λg=>?_)
 ·obtain⟨y,b,o⟩:=ay (l:=kidsT x) (k:=i)
  have e:=a.kid b;refine vt i b ?_;refine ae (lP 4096 Uo y e e.len) ?_;refine bi ?_;refine vi ?_;exact aw (i+1) (by show i+1<=_;omega) (sw 1000 27) (y':=⟨KG (λl=>some (SE.rw _ _ l)) (by rw[QQ,b];simp[dN];rfl),trivial⟩)
 ·exact aE (h3:=by rw[JG Uo];exact KG PV.sl (by rw[List.map_map];rfl))
theorem sO{x y:Operand}{p q:Nd}{k:PV ->Prop}(i:k (.bool (!decide (p=q)))):oQ prog .neq 46 x y (.c (.p (.agg (ndP p)))) (.c (.p (.agg (ndP q)))) k:=by
 refine⟨_,λC ρ va u w j l=>?_,i⟩;have rd:∀{p:Nd} {v:Value},RA C ρ (.c (.p (.agg (ndP p)))) v ->v=iw p:=λ{p v} h=>by
  have h:RV C (.agg (ndP p)) v:=h;cases h with
  |agg z n o e=>
   match n,o with
   |[a,b,c],_=>
    have r:=e 0 _ _ rfl rfl;have s:=e 1 _ _ rfl rfl;have t:=e 2 _ _ rfl rfl;cases r;cases s;cases t
    rfl
 rw[rd j,rd l];exact⟨_,.bool _,Fl x y p q w⟩
theorem AA{a b:List Nd}(ha:a.length<=1000000000)(hb:b.length<=1000000000):VC prog 64 [ah a,ah b] (.bool (decide (a=b))):=by
 have s:=au ndP a;have t:=au ndP b;have o:a≠b ->PV.bool false= .bool (decide (a=b)):=λh=>by rw[KH h]
 refine vf 26 [.tmp 4] τok func64 ?_;refine af (λg=>?_) (λg=>?_)
 ·exact⟨_,_,rfl,rfl,o λh=>by subst h;omega⟩
 refine vl τok (σ:=Nat) [(0,_),(1,_)] (λi=>[(5,vI i)]) (λi=>i<=a.length/\a.take i=b.take i) (λi=>a.length-i) 0 ⟨KV _,Ud⟩ ?_;rintro i ⟨u,j⟩;refine af (λg=>?_) (λg=>?_)
 ·obtain⟨p,n,v⟩:=ay (l:=a) (k:=i)
  obtain⟨q,c,r⟩:=ay (l:=b) (k:=i);refine vm i n ?_;refine vm i c ?_;refine sO ?_
  by_cases h:p=q
  ·rw[KU h]
   refine vk ?_;refine vi ?_;exact aw (i+1) ⟨Uo,by rw[QQ,QQ,j,n,c,h]⟩
  ·rw[KH h]
   exact vk ⟨_,_,rfl,rfl,o λe=>h (by subst e;rw[n]at c;exact JB c)⟩
 ·exact aE (h3:=by
   rw[JG Uo,JG Uo]at j;rw[KU j]
   rfl)
theorem vT(l:List Int)(v:Nat)(x y:Int):(l.map iP).set v ((iP x).set 0 (pI y))=(l.set v y).map iP:=by rw[List.map_set];rfl
theorem oD{d:List Int}{v:Nat}(h:v<d.length):d[v]?=some (gt d v):=by
 unfold gt;rw[QK,List.getElem?_eq_getElem h]
 rfl
def MM(r:Option (List Int)):PV:=match r with
 |some d=>.tup [.sl (d.map iP),.bool true]
 |none=>.tup [.sl [],.bool false]
theorem FQ{vars:Int}{n:Nat}(R:(n:Int)=vars+1)(S:n<=17){os:List be}(T:Lv.Good n os)(hl:os.length<=64){low:Nat}(b:low<n):VC prog 119 [pI vars,.sl (os.map eZ),pI low] (MM (kP n os low)):=by
 have eO:=au eZ os;have ini:=su os b;refine vf 107 [.tmp 6,.tmp 7] τok func119 ?_;refine vi ?_;refine CU n ?_ R.symm R.symm;refine aB τok (σ:=Nat×List Int) [(0,_),(1,_),(2,_),(6,_),(7,_),(8,_)] [] (λq=>[(9,vI q.1)]) (λq=>[(17,.rw 3 1 (q.2.map iP))]) (λq=>q.1<=n/\q.2.length=n/\∀j,j<q.1 ->q.2[j]?=some non) (λq=>n-q.1) (0,List.replicate n 0) ⟨KV _,Ud,λj A=>absurd A Ud⟩ ?_ (y1:=⟨KG (λl=>some (SE.rw _ _ l)) (by rw[List.map_replicate];rfl),trivial⟩);rintro⟨v,l⟩ ⟨I,C,a⟩;simp only at I C a;refine aj<|af (λg=>?_) (λg=>?_)
 ·simp only at g
  have U:=oD (d:=l) (v:=v) Uo;refine vm v U ?_;refine eH U<|vi ?_;refine aw (v+1,l.set v non) ⟨Us,by simp[C],λj A=>?_⟩ (y':=⟨KG (λl=>some (SE.rw _ _ l)) (vT l v _ _),trivial⟩);simp only at A ⊢;rw[List.getElem?_set]
  by_cases e:v=j
  ·rw[KX e,KX Uo]
  ·rw[KY e]
   exact a j Uo
 simp only at g;have K:l=List.replicate n non:=by
  refine List.ext_getElem? λj=>?_
  by_cases A:j<n
  ·rw[a j Uo,List.getElem?_replicate,KX A]
  ·rw[QF Uo,QF Uk]
 subst K;refine vm low (oD (by simpa using b)) ?_;refine eH (oD (by simpa using b))<|aB τok (σ:=Nat×List Int) [(0,_),(1,_),(2,_),(6,_),(7,_),(8,_)] [] (λq=>[(10,vI q.1)]) (λq=>[(17,.rw 3 1 (q.2.map iP))]) (λq=>q.1<=n+1/\Inv n os low (64000*q.1) q.2/\kP n os low=mY n os (n+1-q.1) q.2) (λq=>n+1-q.1) (0,(List.replicate n non).set low 0) ⟨KV _,by simpa using ini.1,rfl⟩ ?_ (y1:=⟨KG (λl=>some (SE.rw _ _ l)) (vT _ low _ _),trivial⟩);rintro⟨r,d⟩ ⟨I,C,a⟩;simp only at I C a;refine aj<|vi ?_;refine af (λg=>?_) (λg=>?_)
 ·simp only at g
  obtain⟨c,hc⟩:∃c,n+1-r=c+1:=⟨n-r,Uo⟩
  rw[hc]at a;simp only[mY]at a;have hz:=zn C Uo;refine aB τok (σ:=Nat) [(0,_),(1,_),(2,_),(6,_),(7,_),(8,_),(10,_)] [] (λv=>[(11,.c (.p (.bool (bQ dd v (d,false)).2))),(12,vI v)]) (λv=>[(17,.rw 3 1 ((bQ dd v (d,false)).1.map iP))]) (λv=>v<=n) (λv=>n-v) 0 (KV _) ?_;rintro v k1;have L:=(hz v k1).1
  generalize V:bQ dd v (d,false)=Z at L ⊢
  have a0:=L.len;refine aj<|af (λk2=>?_) (λk2=>?_)
  ·have x0:=oD (d:=Z.1) (v:=0) Uo
   have u:=oD (d:=Z.1) (v:=v) Uo;have e:bQ dd (v+1) (d,false)=dd v Z:=KG (dd v) V;have w:¬ _ ->dd v Z=Z:=λh=>KY h;refine vm 0 x0 ?_;refine eH x0<|af (λD=>?_) (λD=>?_)
   ·refine vm v u ?_
    refine eH u<|vm 0 x0 ?_;refine eH x0<|af (λz=>?_) (λz=>?_)
    ·have s:dd v Z=_:=KX ⟨D,z⟩
     refine vk ?_;refine vm 0 x0 ?_;refine eH x0<|vm v u ?_;refine eH u<|vi ?_;exact aw (v+1) (by show v+1<=n;omega) (x:=⟨by rw[e,s];rfl,rfl,trivial⟩) (y':=⟨KG (λl=>some (SE.rw _ _ l)) (by rw[e,s];exact vT _ _ _ _),trivial⟩)
    ·refine vk ?_
     refine vi ?_;exact aw (v+1) (by show v+1<=n;omega) (x:=⟨by rw[e,w λq=>z q.2];rfl,rfl,trivial⟩) (y':=⟨by rw[e,w λq=>z q.2];rfl,trivial⟩)
   ·refine vk ?_
    refine vi ?_;exact aw (v+1) (by show v+1<=n;omega) (x:=⟨by rw[e,w λq=>D q.1];rfl,rfl,trivial⟩) (y':=⟨by rw[e,w λq=>D q.1];rfl,trivial⟩)
  have M:v=n:=Uo
  subst M;subst V;refine aB τok (σ:=Nat) [(0,_),(1,_),(2,_),(6,_),(7,_),(8,_),(10,_)] [] (λi=>[(11,.c (.p (.bool ((os.take i).foldl ew (bQ dd v (d,false))).2))),(13,vI i)]) (λi=>[(17,.rw 3 1 (((os.take i).foldl ew (bQ dd v (d,false))).1.map iP))]) (λi=>i<=os.length) (λi=>os.length-i) 0 (KV _) ?_;rintro i D;have t:=(zp T (os.take i) (64000*r) (bQ dd v (d,false)) (λo E=>List.mem_of_mem_take E) L (by rw[VJ];omega)).1
  generalize W:(os.take i).foldl ew (bQ dd v (d,false))=Y at t ⊢
  have a1:=t.len;rw[VJ]at t;refine aj<|af (λz=>?_) (λz=>?_)
  ·obtain⟨o,E,hd⟩:=ay (l:=os) (k:=i)
   have O:=T o (JQ E);unfold Rg at O;have e:(os.take (i+1)).foldl ew (bQ dd v (d,false))=ew Y o:=by
    rw[QQ,E,Option.toList,List.foldl_append,W]
    rfl
   have X:=t.bd o.low.toNat Uo;have x0:=oD (d:=Y.1) (v:=o.low.toNat) Uo;have u:=oD (d:=Y.1) (v:=o.high.toNat) Uo;have w:¬ _ ->ew Y o=Y:=λh=>KY h;refine vm i E ?_;refine vm o.low.toNat x0 ?_;refine eH x0<|af (λF=>?_) (λF=>?_)
   ·have X:=X.resolve_left F
    refine vm o.high.toNat u ?_;refine eH u<|vm o.low.toNat x0 ?_;refine eH x0<|vi ?_;refine af (λH=>?_) (λH=>?_)
    ·have s:ew Y o=_:=KX ⟨F,H⟩
     refine vk ?_;refine vm o.low.toNat x0 ?_;refine eH x0<|vi ?_;refine vm o.high.toNat u ?_;refine eH u<|vk ?_;refine vi ?_;exact aw (i+1) (by show i+1<=_;omega) (x:=⟨by rw[e,s];rfl,rfl,trivial⟩) (y':=⟨KG (λl=>some (SE.rw _ _ l)) (by rw[e,s];exact vT _ _ _ _),trivial⟩)
    ·refine vk ?_
     refine vi ?_;exact aw (i+1) (by show i+1<=_;omega) (x:=⟨by rw[e,w λq=>H q.2];rfl,rfl,trivial⟩) (y':=⟨by rw[e,w λq=>H q.2];rfl,trivial⟩)
   ·refine vk ?_
    refine vi ?_;exact aw (i+1) (by show i+1<=_;omega) (x:=⟨by rw[e,w λq=>F q.1];rfl,rfl,trivial⟩) (y':=⟨by rw[e,w λq=>F q.1];rfl,trivial⟩)
  ·skip
   have ef:Y=cf v os d:=by rw[<- W,JG Uo];rfl
   subst ef;refine br (λP=>?_) (λP=>?_)
   ·rw[KY (by simpa using P)]at a
    exact aE (h3:=by rw[a];rfl)
   ·rw[KX (by simpa using P)]at a
    refine vi ?_;exact aw (r+1,(cf v os d).1) ⟨Us,t.mono Us,by rw[a,show v+1-(r+1)=c by omega]⟩ (y':=⟨rfl,trivial⟩)
 ·simp only at g
  rw[show n+1-r=0 by omega]at a;exact aE (h3:=by rw[a];rfl)
def kj(l:List Atom)(i:Nat):Int:=if i=0 then -1 else ((l[i-1]?).map (·.var)).getD 0
theorem sP{l:List Atom}(hl:l.length<=1000000)(vars:Int):VC prog 152 [cF l,pI vars] (.bool (cN l vars)):=by
 have E:=au atP l;have j:(vars<0 \/16<vars \/l.length<1 \/4<l.length) ->PV.bool false= .bool (cN l vars):=λh=>by unfold cN;rw[KX h]
 refine vf 75 [.tmp 4] τok func152 ?_;refine af (λn=>?_) (λn=>?_)
 ·exact⟨_,_,rfl,rfl,j (.inl n)⟩
 refine af (λo=>?_) (λo=>?_)
 ·exact⟨_,_,rfl,rfl,j (.inr (.inl o))⟩
 refine af (λq=>?_) (λq=>?_)
 ·exact⟨_,_,rfl,rfl,j Uo⟩
 refine af (λr=>?_) (λr=>?_)
 ·exact⟨_,_,rfl,rfl,j Uo⟩
 have s:cN l vars=fX vars l (-1):=by unfold cN;rw[KY Uo]
 rw[s];refine vl τok (σ:=Nat) [(0,_),(1,_)] (λi=>[(5,vI i)]) (λi=>i<=l.length/\ -1<=kj l i/\fX vars l (-1)=fX vars (l.drop i) (kj l i)) (λi=>l.length-i) 0 ⟨KV _,by simp[kj],rfl⟩ ?_;rintro i ⟨F,H,c⟩;refine af (λg=>?_) (λg=>?_)
 ·obtain⟨x,e,t⟩:=ay (l:=l) (k:=i)
  rw[t]at c;simp only[fX]at c;have a:(x.var<=kj l i \/vars<x.var \/x.add<0 \/1000<x.add) ->PV.bool false= .bool (fX vars l (-1)):=λh=>by rw[c,KX h]
  refine vm i e ?_;refine af (λu=>?_) (λu=>?_)
  ·exact⟨_,_,rfl,rfl,a Uo⟩
  refine vm i e ?_;refine af (λv=>?_) (λv=>?_)
  ·exact⟨_,_,rfl,rfl,a Uo⟩
  refine vm i e ?_;refine af (λw=>?_) (λw=>?_)
  ·exact⟨_,_,rfl,rfl,a Uo⟩
  refine vm i e ?_;refine af (λz=>?_) (λz=>?_)
  ·exact⟨_,_,rfl,rfl,a Uo⟩
  have nx:kj l (i+1)=x.var:=by unfold kj;rw[KY Uo,Nat.add_sub_cancel,e];rfl
  have b:kj l i<x.var ->fX vars l (-1)=fX vars (l.drop (i+1)) (kj l (i+1)):=λh=>by rw[c,KY Uo,nx]
  refine af (λA=>?_) (λA=>?_)
  ·obtain⟨y,p⟩:∃y,l[i-1]?=some y:=⟨_,gE⟩
   have C:kj l i=y.var:=by unfold kj;rw[KY Uo,p];rfl
   refine vm i e ?_;refine vi ?_;refine vm (i-1) p ?_;refine af (λD=>?_) (λD=>?_)
   ·refine vk ?_
    exact⟨_,_,rfl,rfl,a Uo⟩
   ·refine vk ?_
    refine vi ?_;exact aw (i+1) ⟨Uo,Uo,b Uo⟩
  ·have C:kj l i= -1:=by unfold kj;rw[KX Uo]
   refine vk ?_;refine vi ?_;exact aw (i+1) ⟨Uo,Uo,b Uo⟩
 ·rw[JY Uo]at c
  exact aE (h3:=by rw[c];rfl)
theorem FR{vars:Int}{o:be}:dO vars o=true↔(o.low<0 \/vars<o.low \/o.high<0 \/vars<o.high \/o.add< -1000 \/1000<o.add):=by
 unfold dO;exact decide_eq_true_iff
theorem FS{vars:Int}{os:List be}(hl:os.length<=1000000):VC prog 62 [pI vars,.sl (os.map eZ)] (pI (iR vars os)):=by
 have O:=au eZ os;refine vf 73 [.tmp 4] τok func62 ?_;refine af (λw=>?_) (λw=>?_)
 ·exact aE (h3:=by unfold iR;rw[KX (.inl w)];rfl)
 refine af (λz=>?_) (λz=>?_)
 ·exact aE (h3:=by unfold iR;rw[KX (.inr z)];rfl)
 refine af (λD=>?_) (λD=>?_)
 ·exact aE (h3:=by unfold iR;rw[KY Uo,KX Uo];rfl)
 have E:iR vars os=if os.any (dO vars)then 1 else if (List.range (vars.toNat+1)).all (λv=>(kP (vars.toNat+1) os v).isSome)then 0 else 7:=by unfold iR;rw[KY Uo,KY Uo]
 rw[E];refine vl τok (σ:=Nat) [(0,_),(1,_),(4,_)] (λi=>[(5,vI i)]) (λi=>i<=os.length/\∀o∈os.take i,dO vars o=false) (λi=>os.length-i) 0 ⟨KV _,Ud⟩ ?_;rintro i ⟨P,s⟩;refine af (λg=>?_) (λg=>?_)
 ·obtain⟨o,c,R⟩:=ay (l:=os) (k:=i)
  have a:(o.low<0 \/vars<o.low \/o.high<0 \/vars<o.high \/o.add< -1000 \/1000<o.add) ->pI 1=pI (if os.any (dO vars)then 1 else if (List.range (vars.toNat+1)).all (λv=>(kP (vars.toNat+1) os v).isSome)then 0 else 7):=λh=>by
   rw[KX (List.any_eq_true.2 ⟨o,JQ c,FR.2 h⟩)]
  refine vm i c ?_;refine af (λA=>?_) (λA=>?_)
  ·exact⟨_,_,rfl,rfl,a Uo⟩
  refine af (λq=>?_) (λq=>?_)
  ·exact⟨_,_,rfl,rfl,a Uo⟩
  refine af (λt=>?_) (λt=>?_)
  ·exact⟨_,_,rfl,rfl,a Uo⟩
  refine af (λF=>?_) (λF=>?_)
  ·exact⟨_,_,rfl,rfl,a Uo⟩
  refine af (λH=>?_) (λH=>?_)
  ·exact⟨_,_,rfl,rfl,a Uo⟩
  refine af (λI=>?_) (λI=>?_)
  ·exact⟨_,_,rfl,rfl,a Uo⟩
  refine vi ?_;refine aw (i+1) ⟨Uo,λp C=>?_⟩;rw[QQ,c,Option.toList]at C;rcases List.mem_append.1 C with h|h
  ·exact s p h
  ·obtain rfl:=List.mem_singleton.1 h
   cases K:dO vars p with
   |false=>rfl
   |true=>have:=FR.1 K;omega
 rw[JG Uo]at s;have b:os.any (dO vars)=false:=by
  rw[List.any_eq_false];exact λo c=>by simp[s o c]
 rw[b];have L:=uU Uo b;refine vl τok (σ:=Nat) [(0,_),(1,_),(4,_)] (λv=>[(7,vI v)]) (λv=>v<=vars.toNat+1/\∀u,u<v ->(kP (vars.toNat+1) os u).isSome=true) (λv=>vars.toNat+1-v) 0 ⟨KV _,λu r=>absurd r Uo⟩ ?_;rintro v ⟨A,q⟩;refine af (λt=>?_) (λt=>?_)
 ·have M:=FQ (vars:=vars) (n:=vars.toNat+1) Uo Uo L Uo (low:=v) Uo
  refine ae M ?_;cases j:kP (vars.toNat+1) os v with
  |none=>
   exact aE (h3:=by
    rw[KY UO,KY]
    ·rfl
    ·intro h
     have:=List.all_eq_true.1 h v (List.mem_range.2 Uo);rw[j]at this;cases this)
  |some d=>
   refine vi ?_;refine aw (v+1) ⟨Uo,λu r=>?_⟩
   by_cases e:u=v
   ·rw[e,j];rfl
   ·exact q u Uo
 ·exact aE (h3:=by
   rw[KY UO,KX]
   ·rfl
   ·exact List.all_eq_true.2 λu r=>q u (by have:=List.mem_range.1 r;omega))
theorem check_of'{vars:Int}{os:List be}:(∃g,fx vars os= .ok g/\iR vars os=0) \/∃n,fx vars os= .error n/\iR vars os=n/\n≠0:=by
 have a:=Ey vars os;cases b:fx vars os with
 |ok g=>rw[b]at a;exact .inl ⟨g,rfl,a⟩
 |error n=>
  rw[b]at a;exact .inr ⟨n,rfl,a,by rcases closedF_err b with ⟨_,h⟩|⟨_,_,h⟩|⟨_,_,_,h⟩|⟨_,_,_,h,_⟩<;>omega⟩
theorem FT{vars:Int}{os:List be}{a b:List Atom}(X:os.length<=1000000)(ha:a.length<=1000000)(hb:b.length<=1000000):VC prog 240 [pI vars,.sl (os.map eZ),cF a,cF b] (.bool (j6 vars os a b)):=by
 have eA:=au atP a;have eB:=au atP b;have M:=FS (vars:=vars) X;have O:=sP ha vars;have P:=sP hb vars;refine vf 86 [.tmp 8] τok func240 ?_;refine ae M ?_;rcases check_of' (vars:=vars) (os:=os)with ⟨g,K,Y⟩|⟨n,K,Y,hn⟩
 ·have A:j6 vars os a b=(cN a vars && cN b vars && a.all λx=>b.any (dw g x)):=by unfold j6;rw[K]
  obtain⟨C,Z,a0,r,D⟩:=Er K;have o:=uU Z D;refine vn ?_;refine bV O (λE=>?_) (λE=>?_)
  ·refine bV P (λL=>?_) (λL=>?_)
   ·rw[A,E,L]
    have aa:=j7 E;have ab:=j7 L;refine vl τok (σ:=Nat) [(0,_),(1,_),(2,_),(3,_)] (λi=>[(9,vI i)]) (λi=>i<=a.length/\∀x∈a.take i,b.any (dw g x)=true) (λi=>a.length-i) 0 ⟨KV _,Ud⟩ ?_;rintro i ⟨g1,R⟩;refine af (λk1=>?_) (λk1=>?_)
    ·obtain⟨x,F,hd⟩:=ay (l:=a) (k:=i)
     obtain⟨x1,x2,x3,x4⟩:=aa.2 x (JQ F);have s:x.var.toNat<vars.toNat+1:=Uo
     obtain⟨d,u⟩:=Ex Uo o r C s;obtain⟨dl,dv⟩:=Kv Uo o r C s u;have ini:=su os s;have S:=(uT o r _ 0 _ d ini.1 Uo u).1.bd;have U:=FQ (vars:=vars) (n:=vars.toNat+1) Uo Uo o r s;rw[u,show ((x.var.toNat:Nat):Int)=x.var by omega]at U;refine vm i F ?_;refine ae U ?_;refine vl τok (σ:=Nat) [(0,_),(1,_),(2,_),(3,_),(9,_),(10,_)] (λj=>[(12,.c (.p (.bool ((b.take j).any (dw g x))))),(13,vI j)]) (λj=>j<=b.length) (λj=>b.length-j) 0 (KV _) ?_;rintro j k2;refine af (λk3=>?_) (λk3=>?_)
     ·obtain⟨y,H,hd⟩:=ay (l:=b) (k:=j)
      obtain⟨y1,y2,y3,y4⟩:=ab.2 y (JQ H);have I:=oD (d:=d) (v:=y.var.toNat) Uo;have w:(b.take (j+1)).any (dw g x)=((b.take j).any (dw g x)||dw g x y):=by
       rw[QQ,H,Option.toList,List.any_append];simp
      have ev:=λ(_:Unit)=>dv y.var.toNat Uo;have V:=S y.var.toNat Uo;rw[show ((x.var.toNat:Nat):Int)=x.var by omega,show ((y.var.toNat:Nat):Int)=y.var by omega]at ev;refine vm j H ?_;refine vm y.var.toNat I ?_;refine af (λq=>?_) (λq=>?_)
      ·have V:=V.resolve_left q
       obtain⟨p,T,a1,_⟩:=(ev ()).resolve_left λh=>q h.2
       clear ev
       have t:dw g x y=decide (x.add-y.add<=p):=by unfold dw;rw[T]
       refine vm i F ?_;refine vm j H ?_;refine vm y.var.toNat I ?_;refine vm j H ?_;refine vi ?_;refine af (λk5=>?_) (λk5=>?_)
       ·refine vk ?_
        refine vi ?_;exact aw (j+1) (by show j+1<=_;omega) (x:=⟨by rw[w,t,KU Uo,Bool.or_true];rfl,rfl,trivial⟩)
       ·refine vk ?_
        refine vi ?_;exact aw (j+1) (by show j+1<=_;omega) (x:=⟨by rw[w,t,KH Uo,Bool.or_false];rfl,rfl,trivial⟩)
      ·have t:dw g x y=false:=by
        rcases ev ()with ⟨h,_⟩|⟨p,h,h2,h3⟩
        ·unfold dw;rw[h]
        ·exact absurd h2 (by rw[show gt d y.var.toNat=non from QY q];exact λe=>h3 e.symm)
       refine vk ?_;refine vi ?_;exact aw (j+1) (by show j+1<=_;omega) (x:=⟨by rw[w,t,Bool.or_false];rfl,rfl,trivial⟩)
     ·have w:(b.take j).any (dw g x)=b.any (dw g x):=by rw[JG Uo]
      refine br (λq=>?_) (λq=>?_)
      ·have q:b.any (dw g x)=false:=by rw[<- w];simpa using q
       exact aE (h3:=by
        have:(a.all λx=>b.any (dw g x))=false:=by
         rw[List.all_eq_false];exact⟨x,JQ F,by rw[q];decide⟩
        rw[this]
        rfl)
      ·have q:b.any (dw g x)=true:=by rw[<- w];simpa using q
       refine vi ?_;refine aw (i+1) ⟨Uo,λz W=>?_⟩;rw[QQ,F,Option.toList]at W;rcases List.mem_append.1 W with h|h
       ·exact R z h
       ·obtain rfl:=List.mem_singleton.1 h
        exact q
    ·rw[JG Uo]at R
     exact aE (h3:=by
      have:(a.all λx=>b.any (dw g x))=true:=List.all_eq_true.2 R;rw[this]
      rfl)
   ·exact aE (h3:=by rw[A,E,L];rfl)
  ·exact aE (h3:=by rw[A,E];rfl)
 ·have A:j6 vars os a b=false:=by unfold j6;rw[K]
  refine vy ?_;exact aE (h3:=by rw[A];rfl)
def sQ(C:Mem)(w:World)(bj:Nat)(B:ak)(n:Nat):Prop:=
 ∃v1 v2 v3,Bk w.heap bj [iV B.vars,v1,v2,iV B.nat,v3,iV (n:Int)] 259/\SV rOr C B.orders v1/\SV rEn C B.ents v2/\SV rPr C B.prims v3
def MN{α:Type}(D:World ->α ->Value ->Prop)(X:List Nat)(w:World)(bj:Nat)(B:ak)(r:Except Int (α×Nat))(e:Ending)(w':World):Prop:=
 (match r with
  | .ok q=>∃u,e= .returned u/\D w' q.1 u/\sQ (Im X w') w' bj B q.2
  | .error er=>e= .panicked (fI er))/\Kp [bj] w w'
def DSp(X:List Nat)(w':World)(x:Tr)(u:Value):Prop:=∃h a,u= .tuple #[h,a]/\TmV (Im X w') (headT x) h/\TmsV (Im X w') (argsT x) a
def Mt(k:Nat)(t:Tr):Prop:=∀m∈row t,m.op=11 ->m.a<(k:Int)
def FU(B:ak)(g:Nat)(rc:RcJ):Prop:=∀(X:List Nat) (w:World) (bj:Nat) (cx:Ctx) (k:Nat) (t:Tr) (n:Nat) (vc v:Value),(XL X w) ->bj∈X ->CxOk B cx ->cx.length<=260 ->sQ (Im X w) w bj B n ->n<=100000 ->
 Ft (QB B) (cx.length:Int) t ->Mt k t ->k*5000+(row t).length<=g ->SV rBd (Im X w) (cx.map aA) vc ->TmV (Im X w) t v ->
 CC 142 #[pt bj,vc,v] w (MN (λw' x u=>TmV (Im X w') x u) X w bj B (rc cx t n))
def DSo(X:List Nat)(w':World)(q:Int×List Atom)(u:Value):Prop:=∃a c,u= .tuple #[iV q.1,.slice a q.2.length c]/\Sl rAt (Im X w') a q.2
def PaP(C:Mem)(w:World)(r:Except Int Tr)(e:Ending)(w':World):Prop:=
 (match r with
  | .ok z=>∃u,e= .returned u/\TmV (Cn C w w') z u
  | .error er=>e= .panicked (fI er))/\Kp [] w w'
structure MoS where
 i:Nat
 cx:Ctx
 m:Tr
 n:Nat
 vc:Value
 vm:Value
def jQ(l:List Int):PV:=.sl (l.map iP)
def qF(B:ak)(pl:List Int):PV:=.agg [.int .i64 B.vars,.sl (B.orders.map eZ),.sl (B.ents.map cj),.int .i64 B.nat,.sl (B.prims.map iU),jQ pl]
theorem br_int:Br2 wv' iP I64:=⟨λ_=>rfl,λx b C c e h=>by
 match c,e with
 |[a],_=>exact⟨by rw[gH (h 0 _ a rfl rfl)],b⟩,λ_ _ _ h=>h.2⟩
theorem MO{f:FuncId}{ps:List PV}{l:List Int}(n:dM prog f)(h:∀(w:World) (C:Mem) (vs:List Value),Sub C w ->cZ C ps vs ->Calls prog f vs.toArray w λe w'=>∃v,e= .returned v/\Own wv' 310 w.heap.size w' v l/\Kp [] w w'):VO prog f ps 310 1 (l.map iP):=.of ⟨n,λw C vs r E=>by
 refine(h w C vs r E).mono λe w' ⟨u,F,A,k⟩=>?_;obtain⟨s,q1,D⟩:=A.row;refine⟨u,C,s,F,by rw[KF];exact q1,λx c=>by obtain⟨_,_,rfl⟩:=List.mem_map.1 c;rfl,by rw[KF];exact D.length,λi P x H c=>?_,⟨r.tr k,λ_ _ _ h=>h,λb o v h=>.inl ⟨o,v,h⟩,k⟩,λg I b o z K=>?_⟩
 ·rw[JX]at c
  obtain⟨y,L,rfl⟩:=Option.map_eq_some_iff.1 c;obtain⟨M,a,rfl,_⟩:=D.get L;rw[H]at a;obtain rfl:=JB a;refine⟨rfl,λj p q t O=>?_⟩
  match j,t,O with
  |0,rfl,rfl=>exact⟨rfl,.int _ _⟩
  |j+1,t,_=>cases t
 ·have:=A.block g (by rw[<- mD q1];exact I)
  have:=(r b o z K).lt;omega⟩
section
variable{Q:Nd ->Prop}{N:Int}{x y:Tr}{m:List Int}
theorem qG{pl:List Int}(hm:Mk pl m)(a:pl.length<=1000):∀v∈m,I64 v:=λv b=>by
 rcases hm v b with rfl|rfl|rfl|⟨j,c,rfl⟩<;>exact⟨Uo,Uo⟩
theorem qH(hm:∀v∈m,I64 v)(hl:m.length<=1000000):VO prog 256 [jQ m] 310 1 (m.map iP):=MO ⟨_,func256,rfl,UO⟩ λw C o b h=>by
 obtain⟨v,rfl,i⟩:=EO h;obtain⟨a,c,rfl,j,p⟩:=br_int.sl ⟨Uo,hm⟩ i;exact(Mo b m a c j hl).2.mono λe q ⟨⟨u,l,n⟩,k⟩=>⟨u,l,n,k⟩
theorem AB{v:Int}(b:0<=v)(hl:m.length<=1000000):VC prog 273 [jQ m,pI v] (pI (bS m v)):=by
 have c:=au iP m;refine vf 17 [.tmp 4] τok func273 ?_;unfold bS;refine af (λg=>?_) (λg=>?_)
 ·have g:v≥((m.map iP).length:Int):=g
  rw[KX Uo];exact aE
 ·have g:¬ v≥((m.map iP).length:Int):=g
  rw[KY Uo];obtain⟨u,a,_⟩:=ay (l:=m) (k:=m.length-1-v.toNat);refine vi ?_;refine vi ?_;refine vm (p:=iP) (m.length-1-v.toNat) a ?_ Uo;rw[QK,a];exact aE
theorem vU(a:Ft Q N x):VC prog 255 [ah (row x)] (.tup [ah (row (headT x)),bD ((argsT x).map row)]):=LS a.ok a.len
theorem MP(b:Ft Q N x)(hl:m.length<=1000000):VC prog 274 [ah (row x),jQ m] (.bool (jO x m)):=by
 have e:=aC b.head;have h:=dn b.head.ok.pl;unfold jO;refine vf 26 [.tmp 4] τok func274 ?_;refine ae (vU b) ?_;refine aI 0 (aL e) ?_;refine af (λg=>?_) (λg=>?_)
 ·rw[KU (p:=(headT x).n.op=1) g,Bool.true_and]
  refine aI 0 (aL e) ?_;refine ae (AB (m:=m) (v:=(headT x).n.a) h.2.2.1 hl) ?_;refine af (λc=>?_) (λc=>?_)
  ·rw[KU (p:=bS m (headT x).n.a=2) c]
   exact aE
  ·rw[KH (p:=bS m (headT x).n.a=2) c]
   exact aE
 ·rw[KH (p:=(headT x).n.op=1) g,Bool.false_and]
  exact aE
end
def sR(B:ak)(pl:List Int)(g:Nat)(rc:RcF):Prop:=∀(N:Int) (x:Tr) (m:List Int),Ft (QB B) N x ->Mk pl m ->m.length+4*(row x).length<=100000 ->(row x).length<=g ->VC prog 257 [qF B pl,ah (row x),jQ m] (.bool (rc x m))
section
variable{B:ak}{pl:List Int}{g:Nat}{rc:RcF}{N:Int}{m:List Int}
theorem AD(p:sR B pl g rc){ys:List Tr}{L:List (List PV)}(q:L=(ys.map row).map rP)(j:∀y∈ys,Ft (QB B) N y/\m.length+4*(row y).length<=100000/\(row y).length<=g)(hl:ys.length<=100000)(hm:Mk pl m):VC prog 272 [qF B pl,jQ m,.sl L] (.bool (ys.all λy=>rc y m)):=by
 subst q;generalize b:(ys.all λy=>rc y m)=c;have s:=au rP (ys.map row);have t:=au row ys;refine cR 21 [.tmp 6] τok func272 ?_;refine aj<|aB τok (σ:=Nat) [(1,_),(3,_),(9,_),(10,_)] [(3,_)] (λi=>[(11,vI i)]) (λ_=>[]) (λi=>i<=ys.length/\((ys.drop i).all λy=>rc y m)=c) (λi=>ys.length-i) 0 ⟨KV _,b⟩ ?_
 clear b
 rintro i ⟨u,a⟩;refine aj<|af (λe=>?_) (λe=>?_)
 ·have e:(i:Int)<(((ys.map row).map rP).length:Int):=e
  obtain⟨y,o,r⟩:=ay (l:=ys) (k:=i);rw[r,List.all_cons]at a;obtain⟨f1,f2,f3⟩:=j y (JQ o);have h:=p N y m f1 hm f2 f3;refine az i (x:=row y) (by rw[JX,o];rfl) ?_;cases n:rc y m with
  |false=>
   rw[n]at h a;obtain rfl:false=c:=a;refine ae h ?_;exact aE
  |true=>
   rw[n]at h;rw[n,Bool.true_and]at a;refine ae h ?_;refine vi ?_;exact aw (i+1) ⟨Uo,a⟩
 ·have e:¬ (i:Int)<(((ys.map row).map rP).length:Int):=e
  rw[List.drop_of_length_le Uo]at a;obtain rfl:true=c:=a;exact aE
end
theorem k7{α β:Type}(f:α ->β)(l:List α)(x:α):(l++[x]).map f=l.map f++[f x]:=Ud
section
variable{B:ak}{pl:List Int}{g:Nat}{rc:RcF}{N:Int}{m:List Int}{x:Tr}
theorem AE(D:sR B pl g rc)(i:Ft (QB B) N x)(w:pl.length<=1000)(hm:Mk pl m)(e:m.length+4*(row x).length<=100000)(t:(row x).length<=g)(n:Nat)(z:n<=1000):VC prog 285 [qF B pl,ah (row x),pI n,jQ m] (.bool (gN rc n x m)):=by
 generalize o:gN rc n x m=s;refine cR 42 [.tmp 8] τok func285 ?_;refine aj<|gm (qH (qG hm w) Uo) ?_;refine aB τok (σ:=Nat×Int×Tr×List Int) [(4,_)] [(4,_)] (λq=>[(1,vP (ah (row q.2.2.1))),(2,vI q.1),(3,.c (.row 1000))]) (λq=>[(1000,.rw 310 1 (q.2.2.2.map iP))]) (λq=>q.1<=1000/\Ft (QB B) q.2.1 q.2.2.1/\Mk pl q.2.2.2/\q.2.2.2.length+4*(row q.2.2.1).length<=100000/\(row q.2.2.1).length<=g/\gN rc q.1 q.2.2.1 q.2.2.2=s) (λq=>q.1) (n,N,x,m) ⟨z,i,hm,e,t,o⟩ ?_ (f:=sw 1000 11)
 clear o i hm e t
 rintro⟨n,N,x,m⟩ ⟨z,i,hm,e,t,b⟩;simp only at z i hm e t b;have E:=aC i;have r:gN rc n x m=rc x m ->VC prog 257 [qF B pl,ah (row x),jQ m] (.bool s):=λh=>by
  rw[<- b,h];exact D N x m i hm e t
 dsimp only
 refine aj<|af (λu=>?_) (λu=>?_)
 ·have u:(n:Int)>0:=u
  obtain⟨k,rfl⟩:∃k,n=k+1:=⟨n-1,Uo⟩
  refine aI 0 (aL E) ?_;refine af (λj=>?_) (λj=>?_)
  ·have j:x.n.op=5:=j
   simp only[gN,KX j]at b;obtain⟨_,f0,f1⟩:=dq i (.inr j);obtain⟨r1,r2,_⟩:=oj i.ok (.inr j);have A:=KG List.length r2;simp only[JK,JV]at A;have v:=D N (kidD x 0) m f0 hm Uo Uo;refine ae (endP i (a:=[x.n]) (y:=kidD x 0) (q:=row (kidD x 1)) r1 f0.ok rfl) ?_;refine bH 1 (1+(row (kidD x 0)).length) ?_ (df _) (h4:=by rw[KF];omega);rw[dH (p:=1) (n:=1+(row (kidD x 0)).length) r1 rfl rfl];cases C:rc (kidD x 0) m with
   |false=>
    rw[C]at v b;obtain rfl:false=s:=b;refine kG v ?_;exact kA9
   |true=>
    rw[C]at v;rw[C,Bool.true_and]at b;refine kG v ?_;refine vk ?_;refine bi ?_ (hb:=Uk);refine bH (1+(row (kidD x 0)).length) (row x).length ?_ (df _) (h1:=rfl) (h2:=by rw[KF]) (h3:=Uo) (h4:=by rw[KF];omega);rw[dH (a:=x.n::row (kidD x 0)) (y:=kidD x 1) (q:=[]) (by rw[JD];exact r2) (by rw[JV];omega) (by rw[JV];omega)];refine vi ?_;refine aw (k,N+1,kidD x 1,m++[2]) ⟨Us,f1,hm.snoc Uo,by simp only[JK,List.length_singleton];omega,Us,b⟩ (sw 1000 34) (x:=⟨rfl,KG (λn:Int=>some (vI n)) Us,rfl,trivial⟩) (y':=⟨KG (λl=>some (SE.rw _ _ l)) (k7 iP m 2).symm,trivial⟩)
  ·have j:¬ x.n.op=5:=j
   refine ae (r (by simp only[gN,KY j])) ?_;exact aE
 ·have u:¬ (n:Int)>0:=u
  obtain rfl:n=0:=Uo
  refine ae (r rfl) ?_;exact aE
theorem MQ(C:sR B pl g rc)(h:Ft (QB B) N x)(z:pl.length<=1000)(hm:Mk pl m)(e:m.length+4*(row x).length<=100000)(t:(row x).length<=g)(p:Nat)(I:p<=1000):VC prog 250 [qF B pl,ah (row x),pI p,jQ m] (.bool (iD rc (p+1) x m)):=by
 generalize o:iD rc (p+1) x m=j;refine cR 47 [.tmp 8] τok func250 ?_;refine aj<|gm (qH (qG hm z) Uo) ?_;refine aB τok (σ:=Nat×Int×Tr×List Int) [(2,_),(4,_)] [(4,_)] (λq=>[(1,vP (ah (row q.2.2.1))),(3,.c (.row 1000)),(9,vI q.1)]) (λq=>[(1000,.rw 310 1 (q.2.2.2.map iP))]) (λq=>q.1<=p+1/\Ft (QB B) q.2.1 q.2.2.1/\Mk pl q.2.2.2/\q.2.2.2.length+4*(row q.2.2.1).length<=100000/\(row q.2.2.1).length<=g/\iD rc (p+1-q.1) q.2.2.1 q.2.2.2=j) (λq=>p+1-q.1) (0,N,x,m) ⟨KV _,h,hm,e,t,o⟩ ?_ (f:=sw 1000 13)
 clear o h hm e t
 rintro⟨i,N,x,m⟩ ⟨E,h,hm,e,t,b⟩;simp only at E h hm e t b;have F:=aC h
 dsimp only
 refine aj<|af (λu=>?_) (λu=>?_)
 ·have u:(i:Int)<=(p:Int):=u
  obtain⟨r,H⟩:∃r,p+1-i=r+1:=⟨p-i,Uo⟩
  rw[H]at b;simp only[iD]at b;refine aI 0 (aL F) ?_;refine af (λk=>?_) (λk=>?_)
  ·have k:x.n.op≠5:=k
   rw[KH k]at b;obtain rfl:false=j:=b;exact aE
  have k:x.n.op=5:=Decidable.not_not.1 k;rw[KU k,Bool.true_and]at b;obtain⟨_,f0,f1⟩:=dq h (.inr k);obtain⟨r1,r2,_⟩:=oj h.ok (.inr k);have A:=KG List.length r2;simp only[JK,JV]at A;have w:=C N (kidD x 0) m f0 hm Uo Uo;refine ae (endP h (a:=[x.n]) (y:=kidD x 0) (q:=row (kidD x 1)) r1 f0.ok rfl) ?_;refine bH 1 (1+(row (kidD x 0)).length) ?_ (df _) (h4:=by rw[KF];omega);rw[dH (p:=1) (n:=1+(row (kidD x 0)).length) r1 rfl rfl];cases s:rc (kidD x 0) m with
  |false=>
   rw[s]at w b;obtain rfl:false=j:=b;refine kG w ?_;exact kA9
  |true=>
   rw[s]at w;rw[s,Bool.true_and]at b;refine kG w ?_;refine vk ?_;refine af (λv=>?_) (λv=>?_)
   ·have v:(i:Int)=(p:Int):=v
    rw[KX Uo]at b;refine bi ?_ (hb:=Uk);refine bH (1+(row (kidD x 0)).length) (row x).length ?_ (df _) (h1:=rfl) (h2:=by rw[KF]) (h3:=Uo) (h4:=by rw[KF];omega);rw[dH (a:=x.n::row (kidD x 0)) (y:=kidD x 1) (q:=[]) (by rw[JD];exact r2) (by rw[JV];omega) (by rw[JV];omega)];refine vi ?_;refine aw (i+1,N+1,kidD x 1,m++[1]) ⟨Us,f1,hm.snoc Uo,by simp only[JK,List.length_singleton];omega,Us,by simp only;rw[show p+1-(i+1)=r by omega];exact b⟩ (sw 1000 39) (hm:=by show p+1-(i+1)<p+1-i;omega) (y':=⟨KG (λl=>some (SE.rw _ _ l)) (k7 iP m 1).symm,trivial⟩)
   ·have v:¬ (i:Int)=(p:Int):=v
    rw[KY Uo]at b;refine bi ?_ (hb:=Uk);refine bH (1+(row (kidD x 0)).length) (row x).length ?_ (df _) (h1:=rfl) (h2:=by rw[KF]) (h3:=Uo) (h4:=by rw[KF];omega);rw[dH (a:=x.n::row (kidD x 0)) (y:=kidD x 1) (q:=[]) (by rw[JD];exact r2) (by rw[JV];omega) (by rw[JV];omega)];refine vi ?_;refine aw (i+1,N+1,kidD x 1,m++[0]) ⟨Us,f1,hm.snoc Uo,by simp only[JK,List.length_singleton];omega,Us,by simp only;rw[show p+1-(i+1)=r by omega];exact b⟩ (sw 1000 39) (hm:=by show p+1-(i+1)<p+1-i;omega) (y':=⟨KG (λl=>some (SE.rw _ _ l)) (k7 iP m 0).symm,trivial⟩)
 ·have u:¬ (i:Int)<=(p:Int):=u
  rw[show p+1-i=0 by omega]at b;have D:=C N x m h hm e t;rw[show rc x m=j from b]at D;refine ae D ?_;exact aE
theorem MR(e:Ft (QB B) N x)(p:Nat)(w:p<=1000):VC prog 249 [ah (row x),pI p] (.bool (dB' p x)):=by
 generalize h:dB' p x=j;refine cR 36 [.tmp 4] τok func249 ?_;refine aj<|aB τok (σ:=Nat×Int×Tr) [(1,_)] [] (λq=>[(0,vP (ah (row q.2.2))),(5,vI q.1)]) (λ_=>[]) (λq=>q.1<=p/\Ft (QB B) q.2.1 q.2.2/\dB' (p-q.1) q.2.2=j) (λq=>(row q.2.2).length) (0,N,x) ⟨KV _,e,h⟩ ?_
 clear h e
 rintro⟨i,N,x⟩ ⟨s,e,b⟩;simp only at s e b;have t:=aC e
 dsimp only
 refine aj<|aI 0 (aL t) ?_;refine af (λc=>?_) (λc=>?_)
 ·have c:x.n.op=4:=c
  obtain⟨_,f0,f1⟩:=dq e (.inl c);obtain⟨r1,r2,_⟩:=oj e.ok (.inl c);have l:=KG List.length r2;simp only[JK,JV]at l;have u:=aC f0.head;refine ae (endP e (a:=[x.n]) (y:=kidD x 0) (q:=row (kidD x 1)) r1 f0.ok rfl) ?_;refine af (λk=>?_) (λk=>?_)
  ·have k:(i:Int)=(p:Int):=k
   rw[show p-i=0 by omega]at b;simp only[dB']at b;rw[KU c,Bool.true_and]at b;refine bH 1 (1+(row (kidD x 0)).length) ?_ (df _) (h4:=by rw[KF];omega);rw[dH (p:=1) (n:=1+(row (kidD x 0)).length) r1 rfl rfl];refine ae (vU f0) ?_;refine aI 0 (aL u) ?_;refine af (λo=>?_) (λo=>?_)
   ·rw[KU (p:=(headT (kidD x 0)).n.op=9) o]at b
    subst b;exact aE
   ·rw[KH (p:=(headT (kidD x 0)).n.op=9) o]at b
    subst b;exact aE
  ·have k:¬ (i:Int)=(p:Int):=k
   obtain⟨r,v⟩:∃r,p-i=r+1:=⟨p-i-1,Uo⟩
   rw[v]at b;simp only[dB']at b;rw[KU c,Bool.true_and]at b;refine bH (1+(row (kidD x 0)).length) (row x).length ?_ (df _) (h1:=rfl) (h2:=by rw[KF]) (h3:=Uo) (h4:=by rw[KF];omega);rw[dH (a:=x.n::row (kidD x 0)) (y:=kidD x 1) (q:=[]) (by rw[JD];exact r2) (by rw[JV];omega) (by rw[JV];omega)];refine vi ?_;exact aw (i+1,N+1,kidD x 1) ⟨Us,f1,by simp only;rw[show p-(i+1)=r by omega];exact b⟩ (hm:=by show (row (kidD x 1)).length<(row x).length;omega)
 ·have c:¬ x.n.op=4:=c
  have:j=false:=by
   rw[<- b];cases p-i<;>simp[dB',c]
  subst this;exact aE
end
section
variable{B:ak}{pl:List Int}{g:Nat}{rc:RcF}{N:Int}{m:List Int}{x:Tr}
theorem MS(hB:GoodB B)(R:sR B pl g rc)(F:pl.length<=1000)(A:Ft (QB B) N x)(w:x.n.op=11)(hm:Mk pl m)(a5:m.length+4*(row x).length<=100000)(hg:(row x).length<=g+1):VC prog 275 [qF B pl,ah (row x),jQ m] (.bool (lT B rc x m)):=by
 have V:=aC A;obtain⟨W,z,a6,a4⟩:=hH A.ok w;obtain⟨i,e,s',ps,qi,hi,a7,he,K,hF⟩:=hB.fam (iS A.node' (.inr w)) (KJ _);have H:∀k,k<x.ks.length ->Ft (QB B) N (kidD x k)/\(row (kidD x k)).length<(row x).length:=λk z=>by
  have:=A.kidN k (by rw[W];exact z) (b:=0) (by simp[kb,bh,w]);rw[Int.add_zero]at this;exact⟨this,(cq V (by rw[W];exact z)).2.2⟩
 have I:∀k,k<x.ks.length ->row x=(x.n::rows (x.ks.take k))++(row (kidD x k)++rows (x.ks.drop (k+1)))/\(rows (x.ks.take (k+1))).length=(rows (x.ks.take k)).length+(row (kidD x k)).length/\(x.n::rows (x.ks.take k)).length+(row (kidD x k)).length<=(row x).length:=λk z=>by
  obtain⟨_,_,r1,r2⟩:=Fu A.ok w z;refine⟨r1,r2,?_⟩;have:=KG List.length r1;simp only[JK]at this;omega
 obtain⟨f0,l0⟩:=H 0 Uo;obtain⟨f1,l1⟩:=H 1 Uo;obtain⟨r0,q0,m0⟩:=I 0 Uo;obtain⟨r1,q1,m1⟩:=I 1 Uo;have z0:(rows (x.ks.take 0)).length=0:=by simp[rows]
 rw[JV]at m0 m1;have q0:(rows (x.ks.take 1)).length=(rows (x.ks.take 0)).length+(row (kidD x 0)).length:=q0;have q1:(rows (x.ks.take 2)).length=(rows (x.ks.take 1)).length+(row (kidD x 1)).length:=q1;have X:(rows (x.ks.take 2)).length=(row (kidD x 0)).length+(row (kidD x 1)).length:=Uo
 have a8:=A.len;have a9:=f1.nargs;have wh:=aC f1.head;have Y:=dn f1.head.ok.pl;have eA:=au rP ((argsT (kidD x 1)).map row);have a':=au row (argsT (kidD x 1));have eC:=au cd e.ctors;obtain⟨nb,b0⟩:∃k:Nat,x.n.b=(k:Int):=⟨x.n.b.toNat,Uo⟩
 generalize j:lT B rc x m=u;unfold lT at j;refine cR 108 [.tmp 6] τok func275 ?_;refine aD<|aD<|ae (endP A (y:=kidD x 0) r0 f0.ok (by rw[JV];omega)) ?_;refine aD<|ae (endP A (y:=kidD x 1) r1 f1.ok (by rw[JV,JV];omega)) ?_;refine aD<|bH 1 ((x.n::rows (x.ks.take 0)).length+(row (kidD x 0)).length) ?_ (df _) (h3:=by rw[JV];omega) (h4:=by rw[KF,JV];omega);rw[dH r0 (by rw[JV];omega) rfl];refine bH (1+(row (kidD x 0)).length) ((x.n::rows (x.ks.take 1)).length+(row (kidD x 1)).length) ?_ (df _) (h1:=by rw[JV];omega) (h3:=by rw[JV];omega) (h4:=by rw[KF,JV];omega);rw[dH r1 (by rw[JV];omega) rfl];have r:=AD R (ys:=[kidD x 0,kidD x 1]) (L:=[[ah (row (kidD x 0))],[ah (row (kidD x 1))]]) rfl (N:=N) (λy Z=>by
  rcases List.mem_cons.1 Z with rfl|Z
  ·exact⟨f0,Uo,Uo⟩
  ·obtain rfl:=List.mem_singleton.1 Z
   exact⟨f1,Uo,Uo⟩) Ud hm
 have M:([kidD x 0,kidD x 1].all λy=>rc y m)=(rc (kidD x 0) m && rc (kidD x 1) m):=Ud
 rw[M]at r;cases ha:(rc (kidD x 0) m && rc (kidD x 1) m)with
 |false=>
  rw[ha]at r j;obtain rfl:false=u:=j;refine ae r ?_;exact kA9
 |true=>
 rw[ha]at r;rw[ha,Bool.true_and]at j;refine ae r ?_;refine vk ?_;refine aD<|bH (1+(row (kidD x 0)).length) ((x.n::rows (x.ks.take 1)).length+(row (kidD x 1)).length) ?_ (df _) (h1:=by rw[JV];omega) (h3:=by rw[JV];omega) (h4:=by rw[KF,JV];omega);rw[dH r1 (by rw[JV];omega) rfl];refine ae (vU f1) ?_;refine aD<|eo τok (σ:=Int) [(1,_),(2,_),(3,_),(8,_),(10,_)] [(3,_)] (λv=>[(11,vI v)]) (λ_=>[]) (λv=>v=if (headT (kidD x 1)).n.op=1 then bS m (headT (kidD x 1)).n.a else 0) ?_ ?_
 ·refine aI 0 (aL wh) ?_
  refine af (λq=>?_) (λq=>?_)
  ·have q:(headT (kidD x 1)).n.op=1:=q
   refine aI 0 (aL wh) ?_;refine ae (AB (m:=m) Y.2.2.1 Uo) ?_;exact aw _ (KX q).symm
  ·have q:¬ (headT (kidD x 1)).n.op=1:=q
   exact aw 0 (KY q).symm
 intro v hv;refine eo τok (σ:=Bool) [(1,_),(2,_),(3,_),(8,_)] [(3,_)] (λb=>[(12,vP (.bool b))]) (λ_=>[]) (λb=>b=pi (kidD x 1) m) ?_ ?_
 ·have S:pi (kidD x 1) m=(decide (v=2)||(decide (v=1) && decide ((argsT (kidD x 1)).length=0))):=by rw[hv];rfl
  refine af (λq=>?_) (λq=>?_)
  ·exact aw true (by rw[S,KU (p:=v=2) q];rfl)
  refine af (λC=>?_) (λC=>?_)
  ·refine af (λO=>?_) (λO=>?_)
   ·have O:((((argsT (kidD x 1)).map row).map rP).length:Int)=0:=O
    exact aw true (by rw[S,KH (p:=v=2) q,KU (p:=v=1) C,KU Uo];rfl)
   ·have O:¬ ((((argsT (kidD x 1)).map row).map rP).length:Int)=0:=O
    exact aw false (by rw[S,KH (p:=v=2) q,KU (p:=v=1) C,KH Uo];rfl)
  ·exact aw false (by rw[S,KH (p:=v=2) q,KH (p:=v=1) C];rfl)
 intro D a0;rw[<- a0,W,hi]at j;rw[hi]at K;refine aj<|aI 0 (aL V) ?_;refine de i he ?_;refine vk ?_;refine aI 0 (aL V) ?_;refine aB τok (σ:=Nat) [(1,_),(2,_),(3,_),(12,_),(13,_),(77,_)] [(3,_)] (λk=>[(8,vI ((1+(rows (x.ks.take (2+k))).length:Nat):Int)),(78,vI k)]) (λ_=>[]) (λk=>k<=nb/\nh B rc i D m k (x.ks.drop (2+k))=u) (λk=>nb-k) 0 ⟨KV _,j⟩ ?_ (x1:=⟨KG (λn:Int=>some (vI n)) (by rw[JV,X];omega),rfl,trivial⟩)
 clear j
 rintro k ⟨b1,h⟩;refine aj<|af (λq=>?_) (λq=>?_)
 ·have q:(k:Int)<x.n.b:=q
  obtain⟨T,kL⟩:=H (2+k) Uo;obtain⟨U,kl,km⟩:=I (2+k) Uo;rw[JV]at km;have E:=(Fu A.ok w (k:=2+k) Uo).1;have a1:x.ks.drop (2+k)=kidD x (2+k)::x.ks.drop (2+k+1):=by
   rw[List.drop_eq_getElem_cons Uo];rw[gE]at E;rw[JB E]
  rw[a1]at h;simp only[nh,K]at h;refine ae (endP A (y:=kidD x (2+k)) U T.ok (by rw[JV];omega)) ?_;cases D with
  |false=>
   rw[Bool.false_and,KY UO]at h;refine bH (1+(rows (x.ks.take (2+k))).length) ((x.n::rows (x.ks.take (2+k))).length+(row (kidD x (2+k))).length) ?_ (df _) (h1:=rfl) (h3:=by rw[JV];omega) (h4:=by rw[KF,JV];omega);rw[dH U (by rw[JV];omega) rfl];have s:=AE R T F hm Uo Uo 0 Uo;cases o:gN rc 0 (kidD x (2+k)) m with
   |false=>
    rw[o]at s h;obtain rfl:false=u:=h;refine ae s ?_;exact kA9
   |true=>
    rw[o]at s;rw[o,Bool.true_and]at h;refine ae s ?_;refine vk ?_;refine vi ?_;exact aw (k+1) ⟨Uo,by rw[show 2+(k+1)=2+k+1 by omega];exact h⟩ (x:=⟨KG (λn:Int=>some (vI n)) (by rw[show 2+(k+1)=2+k+1 by omega,kl,JV];omega),rfl,trivial⟩)
  |true=>
   rw[Bool.true_and]at h;refine af (λC=>?_) (λC=>?_)
   ·have C:(k:Int)<((e.ctors.map cd).length:Int):=C
    rw[KX (KU Uo)]at h;obtain⟨c,hc,_⟩:=ay (l:=e.ctors) (k:=k);have a2:e.ctors.getD k default=c:=by rw[QK,hc];rfl
    rw[a2]at h;obtain⟨ga,go,P⟩:=hF.ct k c hc;have b2:c.args.length<=16:=by rw[P.args,KF];exact P.la
    have a3:=au (λt=>[ah t]) c.args;rw[<- a3]at h;refine gI k hc ?_;refine bH (1+(rows (x.ks.take (2+k))).length) ((x.n::rows (x.ks.take (2+k))).length+(row (kidD x (2+k))).length) ?_ (df _) (h1:=rfl) (h3:=by rw[JV];omega) (h4:=by rw[KF,JV];omega);rw[dH U (by rw[JV];omega) rfl];have s:=AE R T F hm Uo Uo (c.args.map λt=>[ah t]).length Uo;cases o:gN rc (c.args.map λt=>[ah t]).length (kidD x (2+k)) m with
    |false=>
     rw[o]at s h;obtain rfl:false=u:=h;refine ae s ?_;exact kA9
    |true=>
     rw[o]at s;rw[o,Bool.true_and]at h;refine ae s ?_;refine vk ?_;refine vi ?_;exact aw (k+1) ⟨Uo,by rw[show 2+(k+1)=2+k+1 by omega];exact h⟩ (x:=⟨KG (λn:Int=>some (vI n)) (by rw[show 2+(k+1)=2+k+1 by omega,kl,JV];omega),rfl,trivial⟩)
   ·have C:¬ (k:Int)<((e.ctors.map cd).length:Int):=C
    rw[KY (by simpa using (by omega:¬ k<e.ctors.length))]at h;refine bH (1+(rows (x.ks.take (2+k))).length) ((x.n::rows (x.ks.take (2+k))).length+(row (kidD x (2+k))).length) ?_ (df _) (h1:=rfl) (h3:=by rw[JV];omega) (h4:=by rw[KF,JV];omega);rw[dH U (by rw[JV];omega) rfl];have s:=AE R T F hm Uo Uo 0 Uo;cases o:gN rc 0 (kidD x (2+k)) m with
    |false=>
     rw[o]at s h;obtain rfl:false=u:=h;refine ae s ?_;exact kA9
    |true=>
     rw[o]at s;rw[o,Bool.true_and]at h;refine ae s ?_;refine vk ?_;refine vi ?_;exact aw (k+1) ⟨Uo,by rw[show 2+(k+1)=2+k+1 by omega];exact h⟩ (x:=⟨KG (λn:Int=>some (vI n)) (by rw[show 2+(k+1)=2+k+1 by omega,kl,JV];omega),rfl,trivial⟩)
 ·have q:¬ (k:Int)<x.n.b:=q
  rw[JY Uo]at h;obtain rfl:true=u:=h;exact aE
end
theorem MT(m:List Int)(k:Nat):m.map iP++List.replicate k [PV.int .i64 0]=(m++List.replicate k 0).map iP:=by
 rw[KB,List.map_replicate]
 rfl
section
variable{B:ak}{pl:List Int}
theorem MU(hB:GoodB B)(a0:∀p∈pl,0<=p/\p<=15)(a5:pl.length<=100):∀g,sR B pl g (fB B pl g):=by
 intro g
 induction g with
 |zero=>
  intro N x m _ _ _ h;have:=aZ x;omega
 |succ g K=>
 intro N x m U v a8 hg;have u:=U.head;have wh:=aC u;have hn:=U.nargs;have a9:=U.len;have V:=dn u.ok.pl;have eA:=au (λt=>[ah t]) ((argsT x).map row);have a':=au row (argsT x);have eP:=au iP pl;have b0:=aZ (headT x);have F:∀y∈argsT x,Ft (QB B) N y/\m.length+4*(row y).length<=100000/\(row y).length<=g:=λy T=>by
  have:=eO' T;exact⟨U.args y T,Uo,Uo⟩
 generalize b:fB B pl (g+1) x m=s;simp only[fB]at b
 generalize a6:fB B pl g=rc at *
 refine cR 156 [.tmp 6] τok func257 ?_;refine aj ?_;have r:=AD K (ys:=argsT x) rfl F Uo v;refine ae (vU U) ?_;cases ha:((argsT x).all λy=>rc y m)with
 |false=>
  rw[ha]at r b;obtain rfl:false=s:=b;refine ae r ?_;exact aE
 |true=>
 rw[ha]at r;rw[ha,Bool.true_and]at b;refine ae r ?_;refine aI 0 (aL wh) ?_
 generalize b1:headT x=h at *
 refine af (λR=>?_) (λR=>?_)
 ·have R:h.n.op=1:=R
  rw[KX R]at b;refine ae (AB (m:=m) V.2.2.1 Uo) ?_;refine af (λE=>?_) (λE=>?_)
  ·rw[KX E]at b
   subst b;exact aE
  ·rw[KY E]at b
   obtain⟨j,hj,ej⟩:=(v.of V.2.2.1).resolve_left E;rw[ej,show ((100:Int)+j-100).toNat=j by omega]at b;obtain⟨p,hp,_⟩:=ay (l:=pl) (k:=j) hj;obtain⟨p0,b2⟩:=a0 p (JQ hp);rw[QK,hp]at b;have b:(decide (p<(argsT x).length) && jO (fK x p) m)=s:=b;rw[ej];refine vi ?_;refine vm (p:=iP) j hp ?_ Uo;refine af (λA=>?_) (λA=>?_)
   ·have A:((((argsT x).map row).map λt=>[ah t]).length:Int)>p:=A
    rw[KU Uo,Bool.true_and]at b;obtain⟨z,W,_⟩:=ay (l:=argsT x) (k:=p.toNat);have e:fK x p=z:=by simp[fK,W]
    rw[e]at b;have hl:=MP (m:=m) (F z (JQ W)).1 Uo;rw[b]at hl;refine az p.toNat (x:=row z) (by rw[JX,W];rfl) ?_;refine ae hl ?_;exact aE
   ·have A:¬ ((((argsT x).map row).map λt=>[ah t]).length:Int)>p:=A
    rw[KH Uo]at b;obtain rfl:false=s:=b;exact aE
 have R:¬ h.n.op=1:=R;rw[KY R]at b;refine af (λE=>?_) (λE=>?_)
 ·have E:h.n.op=11:=E
  rw[KX E]at b;have hM:=MS hB K Uo u E v Uo Uo;rw[b]at hM;refine ae hM ?_;exact aE
 have E:¬ h.n.op=11:=E;rw[KY E]at b;refine af (λA=>?_) (λA=>?_)
 ·have A:h.n.op=4:=A
  rw[KX (.inl A)]at b;obtain⟨_,f0,f1⟩:=dq u (.inl A);obtain⟨r1,r2,_⟩:=oj u.ok (.inl A);have H:=KG List.length r2;simp only[JK,JV]at H;have C:=K N (kidD h 0) m f0 v Uo Uo;have D:=K (N+1) (kidD h 1) (m++[0]) f1 (v.snoc (.inl rfl)) (by rw[JK,List.length_singleton];omega) Uo;unfold jQ at D;rw[k7]at D;refine ae (endP u (a:=[h.n]) (y:=kidD h 0) (q:=row (kidD h 1)) r1 f0.ok rfl) ?_;refine bH 1 (1+(row (kidD h 0)).length) ?_ (df _) (h4:=by rw[KF];omega);rw[dH (p:=1) (n:=1+(row (kidD h 0)).length) r1 rfl rfl];cases w:rc (kidD h 0) m with
  |false=>
   rw[w]at C b;obtain rfl:false=s:=b;refine ae C ?_;exact kA9
  |true=>
   rw[w]at C;rw[w,Bool.true_and]at b;rw[b]at D;refine ae C ?_;refine bH (1+(row (kidD h 0)).length) (row h).length ?_ (df _) (h1:=rfl) (h2:=by rw[KF]) (h3:=Uo) (h4:=by rw[KF];omega);rw[dH (a:=h.n::row (kidD h 0)) (y:=kidD h 1) (q:=[]) (by rw[JD];exact r2) (by rw[JV];omega) (by rw[JV];omega)];refine gm (qH (qG v Uo) Uo) ?_;refine bi ?_ (hb:=Uk);refine ae D ?_;exact kA9
 have A:¬ h.n.op=4:=A;refine af (λP=>?_) (λP=>?_)
 ·have P:h.n.op=5:=P
  rw[KX (.inr P)]at b;obtain⟨_,f0,f1⟩:=dq u (.inr P);obtain⟨r1,r2,_⟩:=oj u.ok (.inr P);have H:=KG List.length r2;simp only[JK,JV]at H;have C:=K N (kidD h 0) m f0 v Uo Uo;have D:=K (N+1) (kidD h 1) (m++[0]) f1 (v.snoc (.inl rfl)) (by rw[JK,List.length_singleton];omega) Uo;unfold jQ at D;rw[k7]at D;refine ae (endP u (a:=[h.n]) (y:=kidD h 0) (q:=row (kidD h 1)) r1 f0.ok rfl) ?_;refine bH 1 (1+(row (kidD h 0)).length) ?_ (df _) (h4:=by rw[KF];omega);rw[dH (p:=1) (n:=1+(row (kidD h 0)).length) r1 rfl rfl];cases w:rc (kidD h 0) m with
  |false=>
   rw[w]at C b;obtain rfl:false=s:=b;refine ae C ?_;exact kA9
  |true=>
   rw[w]at C;rw[w,Bool.true_and]at b;rw[b]at D;refine ae C ?_;refine bH (1+(row (kidD h 0)).length) (row h).length ?_ (df _) (h1:=rfl) (h2:=by rw[KF]) (h3:=Uo) (h4:=by rw[KF];omega);rw[dH (a:=h.n::row (kidD h 0)) (y:=kidD h 1) (q:=[]) (by rw[JD];exact r2) (by rw[JV];omega) (by rw[JV];omega)];refine gm (qH (qG v Uo) Uo) ?_;refine bi ?_ (hb:=Uk);refine ae D ?_;exact kA9
 have P:¬ h.n.op=5:=P;rw[KY Uo]at b;refine af (λO=>?_) (λO=>?_)
 ·have O:h.n.op=7:=O
  rw[KX O]at b;obtain⟨k3,f0,f1,f2⟩:=kU u O;obtain⟨_,_,_,r1,r2,Z⟩:=qx u.ok O;have H:=KG List.length Z;simp only[JK,JV]at H;have h2:=K (N+1) (kidD h 2) (m++[0]) f2 (v.snoc (.inl rfl)) (by rw[JK,List.length_singleton];omega) Uo;unfold jQ at h2;rw[k7]at h2;have r:=AD K (ys:=[kidD h 0,kidD h 1]) (L:=[[ah (row (kidD h 0))],[ah (row (kidD h 1))]]) rfl (N:=N) (λy T=>by
   rcases List.mem_cons.1 T with rfl|T
   ·exact⟨f0,Uo,Uo⟩
   ·obtain rfl:=List.mem_singleton.1 T
    exact⟨f1,Uo,Uo⟩) Ud v
  have X:([kidD h 0,kidD h 1].all λy=>rc y m)=(rc (kidD h 0) m && rc (kidD h 1) m):=Ud
  rw[X]at r;refine ae (endP u (a:=[h.n]) (y:=kidD h 0) (q:=row (kidD h 1)++row (kidD h 2)) r1 f0.ok rfl) ?_;refine ae (endP u (a:=h.n::row (kidD h 0)) (y:=kidD h 1) (q:=row (kidD h 2)) r2 f1.ok Uk) ?_;refine bH 1 (1+(row (kidD h 0)).length) ?_ (df _) (h4:=by rw[KF];omega);rw[dH (p:=1) (n:=1+(row (kidD h 0)).length) r1 rfl rfl];refine bH (1+(row (kidD h 0)).length) ((h.n::row (kidD h 0)).length+(row (kidD h 1)).length) ?_ (df _) (h1:=rfl) (h3:=by rw[JV];omega) (h4:=by rw[KF,JV];omega);rw[dH r2 (by rw[JV];omega) rfl];cases w:(rc (kidD h 0) m && rc (kidD h 1) m)with
  |false=>
   rw[w]at r b;obtain rfl:false=s:=b;refine ae r ?_;exact kA9
  |true=>
   rw[w]at r;rw[w,Bool.true_and]at b;rw[b]at h2;refine ae r ?_;refine bH ((h.n::row (kidD h 0)).length+(row (kidD h 1)).length) (row h).length ?_ (df _) (h1:=rfl) (h2:=by rw[KF]) (h3:=by rw[JV];omega) (h4:=by rw[KF];omega);rw[dH (a:=h.n::(row (kidD h 0)++row (kidD h 1))) (y:=kidD h 2) (q:=[]) (by rw[JD];exact Z) (by rw[JV,JV,JK];omega) (by rw[JV,JK];omega)];refine gm (qH (qG v Uo) Uo) ?_;refine bi ?_ (hb:=Uk);refine ae h2 ?_;exact kA9
 have O:¬ h.n.op=7:=O;rw[KY O]at b;refine af (λI=>?_) (λI=>?_)
 ·have I:h.n.op=12:=I
  rw[KX I]at b;obtain⟨l1,l2,l3,l4,l5⟩:=dp u.ok I;have b3:=fA u.ok I;obtain⟨M,a1⟩:∃k,h.n.b.toNat=k:=⟨_,rfl⟩
  have b4:h.n.b=(M:Int):=Uo
  rw[a1]at b;have W:=v.zeros M;refine gm (qH (qG v Uo) Uo) ?_;refine JM M ?_;refine vk ?_;refine aB τok (σ:=Nat) [(2,_),(3,_),(7,_),(125,_)] [(3,_)] (λi=>[(15,vI ((1+(rows (h.ks.take i)).length:Nat):Int)),(16,.c (.row 1000)),(126,vI i)]) (λi=>[(1000,.rw 310 1 ((m++List.replicate M 0).map iP))]) (λi=>i<=M/\lU rc m (m++List.replicate M 0) ((kidsT h).drop (2*i))=s) (λi=>M-i) 0 ⟨KV _,b⟩ ?_ (f:=sw 1000 123) (x1:=⟨KG (λn:Int=>some (vI n)) (by simp[rows]),rfl,rfl,trivial⟩) (y1:=⟨KG (λl=>some (SE.rw _ _ l)) (MT m M),trivial⟩)
  clear b
  rintro i ⟨hi,o⟩
  dsimp only
  refine aj<|af (λY=>?_) (λY=>?_)
  ·have Y:(i:Int)<h.n.b:=Y
   obtain⟨f,hf,a2,a3,b5,b6,b7,b8,a7,r1,r2,Z,r4⟩:=vG u.ok I (i:=i) Uo;obtain⟨_,_,f0,f1⟩:=gM u I (i:=i) Uo;have a4:=KG List.length r1;simp only[JK,JV,JU]at a4;rw[r4]at o;simp only[lU]at o;have C:=K N (kidD h (2*i)) m f0 v Uo Uo;have D:=K (N+h.n.b) (kidD h (2*i+1)) (m++List.replicate M 0) f1 W (by rw[JK,List.length_replicate];omega) Uo;have e1:(h.n::(rows (h.ks.take i)++[f.n])).length=1+(rows (h.ks.take i)).length+1:=Uk
   have e2:(h.n::(rows (h.ks.take i)++(f.n::row (kidD h (2*i))))).length=1+(rows (h.ks.take i)).length+1+(row (kidD h (2*i))).length:=Uk
   refine vi ?_;refine ae (endP u (y:=kidD h (2*i)) r1 a2 (by rw[e1];omega)) ?_;refine ae (endP u (y:=kidD h (2*i+1)) r2 a3 (by rw[e1,e2])) ?_;refine vi ?_;refine bH (1+(rows (h.ks.take i)).length+1) ((h.n::(rows (h.ks.take i)++[f.n])).length+(row (kidD h (2*i))).length) ?_ (df _) (h1:=Uo) (h2:=rfl) (h3:=Uo) (h4:=by rw[KF];omega);rw[dH r1 e1.symm rfl];cases w:rc (kidD h (2*i)) m with
   |false=>
    rw[w]at C o;obtain rfl:false=s:=o;refine kG C ?_;exact kA9
   |true=>
   rw[w]at C;rw[w,Bool.true_and]at o;refine kG C ?_;refine bH ((h.n::(rows (h.ks.take i)++[f.n])).length+(row (kidD h (2*i))).length) ((h.n::(rows (h.ks.take i)++(f.n::row (kidD h (2*i))))).length+(row (kidD h (2*i+1))).length) ?_ (df _) (h1:=rfl) (h2:=rfl) (h3:=Uo) (h4:=by rw[KF];omega);rw[dH r2 Uo rfl];cases S:rc (kidD h (2*i+1)) (m++List.replicate M 0)with
   |false=>
    rw[S]at D o;obtain rfl:false=s:=o;refine kG D ?_;exact kA9
   |true=>
   rw[S]at D;rw[S,Bool.true_and]at o;refine kG D ?_;refine vk ?_;refine vi ?_;exact aw (i+1) ⟨Uo,o⟩ (x:=⟨KG (λn:Int=>some (vI n)) (by rw[Z];omega),rfl,rfl,trivial⟩)
  ·have Y:¬ (i:Int)<h.n.b:=Y
   rw[JY Uo]at o;obtain rfl:true=s:=o;exact aE
 ·have I:¬ h.n.op=12:=I
  rw[KY I]at b;subst b;exact aE
end
theorem oE{x:Tr}(b:Ok .tm x)(i:Nat):0<=kb x.n i/\kb x.n i<=4:=by
 obtain⟨n,c⟩:=x;obtain⟨a,_,_⟩:=b.tm;show 0<=kb n i/\kb n i<=4;unfold kb;split
 ·rename_i h
  have:aX n.b 1 4=true:=by simp[aG,h]at a;exact a.1
  have:=dE.1 this;split<;>omega
 ·have:=yV n i
  omega
def pp(q:Int×Int)(m:Int):Int:=max (max (q.1-q.2) (-1)) m
def dI(l:List (Int×Int)):Int:=l.foldr pp (-1)
theorem oc':∀l,-1<=dI l
 |[]=>by simp[dI]
 |q::r=>by
  have:=oc' r;simp only[dI,List.foldr_cons,pp]at this ⊢;omega
theorem uZ':∀(l m:List (Int×Int)),dI (l++m)=max (dI l) (dI m)
 |[],m=>by have:=oc' m;simp only[dI,List.nil_append,List.foldr_nil]at this ⊢;omega
 |q::r,m=>by
  have:=uZ' r m;simp only[dI,List.cons_append,List.foldr_cons,pp]at this ⊢;omega
theorem MW{l:List (Int×Int)}{b:Int}(hb:-1<=b)(h:∀q∈l,q.1-q.2<=b):dI l<=b:=by
 induction l with
 |nil=>exact hb
 |cons q r a=>
  have c:=a λz e=>h z (by simp[e]);have i:=h q Ud;simp only[dI,List.foldr_cons,pp]at c ⊢;omega
theorem MX{l:List (Int×Int)}{n:Int}:(dI l<0 \/dI l<n)↔l.all (λq=>decide (q.1-q.2<max n 0))=true:=by
 rw[List.all_eq_true]
 induction l with
 |nil=>simp[dI]
 |cons q r a=>
  have b:=oc' r;simp only[JJ,forall_eq_or_imp,decide_eq_true_eq]at a ⊢;rw[<- a];simp only[dI,List.foldr_cons,pp]at b ⊢;omega
def Dp(d:Int)(x:Tr):Prop:=0<=d/\d+4*(row x).length<=1000000000
theorem Dp.kid{d:Int}{x:Tr}(h:Dp d x)(a:Ok .tm x){i:Nat}{y:Tr}(b:(kidsT x)[i]?=some y):Dp (d+kb x.n i) y:=by
 have:=fN a b;have:=oE a i;unfold Dp at h ⊢;omega
theorem vV{x:Tr}(b:Ok .tm x){d:Int}(a:Dp d x):∀q∈varsT x d 0,d<=q.2/\q.2<=1000000000/\0<=q.1/\q.1<=1048576:=λq c=>by
 have:=fr' x .tm d 0 b.1 a.1 Uo Uo q c;have:=a.2;omega
theorem k8{x:Tr}(a:Ok .tm x)(h1:x.n.op=1):kidsT x=[]/\atmsT x=[]/\funsT x=[]/\x= .mk x.n []/\x.n.b=0/\0<=x.n.a/\x.n.a<=1048576:=by
 obtain⟨n,c⟩:=x;have h1:n.op=1:=h1;have b:=List.length_eq_zero_iff.1 (qj a.kids.1 h1);subst b;have:=MH h1 a.tm.1;exact⟨by simp[kidsT],KY (by rw[show (Tr.mk n []).n=n from rfl];omega),KY (by rw[show (Tr.mk n []).n=n from rfl];omega),rfl,this.2.2,this.1,this.2.1⟩
theorem vW{x:Tr}(h1:x.n.op=1)(d:Int):varsT x d 0=[(x.n.a,d)]:=by
 obtain⟨n,a⟩:=x;exact KX h1
theorem gc(n:Nd)(i:Nat):kb ⟨n.op,n.a,n.b⟩ i=kb n i:=rfl
theorem FV(N:Nat)(F:N<=1000000):∀(x:Tr) (d:Int),Wf x ->Dp d x ->(row x).length<=N ->VC prog 149 [bE x,pI d] (pI (dI (varsT x d 0))):=by
 induction N with
 |zero=>
  intro x d _ _ h;have:=aZ x;omega
 |succ N t=>
  intro x d a o H;have u:=iy a.ok;have I:=au trP (kidsT x);have p:=o;unfold Dp at p;refine vf 39 [.tmp 4] τok func149 ?_;refine af (λj=>?_) (λj=>?_)
  ·have K:=k8 a.ok j
   refine vi ?_;exact aE (h3:=by rw[vW j];simp only[dI,List.foldr_cons,List.foldr_nil,pp];exact KG pI Uo)
  ·have c:=Ax (d:=d) a.ok j
   rw[c];have e:=vV a.ok o;rw[c]at e;have v:=oc' (vK x.n d (kidsT x) 0);have w:=MW (l:=vK x.n d (kidsT x) 0) (b:=1048576) Uo λq z=>by have:=e q z;omega
   refine aB τok (σ:=Nat×Int) [(1,_),(2,_)] [(2,_)] (λq=>[(5,vI q.2),(6,vI q.1)]) (λ_=>[]) (λq=>q.1<=(kidsT x).length/\ -1<=q.2/\max q.2 (dI (vK x.n d ((kidsT x).drop q.1) q.1))=dI (vK x.n d (kidsT x) 0)) (λq=>(kidsT x).length-q.1) (0,-1) ⟨KV _,UO,by have:=oc' (vK x.n d (kidsT x) 0);simp only[List.drop_zero];omega⟩ ?_;rintro⟨i,m⟩ ⟨A,C,r⟩;simp only at A C r;refine aj<|af (λg=>?_) (λg=>?_)
   ·obtain⟨y,n,s⟩:=ay (l:=kidsT x) (k:=i)
    have D:=fN a.ok n;have E:=oE a.ok i;rw[s,vK,uZ']at r;refine vt i n ?_;refine ae (qs _ _ _ i Uo) ?_;refine vi ?_ (by simp only[gc];omega) (by simp only[gc];omega);refine ae (t Uo y _ (a.kid n) (o.kid a.ok n) Uo) ?_;refine vk ?_;refine vi ?_;exact aw (i+1,max m (dI (varsT y (d+kb x.n i) 0))) ⟨Us,Us,Us⟩
   ·rw[JY Uo]at r
    have:dI (vK x.n d [] i)= -1:=rfl;exact⟨_,_,rfl,rfl,KG pI Us⟩
theorem MY{x:Tr}(a:Wf x)(n:Int):VC prog 88 [ah (row x),pI n] (.bool (kK x n)):=by
 have j:=FV 4096 Uo x 0 a ⟨Uo,by have:=a.len;omega⟩ a.len;have b:=MX (l:=varsT x 0 0) (n:=n);have e:(dI (varsT x 0 0)<0 \/dI (varsT x 0 0)<n) ->PV.bool true= .bool (kK x n):=λh=>KG PV.bool (b.1 h).symm;have k:¬ (dI (varsT x 0 0)<0 \/dI (varsT x 0 0)<n) ->PV.bool false= .bool (kK x n):=λh=>by
  cases o:kK x n with
  |false=>rfl
  |true=>exact absurd (b.2 o) h
 refine vf 25 [.tmp 4] τok func88 ?_;refine ae (jx a) ?_;refine ae j ?_;refine af (λc=>?_) (λc=>?_)
 ·exact⟨_,_,rfl,rfl,e (.inl c)⟩
 ·refine af (λi=>?_) (λi=>?_)
  ·exact⟨_,_,rfl,rfl,e (.inr i)⟩
  ·exact⟨_,_,rfl,rfl,k Uo⟩
def hiF(by_:Int)(q:Int×Int)(m:Int):Int:=max (if q.2<=q.1 then q.1+by_ else -1) m
def gP(by_:Int)(l:List (Int×Int)):Int:=l.foldr (hiF by_) (-1)
theorem AF{b:Int}:∀l,-1<=gP b l
 |[]=>by simp[gP]
 |q::r=>by
  have:=AF (b:=b) r;simp only[gP,List.foldr_cons,hiF]at this ⊢;omega
theorem FW{b:Int}:∀(l m:List (Int×Int)),gP b (l++m)=max (gP b l) (gP b m)
 |[],m=>by have:=AF (b:=b) m;simp only[gP,List.nil_append,List.foldr_nil]at this ⊢;omega
 |q::r,m=>by
  have:=FW (b:=b) r m;simp only[gP,List.cons_append,List.foldr_cons,hiF]at this ⊢;omega
theorem sS{b c:Int}{l:List (Int×Int)}(hc:-1<=c)(h:∀q∈l,q.2<=q.1 ->q.1+b<=c):gP b l<=c:=by
 induction l with
 |nil=>exact hc
 |cons q r a=>
  have e:=a λz i=>h z (by simp[i]);have j:=h q Ud;simp only[gP,List.foldr_cons,hiF]at e ⊢;split<;>omega
theorem sT(b:Int)(hb:0<=b/\b<=1000000000)(N:Nat)(E:N<=1000000):∀(x:Tr) (d:Int),Wf x ->Dp d x ->(row x).length<=N ->VC prog 151 [bE x,pI b,pI d] (pI (gP b (varsT x d 0))):=by
 induction N with
 |zero=>
  intro x d _ _ h;have:=aZ x;omega
 |succ N u=>
  intro x d a n F;have v:=iy a.ok;have H:=au trP (kidsT x);have o:=n;unfold Dp at o;refine vf 46 [.tmp 6] τok func151 ?_;refine af (λc=>?_) (λc=>?_)
  ·have I:=k8 a.ok c
   refine af (λp=>?_) (λp=>?_)
   ·refine vi ?_
    exact aE (h3:=by rw[vW c];simp only[gP,List.foldr_cons,List.foldr_nil,hiF,KX p];exact KG pI Uo)
   ·exact aE (h3:=by rw[vW c];simp only[gP,List.foldr_cons,List.foldr_nil,hiF,KY p];exact KG pI Uo)
  ·have e:=Ax (d:=d) a.ok c
   rw[e];have r:=vV a.ok n;rw[e]at r;have w:=AF (b:=b) (vK x.n d (kidsT x) 0);refine aB τok (σ:=Nat×Int) [(1,_),(2,_),(3,_)] [(3,_)] (λq=>[(7,vI q.2),(8,vI q.1)]) (λ_=>[]) (λq=>q.1<=(kidsT x).length/\ -1<=q.2/\max q.2 (gP b (vK x.n d ((kidsT x).drop q.1) q.1))=gP b (vK x.n d (kidsT x) 0)) (λq=>(kidsT x).length-q.1) (0,-1) ⟨KV _,UO,by simp only[List.drop_zero];omega⟩ ?_;rintro⟨i,m⟩ ⟨z,A,s⟩;simp only at z A s;refine aj<|af (λg=>?_) (λg=>?_)
   ·obtain⟨y,j,t⟩:=ay (l:=kidsT x) (k:=i)
    have C:=fN a.ok j;have D:=oE a.ok i;rw[t,vK,FW]at s;refine vt i j ?_;refine ae (qs _ _ _ i Uo) ?_;refine vi ?_ (by simp only[gc];omega) (by simp only[gc];omega);refine ae (u Uo y _ (a.kid j) (n.kid a.ok j) Uo) ?_;refine vk ?_;refine vi ?_;exact aw (i+1,max m (gP b (varsT y (d+kb x.n i) 0))) ⟨Us,Us,Us⟩
   ·rw[JY Uo]at s
    have:gP b (vK x.n d [] i)= -1:=rfl;exact⟨_,_,rfl,rfl,KG pI Us⟩
def cU(l:List (Int×Int)):Nat:=(l.filter λq=>decide (q.1=q.2)).length
def nt(v:Int)(q:Int×Int)(m:Int):Int:=if q.1=q.2 then max (q.2-v) m else m
def dY(v:Int)(l:List (Int×Int)):Int:=l.foldr (nt v) 0
theorem vX{q:Int×Int}{l:List (Int×Int)}:cU (q::l)=(if q.1=q.2 then 1 else 0)+cU l:=by
 unfold cU;rw[List.filter_cons]
 by_cases h:q.1=q.2
 ·rw[KX (KU h),KX h,JV];omega
 ·rw[KY (by simpa using h),KY h];omega
theorem MZ(l m:List (Int×Int)):cU (l++m)=cU l+cU m:=by
 unfold cU;rw[List.filter_append,JK]
theorem pq{v:Int}:∀l,0<=dY v l
 |[]=>by simp[dY]
 |q::r=>by
  have:=pq (v:=v) r;simp only[dY,List.foldr_cons,nt]at this ⊢;split<;>omega
theorem FX{v:Int}:∀(l m:List (Int×Int)),dY v (l++m)=max (dY v l) (dY v m)
 |[],m=>by have:=pq (v:=v) m;simp only[dY,List.nil_append,List.foldr_nil]at this ⊢;omega
 |q::r,m=>by
  have:=FX (v:=v) r m;simp only[dY,List.cons_append,List.foldr_cons,nt]at this ⊢;split<;>omega
theorem FY{v k:Int}(i:0<=k):∀l:List (Int×Int),(∀q∈l,v+k<=q.2) ->dY v l=if 0<cU l then dY (v+k) l+k else 0
 |[],_=>rfl
 |q::r,h=>by
  have b:=FY i r λz c=>h z (by simp[c]);have p:=h q Ud;have j:=pq (v:=v+k) r;rw[vX];simp only[dY,List.foldr_cons,nt]at b j ⊢;have n:∀l:List (Int×Int),¬ 0<cU l ->l.foldr (nt (v+k)) 0=0:=by
   intro l
   induction l with
   |nil=>intro _;rfl
   |cons z l o=>
    intro h;rw[vX]at h;split at h
    ·omega
    ·rename_i c
     simp only[List.foldr_cons,nt,KY c];exact o Uo
  by_cases a:q.1=q.2
  ·rw[KX a,KX a,KX a,b,KX (show 0<1+cU r by omega)]
   by_cases e:0<cU r
   ·rw[KX e]
    omega
   ·rw[KY e,n r e]
    omega
  ·rw[KY a,KY a,KY a,b]
   simp
theorem AG{v c:Int}{l:List (Int×Int)}(hc:0<=c)(h:∀q∈l,q.2-v<=c):dY v l<=c:=by
 induction l with
 |nil=>exact hc
 |cons q r a=>
  have b:=a λz e=>h z (by simp[e]);have i:=h q Ud;simp only[dY,List.foldr_cons,nt]at b ⊢;split<;>omega
theorem AH(l:List (Int×Int)):cU l<=l.length:=List.length_filter_le _ _
theorem FZ(N:Nat)(Y:N<=1000000):∀(x:Tr) (d:Int),Wf x ->Dp d x ->(row x).length<=N ->VC prog 155 [bE x,pI d] (.tup [pI (cU (varsT x d 0)),pI (dY d (varsT x d 0))]):=by
 induction N with
 |zero=>
  intro x d _ _ h;have:=aZ x;omega
 |succ N O=>
  intro x d e A Z;have P:=iy e.ok;have eK:=au trP (kidsT x);have C:=A;unfold Dp at C;have fin:∀{a b L M:Int},a=L ->b=M ->PV.tup [pI a,pI b]= .tup [pI L,pI M]:=λp j=>by rw[p,j]
  refine vf 56 [.tmp 4,.tmp 5] τok func155 ?_;refine af (λp=>?_) (λp=>?_)
  ·have hv:=k8 e.ok p
   rw[vW p];refine af (λj=>?_) (λj=>?_)
   ·exact⟨_,_,rfl,rfl,fin (by rw[vX,KX j];rfl) (by simp only[dY,List.foldr_cons,List.foldr_nil,nt,KX j];omega)⟩
   ·exact⟨_,_,rfl,rfl,fin (by rw[vX,KY j];rfl) (by simp only[dY,List.foldr_cons,List.foldr_nil,nt,KY j])⟩
  ·have D:=Ax (d:=d) e.ok p
   have r:=gV' x d 0;have s:=vV e.ok A;have R:=AH (varsT x d 0);have hw:=e.len;rw[D]at r s R ⊢;have S:=pq (v:=d) (vK x.n d (kidsT x) 0);have T:=AG (v:=d) (l:=vK x.n d (kidsT x) 0) (c:=1000000000) Uo λq E=>by have:=s q E;omega
   refine aB τok (σ:=Nat×Int×Int) [(1,_),(2,_)] [(2,_)] (λq=>[(6,vI q.2.1),(7,vI q.2.2),(8,vI q.1)]) (λ_=>[]) (λq=>q.1<=(kidsT x).length/\0<=q.2.1/\0<=q.2.2/\q.2.1+cU (vK x.n d ((kidsT x).drop q.1) q.1)=cU (vK x.n d (kidsT x) 0)/\max q.2.2 (dY d (vK x.n d ((kidsT x).drop q.1) q.1))=dY d (vK x.n d (kidsT x) 0)) (λq=>(kidsT x).length-q.1) (0,0,0) ⟨KV _,UO,UO,by simp only[List.drop_zero];omega,by simp only[List.drop_zero];omega⟩ ?_;rintro⟨i,n,m⟩ ⟨U,V,W,F,t⟩;simp only at U V W F t;refine aj<|af (λg=>?_) (λg=>?_)
   ·obtain⟨y,u,w⟩:=ay (l:=kidsT x) (k:=i)
    have X:=fN e.ok u;have H:=oE e.ok i;have z:=A.kid e.ok u;have I:=vV (e.kid u).ok z;have K:=FY H.1 (varsT y (d+kb x.n i) 0) λq E=>(I q E).1;have h0:=pq (v:=d+kb x.n i) (varsT y (d+kb x.n i) 0);rw[w,vK,MZ]at F;rw[w,vK,FX,K]at t;refine ae (qs _ _ _ i Uo) ?_;refine vt i u ?_;refine vi ?_ (by simp only[gc];omega) (by simp only[gc];omega);refine ae (O Uo y _ (e.kid u) z Uo) ?_;refine af (λo=>?_) (λo=>?_)
    ·have o:0<cU (varsT y (d+kb x.n i) 0):=by rw[gc]at o;omega
     rw[KX o]at t;refine vi ?_ (by simp only[gc];omega) (by simp only[gc];omega);refine vi ?_ (by simp only[gc];omega) (by simp only[gc];omega);refine vi ?_;exact aw (i+1,n+cU (varsT y (d+kb x.n i) 0),max m (dY (d+kb x.n i) (varsT y (d+kb x.n i) 0)+kb x.n i)) ⟨Us,Us,Us,Us,Us⟩
    ·have o:¬ 0<cU (varsT y (d+kb x.n i) 0):=by rw[gc]at o;omega
     rw[KY o]at t;refine vi ?_ (by simp only[gc];omega) (by simp only[gc];omega);refine vi ?_;exact aw (i+1,n+cU (varsT y (d+kb x.n i) 0),m) ⟨Us,Us,Us,Us,Us⟩
   ·rw[JY Uo]at F t
    have e1:cU (vK x.n d [] i)=0:=rfl;have e2:dY d (vK x.n d [] i)=0:=rfl;exact⟨_,_,rfl,rfl,fin Us Us⟩
def gd(b:Int)(d:Int)(n:Nd):Tr:=.mk {n with a:=if d<=n.a then n.a+b else n.a} []
theorem M0{x:Tr}(c:Ok .tm x)(e:eu x){b:Int}(hb:b<=500000):aK x b 0=mT (gd b) x 0 0:=by
 have a:=n8 c e (by_:=b) (fr:=0) hb;unfold lG at a;rw[xH' (h:=gr b 0) (f:=gd b) x .tm 0 0 c.1 λq j n a l o=>by
   have k:=e q j;unfold gr gd
   by_cases i:q.2<=n.a
   ·rw[KX Uo,KY Uo,KX i]
   ·rw[KY Uo,KY i]]at a
 exact(JB a).symm
def sU(u:Tr)(v:Int)(d:Int)(n:Nd):Tr:=if n.a=v+d then kM u (v+d)else if v+d<n.a/\0<n.a then .mk {n with a:=n.a-1} []else .mk n []
theorem M1{x u:Tr}(b:Ok .tm x)(v:Int):fH x u v=mT (sU u v) x 0 0:=by
 have a:=qn (u:=u) b v;rw[xH' (h:=fG u v) (f:=sU u v) x .tm 0 0 b.1 λq c n a e i=>by
   unfold fG sU;split
   ·rfl
   ·split<;>rfl]at a
 exact(JB a).symm
def M3{α β:Type}(f:α ->β)(m:Except Int α):Except Int β:=match m with
 | .error e=>.error e
 | .ok x=>.ok (f x)
theorem F0{x:Tr}{f:Int ->Nd ->Tr}{d:Int}(b:Ok .tm x)(h:x.n.op≠1 \/mT f x d 0=x):PV.agg (fL x.n ((iG f x.n d (kidsT x) 0).map trP) ((atmsT x).map ndP) ((funsT x).map ndP))=bE (mT f x d 0):=by
 by_cases a:x.n.op=1
 ·rcases h with h|h
  ·exact absurd a h
  ·rw[h,(k8 b a).1,(k8 b a).2.1,(k8 b a).2.2.1]
   show _=PV.agg (fL _ _ _ _);rw[(k8 b a).1,(k8 b a).2.1,(k8 b a).2.2.1]
   rfl
 ·exact(ML b a).symm
theorem F1(a b:Int):bE (.mk ⟨1,a,b⟩ [])= .agg [pI 1,pI a,pI b,.sl [],.sl [],.sl []]:=rfl
theorem sW(b:Int)(hb:0<=b/\b<=1000000000)(N:Nat)(K:N<=1000000):∀(x:Tr) (d:Int),Wf x ->Dp d x ->(row x).length<=N ->VC prog 107 [bE x,pI b,pI d] (bE (mT (gd b) x d 0)):=by
 induction N with
 |zero=>
  intro x d _ _ h;have:=aZ x;omega
 |succ N w=>
  intro x d a s L;have z:=iy a.ok;have A:=au trP (kidsT x);have o:=s;unfold Dp at o;refine vf 60 [.cell 6 145] τok func107 ?_;refine af (λc=>?_) (λc=>?_)
  ·have C:=k8 a.ok c
   obtain⟨t,M,O,u,D,P,R⟩:=C;have v:mT (gd b) x d 0=gd b d x.n:=by rw[u];exact sN c
   refine af (λq=>?_) (λq=>?_)
   ·refine vi ?_
    exact aE (h3:=by
     have e:gd b d x.n= .mk ⟨1,x.n.a+b,0⟩ []:=by unfold gd;rw[KX q,c,D]
     rw[v,e,F1]
     rfl)
   ·refine aB τok (σ:=Unit) [(1,_),(2,_),(3,_),(6,_),(7,_)] [(3,_),(6,_),(7,_)] (λ_=>[(8,vI 0)]) (λ_=>[]) (λ_=>True) (λ_=>0) () trivial ?_
    rintro _ _;refine aj<|vn ?_ (by rw[A,t];simp);exact aE (h3:=by
     have e:gd b d x.n=x:=by unfold gd;rw[KY q];exact u.symm
     rw[v,e];show _=PV.agg (fL _ _ _ _);rw[t]
     rfl)
  ·refine lF 7 3 1000 145 6 rfl rfl rfl UO ?_
   refine aB τok (σ:=Nat) [(1,_),(2,_),(3,_),(6,_),(7,_)] [(3,_),(6,_)] (λi=>[(8,vI i)]) (λi=>[(7,.st 0 145 [.p (pI x.n.op),.p (pI x.n.a),.p (pI x.n.b),.row 1000,.p (.sl ((atmsT x).map ndP)),.p (.sl ((funsT x).map ndP))]),(1000,.rw 145 6 ((iG (gd b) x.n d ((kidsT x).take i) 0).map trP))]) (λi=>i<=(kidsT x).length) (λi=>(kidsT x).length-i) 0 (KV _) ?_;rintro i E;refine aj<|af (λg=>?_) (λg=>?_)
   ·obtain⟨y,j,F⟩:=ay (l:=kidsT x) (k:=i)
    have H:=fN a.ok j;have I:=oE a.ok i;have r:=Av (f:=gd b) (n:=x.n) (d:=d) ((kidsT x).take i) 0;rw[VJ]at r;refine vt i j ?_;refine ae (qs _ _ _ i Uo) ?_;refine vi ?_ (by rw[gc];omega) (by rw[gc];omega);refine ae (w Uo y _ (a.kid j) (s.kid a.ok j) Uo) ?_;refine bi ?_;refine vk ?_;refine vi ?_;refine aw (i+1) (by show i+1<=_;omega) (sw 1000 57) (y':=⟨rfl,KG (λl=>some (SE.rw _ _ l)) ?_,trivial⟩);rw[QQ,j,Option.toList,Az,KB,VJ,KW,Nat.min_eq_left E];exact KG (_++[·]) (kR _).symm
   ·rw[JG Uo]
    exact⟨_,_,rfl,rfl,F0 a.ok (.inl c)⟩
def k9(u:Tr)(d:Int)(n:Nd):Tr:=if n.a=d then mT (gd d) u 0 0 else if d<n.a then .mk {n with a:=n.a-1} []else .mk n []
theorem sX(u:Tr)(j:Wf u)(N:Nat)(H:N<=1000000):∀(x:Tr) (d:Int),Wf x ->Dp d x ->(row x).length<=N ->VC prog 156 [bE x,bE u,pI d,pI d] (bE (mT (k9 u) x d 0)):=by
 induction N with
 |zero=>
  intro x d _ _ h;have:=aZ x;omega
 |succ N v=>
  intro x d a s I;have w:=iy a.ok;have K:=au trP (kidsT x);have o:=s;unfold Dp at o;refine vf 73 [.cell 8 145] τok func156 ?_;refine af (λb=>?_) (λb=>?_)
  ·obtain⟨L,M,O,t,z,P,R⟩:=k8 a.ok b
   have A:mT (k9 u) x d 0=k9 u d x.n:=by rw[t];exact sN b
   rw[A];refine af (λe=>?_) (λe=>?_)
   ·refine ae (sW d Uo 4096 Uo u 0 j ⟨Uo,by have:=j.len;omega⟩ j.len) ?_
    exact aE (h3:=by unfold k9;rw[KX e];rfl)
   ·refine af (λq=>?_) (λq=>?_)
    ·refine vi ?_
     exact aE (h3:=by unfold k9;rw[KY e,KX q,b,z,F1];rfl)
    ·exact aE (h3:=by unfold k9;rw[KY e,KY q,<- t];rfl)
  ·refine lF 9 3 1000 145 6 rfl rfl rfl UO ?_
   refine aB τok (σ:=Nat) [(1,_),(2,_),(3,_),(4,_),(5,_),(8,_),(9,_)] [(4,_),(5,_),(8,_)] (λi=>[(10,vI i)]) (λi=>[(9,.st 0 145 [.p (pI x.n.op),.p (pI x.n.a),.p (pI x.n.b),.row 1000,.p (.sl ((atmsT x).map ndP)),.p (.sl ((funsT x).map ndP))]),(1000,.rw 145 6 ((iG (k9 u) x.n d ((kidsT x).take i) 0).map trP))]) (λi=>i<=(kidsT x).length) (λi=>(kidsT x).length-i) 0 (KV _) ?_;rintro i C;refine aj<|af (λg=>?_) (λg=>?_)
   ·obtain⟨y,c,D⟩:=ay (l:=kidsT x) (k:=i)
    have E:=fN a.ok c;have F:=oE a.ok i;have r:=Av (f:=k9 u) (n:=x.n) (d:=d) ((kidsT x).take i) 0;rw[VJ]at r;refine ae (qs _ _ _ i Uo) ?_;refine vt i c ?_;refine vi ?_ (by rw[gc];omega) (by rw[gc];omega);refine vi ?_ (by rw[gc];omega) (by rw[gc];omega);refine ae (v Uo y _ (a.kid c) (s.kid a.ok c) Uo) ?_;refine bi ?_;refine vk ?_;refine vi ?_;refine aw (i+1) (by show i+1<=_;omega) (sw 1000 70) (y':=⟨rfl,KG (λl=>some (SE.rw _ _ l)) ?_,trivial⟩);rw[QQ,c,Option.toList,Az,KB,VJ,KW,Nat.min_eq_left C];exact KG (_++[·]) (kR _).symm
   ·rw[JG Uo]
    exact⟨_,_,rfl,rfl,F0 a.ok (.inl b)⟩
theorem vZ{x:Tr}(c:Ok .tm x)(i:eu x){b fr:Int}(hb:b<=500000):aK x b fr=mT (gd b) x fr 0:=by
 have a:=n8 c i (by_:=b) (fr:=fr) hb;unfold lG at a;rw[xH' (h:=gr b fr) (f:=λd n=>gd b (d+fr) n) x .tm 0 0 c.1 λq l n a p r=>by
   have o:=i q l;unfold gr gd
   by_cases j:q.2+fr<=n.a
   ·rw[KX Uo,KY Uo,KX j]
   ·rw[KY Uo,KY j]]at a
 have k:=uU' (f:=gd b) (f3:=λd n=>gd b (d+fr) n) (e:=fr) x .tm 0 0 c.1 λ_ _ _ _ _ _=>rfl;rw[Int.zero_add]at k;rw[k];exact(JB a).symm
theorem F2(x:Tr)(d:Int):varsT x d 0=(varsT x 0 0).map λq=>(q.1,q.2+d):=by
 have:=ze d x 0 0
 rwa [Int.zero_add]at this
theorem qI{x:Tr}(a:Wf x)(j:eu x){b fr:Int}(hb:0<=b/\b<=500000)(I:0<=fr/\fr<=500000):VC prog 93 [ah (row x),pI b,pI fr] (.tup [ah (row (aK x b fr)),pI 0]):=by
 have C:=a.len;have i:=me (row x) Uo;rw[nr a]at i;have D:Dp 0 x:=⟨Uo,Uo⟩
 have o:Dp fr x:=⟨Uo,Uo⟩
 have E:=FV 4096 Uo x 0 a D a.len;have F:=sT b Uo 4096 Uo x fr a o a.len;have s:=sW b Uo 4096 Uo x fr a o a.len;have t:=vZ a.ok j (b:=b) (fr:=fr) hb.2;rw[<- t]at s;have u:Wf (aK x b fr):=⟨y9 a.ok j hb.1 hb.2,KQ (zb a.ok j hb.2) C⟩
 have H:=sS (b:=b) (l:=varsT x fr 0) (c:=1000000) Uo λq k _=>by
  rw[F2]at k;obtain⟨p,v,rfl⟩:=List.mem_map.1 k;have:=j p v;simp only;omega
 refine vf 49 [.tmp 6,.tmp 7] τok func93 ?_;refine ae i ?_;refine vn ?_;refine vn ?_;refine vn ?_;refine ae (jx a) ?_;refine ae E ?_;refine af (λg=>?_) (λg=>?_)
 ·have:aK x b fr=x:=by
   have w:=uV' (f:=gd b) (e:=fr) x .tm 0 0 a.ok.1 λq k n K v L=>by
    have:q.1-q.2<=dI (varsT x 0 0):=by
     have:∀l:List (Int×Int),q∈l ->q.1-q.2<=dI l:=by
      intro l
      induction l with
      |nil=>intro h;cases h
      |cons z r A=>
       intro h;simp only[dI,List.foldr_cons,pp]at A ⊢;rcases List.mem_cons.1 h with rfl|h
       ·omega
       ·have:=A h;omega
     exact this _ k
    unfold gd;rw[KY Uo]
   rw[Int.zero_add]at w;rw[t];exact w
  rw[this];refine ae (lP 4096 Uo x a a.len) ?_;exact aE
 ·refine vn ?_
  refine ae F ?_;refine vn ?_;refine ae s ?_;refine ae (lP 4096 Uo _ u u.len) ?_;exact aE
theorem F3{x u:Tr}(a:Wf x){v:Int}(c:Ok .tm u)(h:eu u)(k:0<=v/\v<=300000):mT (k9 u) x v 0=fH x u v:=by
 rw[M1 a.ok v];have i:=uU' (f:=k9 u) (f3:=sU u v) (e:=v) x .tm 0 0 a.ok.1 λq j n l o p=>by
  have r:=fr' x .tm 0 0 a.ok.1 Uo Uo Uo q j;have:=a.len;unfold k9 sU
  by_cases e:n.a=q.2+v
  ·rw[KX e,KX Uo,kM,KX Uo,M0 c h Uo,Int.add_comm]
  ·rw[KY e]
   by_cases b:q.2+v<n.a
   ·rw[KX b,KY (show ¬ n.a=v+q.2 by omega),KX Uo]
   ·rw[KY b,KY (show ¬ n.a=v+q.2 by omega),KY Uo]
 rwa [Int.zero_add]at i
theorem F4(x:Tr)(v:Int):(cU (varsT x v 0):Int)=(pb x v).1:=by
 have b:=zh v (varsT x 0 0) (0,0);unfold pb;rw[b,F2];simp only[Int.zero_add,iQ,cU]
 congr 1
 induction varsT x 0 0 with
 |nil=>rfl
 |cons q r a=>
  simp only[List.map_cons,List.filter_cons]
  by_cases h:q.1=q.2+v
  ·rw[KX (KU h),KX Uk,JV,JV,a]
  ·rw[KY (by simpa using h),KY Uk,a]
theorem v7{x u:Tr}(a:Wf x)(e:Wf u)(o:eu u){v:Int}(F:0<=v/\v<=300000):VC prog 101 [ah (row x),ah (row u),pI v] (dg (bq x u v)):=by
 have V:=a.len;have K:=e.len;have n:=au ndP (row x);have i:=au ndP (row u);have L:=aZ u;have p:=me (row x) Uo;have r:=me (row u) Uo;rw[nr a]at p;rw[nr e]at r;have H:Dp v x:=⟨Uo,Uo⟩
 have M:=FZ 4096 Uo x v a H a.len;have W:=AH (varsT x v 0);have O:=gV' x v 0;have P:=pq (v:=v) (varsT x v 0);have A:=fr' x .tm v 0 a.ok.1 F.1 Uo Uo;have R:=AG (v:=v) (l:=varsT x v 0) (c:=20000) Uo λq C=>by have:=A q C;omega
 have S:=sT (v+dY v (varsT x v 0)) Uo 4096 Uo u 0 e ⟨Uo,Uo⟩ e.len;have T:=sS (b:=v+dY v (varsT x v 0)) (l:=varsT u 0 0) (c:=1000000) Uo λq C _=>by have:=o q C;omega
 have D:=sX u e 4096 Uo x v a H a.len;rw[F3 a e.ok o F]at D;have U:=F4 x v;have I:0<=(cU (varsT x v 0):Int)*(((row u).length:Int)-1)/\(cU (varsT x v 0):Int)*(((row u).length:Int)-1)<=4096*4096:=⟨Int.mul_nonneg Uo Uo,Int.mul_le_mul Uo Uo Uo Uo⟩
 have s:gY x u v=true↔4096<((row x).length:Int)+(cU (varsT x v 0):Int)*(((row u).length:Int)-1):=by
  unfold gY;rw[<- U];exact decide_eq_true_iff
 have t:VC prog 106 [bE (fH x u v)] (ah (row (fH x u v))) \/gY x u v=true:=by
  cases w:gY x u v with
  |true=>exact .inr rfl
  |false=>exact .inl (lP 4096 Uo _ ⟨za a.ok e.ok o,uN a.ok e.ok o w⟩ (uN a.ok e.ok o w))
 have z:min v 2097152=v:=Uo
 refine vf 69 [.tmp 6,.tmp 7] τok func101 ?_;refine ae p ?_;refine vy ?_;refine ae r ?_;refine vn ?_;refine vn ?_;refine ae (jx a) ?_;refine ae (jx e) ?_;refine ae (show VC prog _ [bE x,pI (min v 2097152)] _ by rw[z];exact M) ?_;have fin:4096<((row x).length:Int)+(cU (varsT x v 0):Int)*(((row u).length:Int)-1) ->PV.tup [.sl [],pI 9]=dg (bq x u v):=λh=>by unfold bq;rw[KX (s.2 h)];rfl
 have k:¬ 4096<((row x).length:Int)+(cU (varsT x v 0):Int)*(((row u).length:Int)-1) ->VC prog 106 [bE (fH x u v)] (ah (row (fH x u v)))/\PV.tup [ah (row (fH x u v)),pI 0]=dg (bq x u v):=λh=>by
  have w:¬ gY x u v=true:=λq=>h (s.1 q);refine⟨t.resolve_right w,?_⟩;unfold bq;rw[KY w]
  rfl
 refine af (λg=>?_) (λg=>?_)
 ·refine vi ?_
  refine ae (show VC prog _ [bE u,pI (min v 2097152+dY v (varsT x v 0)),pI 0] _ by rw[z];exact S) ?_;refine vn ?_;refine vi ?_;refine vi ?_ (by simp only[i];omega) (by simp only[i];omega);refine vi ?_ (by simp only[n,i];omega) (by simp only[n,i];omega);refine af (λj=>?_) (λj=>?_)<;>simp only[n,i]at j
  ·exact⟨_,_,rfl,rfl,fin j⟩
  ·obtain⟨q1,E⟩:=k j
   refine ae (show VC prog _ [bE x,bE u,pI (min v 2097152),pI (min v 2097152)] _ by rw[z];exact D) ?_;exact ae q1<|⟨_,_,rfl,rfl,E⟩
 ·refine vi ?_
  refine vi ?_ (by simp only[i];omega) (by simp only[i];omega);refine vi ?_ (by simp only[n,i];omega) (by simp only[n,i];omega);refine af (λj=>?_) (λj=>?_)<;>simp only[n,i]at j
  ·exact⟨_,_,rfl,rfl,fin j⟩
  ·obtain⟨q1,E⟩:=k j
   refine ae (show VC prog _ [bE x,bE u,pI (min v 2097152),pI (min v 2097152)] _ by rw[z];exact D) ?_;exact ae q1<|⟨_,_,rfl,rfl,E⟩
theorem nu{x:Tr}(e:Wf x)(b:x.n.op=6):∃f a,kidsT x=[f,a]/\Wf f/\Wf a/\headT x=headT f/\argsT x=argsT f++[a]/\(row f).length<(row x).length:=by
 obtain⟨n,i⟩:=x;have b:n.op=6:=id b;have c:¬ n.op=2/\¬ n.op=12:=Uo
 obtain⟨f,a,rfl,k,l⟩:=pc e.ok b;have h:kidsT (.mk n [f,a])=[f,a]:=by simp only[kidsT,KY c.1,KY c.2]
 exact⟨f,a,h,e.kid (j:=0) (by rw[h];rfl),e.kid (j:=1) (by rw[h];rfl),mV b,mW b,fN e.ok (j:=0) (by rw[h];rfl)⟩
theorem ij{x:Tr}(a:x.n.op≠6):headT x=x/\argsT x=[]:=by
 obtain⟨n,b⟩:=x;exact⟨n9 a,pd a⟩
theorem oG{x:Tr}(c:Wf x):∀N:Nat,(row x).length<=N ->(argsT x).length<N:=by
 intro N
 induction N generalizing x with
 |zero=>intro h;have:=aZ x;omega
 |succ N i=>
  intro h
  by_cases b:x.n.op=6
  ·obtain⟨f,a,_,j,_,_,e,k⟩:=nu c b
   have:=i j Uo;rw[e];simp;omega
  ·rw[(ij b).2]
   simp
theorem AI{x:Tr}(e:Wf x):VC prog 159 [ah (row x)] (.tup [ah (row (headT x)),bD ((argsT x).map row)]):=by
 have s:=oG e 4096 e.len;refine cR 33 [.tmp 2,.tmp 3] τok func159 ?_;refine aj<|ae (jx e) ?_;refine dC 6 1000 29 1 rfl rfl<|aB τok (σ:=Tr×List Tr) [(0,_),(2,_),(3,_),(4,_)] [] (λq=>[(6,.c (.row 1000))]) (λq=>[(4,.st 0 145 ((fc q.1).map .p)),(1000,.rw 29 1 (q.2.map λy=>[ah (row y)]))]) (λq=>Wf q.1/\headT q.1=headT x/\argsT q.1++q.2=argsT x) (λq=>(row q.1).length) (x,[]) ⟨e,rfl,Ud⟩ ?_;rintro⟨z,t⟩ ⟨h,i,b⟩;simp only at h i b;have u:=KG List.length b;rw[JK]at u;refine aj<|af (λg=>?_) (λg=>?_)
 ·obtain⟨f,a,n,v,o,j,k,w⟩:=nu h g
  refine vt 1 (by rw[n];rfl) ?_;refine ae (lP 4096 Uo a o o.len) ?_;refine va ?_ (λy _=>⟨rfl,λq r=>by simp at r;subst r;rfl⟩);refine vt 0 (by rw[n];rfl) ?_;exact aw (f,a::t) ⟨v,by rw[<- j];exact i,by rw[<- b,k];simp⟩ (sw 1000 25)
 ·obtain⟨j,k⟩:=ij g
  refine ae (lP 4096 Uo z h h.len) ?_;rw[j]at i;rw[k,List.nil_append]at b;exact aE (h3:=by
   rw[<- i,<- b];exact KG (λl=>PV.tup [ah (row z),PV.sl l]) (by rw[List.map_map];rfl))
theorem M4{x:Tr}{ys:List Tr}{i:Nat}{y:Tr}(a:ys[i]?=some y):row (an' x (ys.take (i+1)))=appN::row (an' x (ys.take i))++row y/\(row (an' x (ys.take i))).length<=(row (an' x ys)).length:=by
 have j:=aM a;have e:ys=ys.take i++y::ys.drop (i+1):=by
  obtain⟨z,h,k⟩:=ay j;rw[a]at h;obtain rfl:=JB h;rw[<- k,List.take_append_drop]
 have n:∀l:List Tr,rows (l++[y])=rows l++row y:=by
  intro l
  induction l with
  |nil=>simp[rows]
  |cons z r b=>simp[rows,b]
 constructor
 ·rw[QQ,a,Option.toList,bK',bK',n,JK,List.length_singleton,List.replicate_succ]
  simp
 ·have c:∀l m:List Tr,(rows (l++m)).length=(rows l).length+(rows m).length:=by
   intro l m
   induction l with
   |nil=>simp[rows]
   |cons z r b=>simp only[List.cons_append,rows,JK,b];omega
  conv=>rhs;rw[e]
  simp only[bK',JK,List.length_replicate,c];omega
theorem sY{x:Tr}(p:Wf x){ys:List Tr}(u:∀y∈ys,Wf y)(hl:ys.length<=5000):VC prog 157 [ah (row x),bD (ys.map row)] (dg (aO x ys)):=by
 have j:=me (row x) (by have:=p.len;omega);rw[nr p]at j;have v:=p.len;have w:((ys.map row).map λt=>[ah t])=ys.map λy=>[ah (row y)]:=by rw[List.map_map];rfl
 have E:=au (λy=>[ah (row y)]) ys;show VC _ _ [ah (row x),.sl ((ys.map row).map λt=>[ah t])] _;rw[w];refine vf 47 [.tmp 4,.tmp 5] τok func157 ?_;refine ae j ?_;refine vn ?_;refine va ?_ (fM _);refine aB τok (σ:=Nat×List Nd) [(1,_),(4,_),(5,_)] [] (λq=>[(7,.c (.row 1000)),(8,vI q.1)]) (λq=>[(1000,.rw 46 3 (q.2.map ndP))]) (λq=>q.1<=ys.length/\q.2.length<=10000/\(q.2=row (an' x (ys.take q.1)) \/4096<q.2.length/\4096<(row (an' x ys)).length)) (λq=>ys.length-q.1) (0,row x) ⟨KV _,Us,.inl (by simp[an'])⟩ ?_ (sw 1000 16);rintro⟨i,l⟩ ⟨z,r,n⟩;simp only at z r n;have A:=au ndP l;refine aj<|af (λg=>?_) (λg=>?_)
 ·obtain⟨y,a,F⟩:=ay (l:=ys) (k:=i)
  have s:=u y (JQ a);have C:=s.len;have o:=me (row y) Uo;rw[nr s]at o;obtain⟨D,H⟩:=M4 (x:=x) a;refine vm i a ?_;refine ae o ?_;refine vn ?_;refine af (λe=>?_) (λe=>?_)
  ·refine va ?_ (fM _)
   refine vm i a ?_;refine va ?_ (fM _);refine vk ?_;refine vi ?_;have b:l=row (an' x (ys.take i)):=n.resolve_right λq=>by have:=q.1;simp only at e;omega
   exact aw (i+1,appN::l++row y) ⟨Us,by simp only[JK,JV];simp only at e;omega,.inl (by rw[D,b])⟩ (sw 1000 42) (y':=⟨KG (λl=>some (SE.rw _ _ l)) (by simp[dN];rfl),trivial⟩)
  ·refine vi ?_
   refine aw (i+1,l) ⟨Us,r,.inr ?_⟩;simp only at e;rcases n with h|h
   ·have:=KG List.length h
    exact⟨Us,Uo⟩
   ·exact h
 ·refine af (λe=>?_) (λe=>?_)<;>simp only[A]at e
  ·exact aE (h3:=by
    unfold aO;rw[KX]
    ·rfl
    ·rcases n with h|h
     ·rw[JG Uo]at h
      rw[<- h];omega
     ·exact h.2)
  ·have b:l=row (an' x ys):=by
    rcases n with h|h
    ·rwa [JG Uo]at h
    ·have:=h.1;omega
   exact aE (h3:=by
    unfold aO;rw[KY (by rw[<- b];omega),b]
    rfl)
theorem preB_take{ys:List Tr}{i:Nat}{y:Tr}(a:ys[i]?=some y):dV 4 (ys.take (i+1))=dV 4 (ys.take i)++⟨4,0,0⟩::row y/\(dV 4 (ys.take i)).length<=(dV 4 ys).length:=by
 constructor
 ·rw[QQ,a,Option.toList]
  simp[dV]
 ·conv=>rhs;rw[<- List.take_append_drop i ys]
  simp only[dV,List.flatMap_append,JK];omega
theorem wa{x:Tr}(r:Wf x){ys:List Tr}(w:∀y∈ys,Wf y)(hl:ys.length<=5000):VC prog 98 [pI 4,bD (ys.map row),ah (row x)] (dg (bk ys x)):=by
 have j:=me (row x) (by have:=r.len;omega);rw[nr r]at j;have z:=r.len;have A:=aZ x;have C:((ys.map row).map λt=>[ah t])=ys.map λy=>[ah (row y)]:=by rw[List.map_map];rfl
 have I:=au (λy=>[ah (row y)]) ys;have s:=uL 4 ys x;have n:=KG List.length s;rw[JK]at n;show VC _ _ [pI 4,.sl ((ys.map row).map λt=>[ah t]),_] _;rw[C];refine cR 57 [.tmp 6,.tmp 7] τok func98 ?_;refine aj<|vn ?_;refine dC 8 1000 46 3 rfl rfl<|aB τok (σ:=Nat×List Nd) [(0,_),(1,_),(2,_),(6,_),(7,_)] [] (λq=>[(8,.c (.row 1000)),(9,vI q.1)]) (λq=>[(1000,.rw 46 3 (q.2.map ndP))]) (λq=>q.1<=ys.length/\q.2.length<=10000/\(q.2=dV 4 (ys.take q.1) \/4096<q.2.length/\4096<(dV 4 ys).length)) (λq=>ys.length-q.1) (0,[]) ⟨KV _,Ud,.inl (by simp[dV])⟩ ?_;rintro⟨i,l⟩ ⟨D,u,o⟩;simp only at D u o;have E:=au ndP l;refine aj<|af (λg=>?_) (λg=>?_)
 ·obtain⟨y,a,K⟩:=ay (l:=ys) (k:=i)
  have v:=w y (JQ a);have F:=v.len;have p:=me (row y) Uo;rw[nr v]at p;obtain⟨H,L⟩:=preB_take a;refine vm i a ?_;refine ae p ?_;refine vn ?_;refine af (λe=>?_) (λe=>?_)
  ·refine bi ?_
   refine vm i a ?_;refine va ?_ (fM _);refine vk ?_;refine vi ?_;have b:l=dV 4 (ys.take i):=o.resolve_right λq=>by have:=q.1;simp only at e;omega
   exact aw (i+1,l++⟨4,0,0⟩::row y) ⟨Us,by simp only[JK,JV];simp only at e;omega,.inl (by rw[H,b])⟩ (sw 1000 44) (y':=⟨KG (λl=>some (SE.rw _ _ l)) (by simp[dN];rfl),trivial⟩)
  ·refine vi ?_
   refine aw (i+1,l) ⟨Us,u,.inr ?_⟩;simp only at e;rcases o with h|h
   ·have:=KG List.length h
    exact⟨Us,Uo⟩
   ·exact h
 ·refine ae j ?_
  refine vn ?_;refine va ?_ (fM _);refine af (λe=>?_) (λe=>?_)<;>simp only[JK,E,au ndP (row x)]at e
  ·exact aE (h3:=by
    unfold bk;rw[KX]
    ·rfl
    ·rcases o with h|h
     ·rw[JG Uo]at h
      rw[h]at e;omega
     ·omega)
  ·have b:l=dV 4 ys:=by
    rcases o with h|h
    ·rwa [JG Uo]at h
    ·have:=h.1;omega
   exact aE (h3:=by
    unfold bk;rw[KY (by rw[n,<- b];omega),b];show _=PV.tup [ah (row (eX 4 ys x)),pI 0];rw[s];exact KG (λl=>PV.tup [.sl l,pI 0]) (by rw[KB]))
theorem nv{B:ak}{a:Int}(b:0<=a)(h:a<B.ents.length:=by omega):B.ents[a.toNat]?=some (aR B a):=by
 unfold aR;rw[QK,gE]
 rfl
theorem sZ{B:ak}{known:Nat}(k:known<=B.ents.length)(e:Int):VC prog 31 [bw B,pI e,pI known] (.bool (bF B known e)):=by
 have l:=au cj B.ents;have b:∀{p:Prop},¬ (0<=e/\e<known/\(aR B e).kind=1) ->PV.bool false= .bool (bF B known e):=λh=>by
  cases j:bF B known e with
  |false=>rfl
  |true=>exact absurd (by simpa[bF]using j) h
 refine vf 30 [.tmp 6] τok func31 ?_;refine af (λa=>?_) (λa=>?_)
 ·refine af (λc=>?_) (λc=>?_)
  ·refine vy ?_
   refine vm e.toNat (nv a) ?_;refine af (λi=>?_) (λi=>?_)
   ·exact aE (h3:=by rw[show bF B known e=true by simp only[bF,Bool.and_eq_true,decide_eq_true_eq];exact⟨a,c,i⟩];rfl)
   ·exact⟨_,_,rfl,rfl,b (p:=True) λq=>i q.2.2⟩
  ·exact⟨_,_,rfl,rfl,b (p:=True) λq=>c q.2.1⟩
 ·exact⟨_,_,rfl,rfl,b (p:=True) λq=>a q.1⟩
section
variable{B:ak}{known:Nat}{self:Int}
def mf(B:ak)(known:Nat)(self:Int)(x:Tr):Bool:=(row x).all (bg B known self)
theorem M5{x:Tr}(i:Ok .tm x):∀f∈funsT x,f.op=13:=λf b=>by
 obtain⟨n,c⟩:=x
 by_cases a:n.op=12
 ·have e:funsT (.mk n c)=c.map (·.n):=KX a
  rw[e]at b;obtain⟨y,j,rfl⟩:=List.mem_map.1 b;obtain⟨g,k,l,rfl,h,_⟩:=(Aw i a y j).fn;exact h
 ·have e:funsT (.mk n c)=[]:=KY a
  rw[e]at b;cases b
theorem M6{x:Tr}(h:Ok .tm x):∀f∈atmsT x,f.op=3:=λf a=>by
 obtain⟨n,b⟩:=x
 by_cases c:n.op=2
 ·have e:atmsT (.mk n b)=b.map (·.n):=KX c
  rw[e]at a;obtain⟨y,i,rfl⟩:=List.mem_map.1 a;obtain⟨m,rfl,j⟩:=vR h c y i;exact j
 ·have e:atmsT (.mk n b)=[]:=KY c
  rw[e]at a;cases a
theorem F5{op:Int}{F:List Nd}(b:∀f∈F,bg B known self f=true):∀(K:List Tr) (i:Nat),(cB op F i K).all (bg B known self)=K.all (mf B known self)
 |[],i=>rfl
 |y::r,i=>by
  simp only[cB,List.all_append,List.all_cons,F5 b r (i+1)];have:(if op=12/\i%2=0 then (F[i/2]?).toList else []).all (bg B known self)=true:=by
   split
   ·rw[List.all_eq_true]
    intro f a;cases h:F[i/2]? with
    |none=>rw[h]at a;cases a
    |some g=>
     rw[h]at a;obtain rfl:f=g:=by simpa using a
     exact b f (JQ h)
   ·rfl
  rw[this,Bool.true_and]
  rfl
theorem M7{x:Tr}(a:Ok .tm x):mf B known self x=(bg B known self x.n && ((atmsT x).all (bg B known self) && (kidsT x).all (mf B known self))):=by
 have b:=jL a;have c:∀f∈funsT x,bg B known self f=true:=λf e=>by simp[bg,M5 a f e]
 unfold mf;rw[b,List.all_cons,List.all_append,F5 c]
 rfl
theorem M8(T:known<=B.ents.length)(N:Nat)(hN:N<=1000000):∀x:Tr,Wf x ->(row x).length<=N ->VC prog 89 [bw B,pI known,pI self,bE x] (.bool (mf B known self x)):=by
 induction N with
 |zero=>
  intro x _ h;have:=aZ x;omega
 |succ N U=>
  intro x s hl;have V:=iy s.ok;have eK:=au trP (kidsT x);have eA:=au ndP (atmsT x);have eE:=au cj B.ents;have E:aG x.n=true/\x.n.op≠3/\x.n.op≠13:=by
   obtain⟨n,ks⟩:=x;exact s.ok.tm
  obtain⟨E,W,X⟩:=E;have t:=dn E;have Y:(atmsT x).length<=4096:=by
   have Z:=KG List.length (jL s.ok);rw[JV,JK]at Z;have:=s.len;omega
  rw[M7 s.ok];have p:bg B known self x.n=false ->PV.bool false= .bool (bg B known self x.n && ((atmsT x).all (bg B known self) && (kidsT x).all (mf B known self))):=λh=>by rw[h];rfl
  have F:x.n.op=8 ->bg B known self x.n=(decide (0<=x.n.a) && (decide (x.n.a<known) && decide ((aR B x.n.a).kind=2))):=λh=>by simp[bg,h]
  have H:x.n.op=9 ->bg B known self x.n=(decide (x.n.a=self)||bF B known x.n.a):=λh=>by simp[bg,h]
  have w:x.n.op=11 ->bg B known self x.n=bF B known x.n.a:=λh=>by simp[bg,h]
  have u:x.n.op=10 ->bg B known self x.n=(bF B known x.n.a && decide (x.n.b<(aR B x.n.a).ctors.length)):=λh=>by simp[bg,h]
  have nn:x.n.op≠8 ->x.n.op≠9 ->x.n.op≠10 ->x.n.op≠11 ->bg B known self x.n=true:=λa b c d=>by simp[bg,a,b,c,d,W]
  have q:=sZ T x.n.a;refine cR 126 [.tmp 8] τok func89 ?_;refine aD<|aD<|eo τok (σ:=Unit) [(1,_),(2,_),(4,_),(7,_),(9,_)] [(4,_),(7,_),(9,_)] (λ_=>[]) (λ_=>[]) (λ_=>x.n.op=8 ->bg B known self x.n=true) ?_ ?_
  ·refine af (λe=>?_) (λe=>?_)
   ·refine af (λo=>?_) (λo=>?_)
    ·refine vy ?_
     refine vm x.n.a.toNat (nv t.2.2.1) ?_;refine af (λr=>?_) (λr=>?_)
     ·exact aw () λh=>by rw[F h];simp only[Bool.and_eq_true,decide_eq_true_eq];exact⟨t.2.2.1,o,r⟩
     ·exact⟨_,_,rfl,rfl,p (by rw[F e];simp[r])⟩
    ·exact⟨_,_,rfl,rfl,p (by rw[F e];simp[o])⟩
   ·exact aw () λh=>absurd h e
  rintro _ m1;refine eo τok (σ:=Unit) [(1,_),(2,_),(4,_),(7,_),(9,_)] [(4,_),(7,_),(9,_)] (λ_=>[]) (λ_=>[]) (λ_=>(x.n.op=9 ->bg B known self x.n=true)/\(x.n.op=10 \/x.n.op=11 ->bF B known x.n.a=true)) ?_ ?_
  ·refine af (λe=>?_) (λe=>?_)
   ·refine bV q (λf=>?_) (λf=>?_)
    ·refine vn ?_
     exact aw () ⟨λh=>Uo,λ_=>f⟩
    ·exact⟨_,_,rfl,rfl,p (by rw[u e,f];rfl)⟩
   ·refine af (λo=>?_) (λo=>?_)
    ·refine bV q (λf=>?_) (λf=>?_)
     ·refine vn ?_
      exact aw () ⟨λh=>Uo,λ_=>f⟩
     ·exact⟨_,_,rfl,rfl,p (by rw[w o,f])⟩
    ·refine af (λr=>?_) (λr=>?_)
     ·refine af (λM=>?_) (λM=>?_)
      ·refine bV q (λf=>?_) (λf=>?_)
       ·exact aw () ⟨λh=>by rw[H h,f,Bool.or_true],λh=>Uo⟩
       ·exact⟨_,_,rfl,rfl,p (by rw[H r,f,KH M];rfl)⟩
      ·exact aw () ⟨λh=>by rw[H h,KU Uo];rfl,λh=>Uo⟩
     ·exact aw () ⟨λh=>absurd h r,λh=>Uo⟩
  rintro _ ⟨m2,O⟩;refine eo τok (σ:=Unit) [(1,_),(2,_),(4,_),(7,_)] [(4,_),(7,_)] (λ_=>[]) (λ_=>[]) (λ_=>bg B known self x.n=true) ?_ ?_
  ·refine af (λe=>?_) (λe=>?_)
   ·have f:=O (.inl e)
    have ff:(0<=x.n.a/\x.n.a<known/\(aR B x.n.a).kind=1):=by simpa[bF]using f
    refine vm x.n.a.toNat (nv t.2.2.1) ?_;refine af (λo=>?_) (λo=>?_)
    ·refine vk ?_
     exact⟨_,_,rfl,rfl,p (by rw[u e,f,KH (by rw[KF]at o;omega)];rfl)⟩
    ·refine vk ?_
     exact aw () (by show bg B known self x.n=true;rw[u e,f,KU (by rw[KF]at o;omega)];rfl)
   ·refine vk ?_
    refine aw () ?_;show bg B known self x.n=true
    by_cases P:x.n.op=8
    ·exact m1 P
    ·by_cases R:x.n.op=9
     ·exact m2 R
     ·by_cases v:x.n.op=11
      ·rw[w v];exact O (.inr v)
      ·exact nn P R e v
  rintro _ hn;rw[hn,Bool.true_and];refine aj<|aB τok (σ:=Nat) [(1,_),(2,_),(4,_),(7,_)] [(4,_),(7,_)] (λi=>[(10,vI i)]) (λ_=>[]) (λi=>i<=(atmsT x).length/\∀m∈(atmsT x).take i,bg B known self m=true) (λi=>(atmsT x).length-i) 0 ⟨KV _,Ud⟩ ?_;rintro i ⟨e,o⟩;refine aj<|af (λg=>?_) (λg=>?_)
  ·obtain⟨m,I,hd⟩:=ay (l:=atmsT x) (k:=i)
   have A:=JQ I;have S:bg B known self m=decide (m.a<=B.vars):=by simp[bg,M6 s.ok m A]
   refine vm i I ?_;refine af (λr=>?_) (λr=>?_)
   ·refine vk ?_
    exact aE (h3:=by
     have:(atmsT x).all (bg B known self)=false:=by
      rw[List.all_eq_false];exact⟨m,A,by rw[S,KH Uo];decide⟩
     rw[this]
     rfl)
   ·refine vk ?_
    refine vi ?_;refine aw (i+1) ⟨Uo,λz C=>?_⟩;rw[QQ,I,Option.toList]at C;rcases List.mem_append.1 C with h|h
    ·exact o z h
    ·obtain rfl:=List.mem_singleton.1 h
     rw[S,KU Uo]
  ·rw[JG Uo]at o
   have hA:(atmsT x).all (bg B known self)=true:=List.all_eq_true.2 o;rw[hA,Bool.true_and];refine aB τok (σ:=Nat) [(1,_),(2,_),(4,_),(7,_)] [(4,_),(7,_)] (λi=>[(11,vI i)]) (λ_=>[]) (λi=>i<=(kidsT x).length/\∀m∈(kidsT x).take i,mf B known self m=true) (λi=>(kidsT x).length-i) 0 ⟨KV _,Ud⟩ ?_;rintro j ⟨k1,K⟩;refine aj<|af (λk=>?_) (λk=>?_)
   ·obtain⟨y,D,hd⟩:=ay (l:=kidsT x) (k:=j)
    have L:=JQ D;have a0:=fN s.ok D;refine vt j D ?_;refine bV (U Uo y (s.kid D) Uo) (λf=>?_) (λf=>?_)
    ·refine vk ?_
     refine vi ?_;refine aw (j+1) ⟨Uo,λz C=>?_⟩;rw[QQ,D,Option.toList]at C;rcases List.mem_append.1 C with h|h
     ·exact K z h
     ·obtain rfl:=List.mem_singleton.1 h
      exact f
    ·refine vk ?_
     exact aE (h3:=by
      have:(kidsT x).all (mf B known self)=false:=by
       rw[List.all_eq_false];exact⟨y,L,by rw[f];decide⟩
      rw[this]
      rfl)
   ·rw[JG Uo]at K
    exact aE (h3:=by rw[List.all_eq_true.2 K];rfl)
theorem qJ(e:known<=B.ents.length)(t:List Nd)(h:t.length<=1000000)(below:Int):VC prog 50 [bw B,pI known,pI self,pI below,ah t] (pI (cP B known self t below)):=by
 have i:=me t h;refine vf 36 [.tmp 10] τok func50 ?_;refine ae i ?_
 by_cases a:fF t=0
 ·obtain⟨x,c,rfl⟩:=vS a
  have j:cP B known self (row x) below=if kK x below=false then 8 else if (row x).any (λm=>!bg B known self m)=true then 8 else 0:=by
   unfold cP;rw[KY (by rw[a];decide),jJ c.ok]
  have k:(row x).any (λm=>!bg B known self m)= !mf B known self x:=by
   unfold mf;rw[<- List.not_all_eq_any_not]
  rw[j,k];refine vn ?_ (by rw[a];decide);refine ae (jx c) ?_;refine bV (MY c below) (λb=>?_) (λb=>?_)
  ·refine bV (M8 e 4096 Uo x c c.len) (λf=>?_) (λf=>?_)
   ·exact aE (h3:=by rw[b,f];rfl)
   ·exact aE (h3:=by rw[b,f];rfl)
  ·exact aE (h3:=by rw[b];rfl)
 ·refine vy ?_ a
  exact aE (h3:=by unfold cP;rw[KX a];rfl)
theorem AJ{step:Int}:∀(ls:List (List Nd)) (b:Int) (i:Nat) (t:List Nd),ls[i]?=some t ->bU B known self step (ls.drop i) b=if cP B known self t b≠0 then cP B known self t b else bU B known self step (ls.drop (i+1)) (b+step)
 |l::r,b,0,t,h=>by
  obtain rfl:=JB h
  rfl
 |l::r,b,i+1,t,h=>AJ r b i t h
theorem AK(e:known<=B.ents.length){ls:List (List Nd)}(hl:ls.length<=1000000/\∀t∈ls,t.length<=1000000){below:Int}(hb:-1000000000<=below/\below<=1000000000):VC prog 120 [bw B,pI known,pI self,pI below,bD ls] (pI (bU B known self 1 ls below)):=by
 have h:=au (λt=>[ah t]) ls;refine vf 33 [.tmp 10] τok func120 ?_;refine aB τok (σ:=Nat) [(1,_),(2,_),(3,_),(4,_),(5,_),(10,_)] [(5,_)] (λi=>[(11,vI i)]) (λ_=>[]) (λi=>i<=ls.length/\bU B known self 1 ls below=bU B known self 1 (ls.drop i) (below+i)) (λi=>ls.length-i) 0 ⟨KV _,Ud⟩ ?_;rintro i ⟨j,a⟩;refine aj<|af (λg=>?_) (λg=>?_)
 ·obtain⟨t,b,n⟩:=ay (l:=ls) (k:=i)
  rw[AJ ls _ i t b]at a;refine vi ?_;refine vm i b ?_;refine ae (qJ e t (hl.2 t (JQ b)) _) ?_;refine vk ?_;refine af (λc=>?_) (λc=>?_)
  ·rw[KX c]at a
   exact aE (h3:=by rw[a];rfl)
  ·rw[KY c]at a
   refine vi ?_;exact aw (i+1) ⟨Uo,by rw[a,show below+(i:Int)+1=below+((i+1:Nat):Int) by omega]⟩
 ·rw[JY Uo]at a
  exact aE (h3:=by rw[a];rfl)
end
end Go.Q
