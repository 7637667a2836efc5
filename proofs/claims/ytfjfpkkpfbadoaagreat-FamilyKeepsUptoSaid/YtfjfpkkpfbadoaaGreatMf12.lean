import Derived.Test.YtfjfpkkpfbadoaaGreatMf11
set_option linter.all false
set_option maxRecDepth 100000
set_option maxHeartbeats 4000000
open Go.Proofs Go.Proofs.Tryz Cd Go.Wx Lv Tm
namespace Go.Q
def iR(z:Int):Int:=if z=0 then -1 else if z=1 then -2 else if z=2 then -3 else z-100
def rM(m:List Int):List Int:=m.reverse.map iR
def m9(m:List Int):PV:=.sl ((rM m).map iP)
theorem wd(m:List Int):(rM m).length=m.length:=by simp[rM]
theorem Nl(m:List Int)(z:Int):rM (m++[z])=iR z::rM m:=by simp[rM]
theorem Nm(m:List Int)(z:Int)(k:Nat):rM (m++List.replicate k z)=List.replicate k (iR z)++rM m:=by simp[rM]
theorem Ga(l:List Int):∀x∈l,(iP x).length=1/\∀q∈iP x,q.one=true:=λx _=>⟨rfl,λq a=>by
 obtain rfl:q=pI x:=by simpa[iP]using a
 rfl⟩
theorem Nn{m:List Int}{v:Nat}(h:v<m.length):(rM m)[v]?=some (iR (bW m v)):=by
 unfold rM bW;rw[KY Uo,JX,List.getElem?_reverse h,QK,Int.toNat_natCast,gE]
 rfl
theorem wg(m:List Int)(hm:m.length<=1000000){v:Int}(a:0<=v):VC prog 185 [m9 m,pI v] (pI (iR (bW m v))):=by
 obtain⟨j,rfl⟩:∃j:Nat,v=(j:Int):=⟨v.toNat,Uo⟩
 have b:=aq iP (rM m);have d:=wd m;refine vf 13 [.tmp 4] τok func185 ?_;refine ae (λg=>?_) (λg=>?_)
 ·refine vm j (Nn Uo) ?_
  exact aF
 ·exact aF (h3:=by
   unfold bW;rw[KX Uo]
   rfl)
theorem wj(m:List Int)(hm:m.length<=1000000)(k:Nat)(a:k<=1000000)(z:Int):VC prog 153 [m9 m,pI k,pI (iR z)] (m9 (m++List.replicate k z)):=by
 have b:=wd m;refine cN 21 [.tmp 6] τok func153 ?_;refine aj<|dK 7 1000 3 1 rfl rfl<|aB τok (σ:=Nat) [(0,_),(1,_),(2,_)] [] (λj=>[(7,.c (.row 1000)),(8,vI j)]) (λj=>[(1000,.rw 3 1 ((List.replicate j (iR z)).map iP))]) (λj=>j<=k) (λj=>k-j) 0 (KV _) ?_;rintro j d;refine aj<|ae (λg=>?_) (λg=>?_)
 ·refine bg ?_ (hb:=Uk)
  refine vi ?_;exact au (j+1) (by show j+1<=k;omega) (sw 1000 17) (y':=⟨KG (λl=>some (SE.rw _ _ l)) (by rw[List.replicate_succ',KB];rfl),trivial⟩)
 ·obtain rfl:j=k:=Uo
  refine va (p:=iP) ?_ (Ga _) (hb:=Uk);exact aF (h3:=by unfold m9;rw[Nm,KB];rfl)
theorem mk_of{pl m:List Int}(h:Mk pl m)(v:Int):bW m v=0 \/bW m v=1 \/bW m v=2 \/∃j:Nat,j<pl.length/\bW m v=100+j:=by
 unfold bW;split
 ·exact .inl rfl
 ·rename_i g
  rcases Nat.lt_or_ge (m.length-1-v.toNat) m.length with a|a
  ·rw[QK,List.getElem?_eq_getElem a]
   exact h _ (List.getElem_mem a)
  ·rw[QK,QF a]
   exact .inl rfl
theorem Gb{pl m:List Int}(h:Mk pl m)(v:Int):iR (bW m v)= -3↔bW m v=2:=by
 unfold iR;rcases mk_of h v with e|e|e|⟨j,_,e⟩<;>rw[e]
 ·decide
 ·decide
 ·decide
 ·constructor<;>intro q
  ·rw[KY Uo,KY Uo,KY Uo]at q;omega
  ·omega
theorem Gc{pl m:List Int}(h:Mk pl m)(v:Int):iR (bW m v)= -2↔bW m v=1:=by
 unfold iR;rcases mk_of h v with e|e|e|⟨j,_,e⟩<;>rw[e]
 ·decide
 ·decide
 ·decide
 ·constructor<;>intro q
  ·rw[KY Uo,KY Uo,KY Uo]at q;omega
  ·omega
theorem No{pl m:List Int}(h:Mk pl m)(v:Int):(0<=iR (bW m v)↔100<=bW m v)/\(100<=bW m v ->iR (bW m v)=bW m v-100/\∃j:Nat,j<pl.length/\bW m v=100+j):=by
 unfold iR;rcases mk_of h v with e|e|e|⟨j,a,e⟩<;>rw[e]
 ·exact⟨UO,λh=>Uo⟩
 ·exact⟨UO,λh=>Uo⟩
 ·exact⟨UO,λh=>Uo⟩
 ·rw[KY Uo,KY Uo,KY Uo]
  exact⟨Uo,λ_=>⟨rfl,j,a,rfl⟩⟩
theorem wl{x:Tr}(d:Wf x)(h1:x.n.op=1):0<=x.n.a/\kidsT x=[]:=by
 obtain⟨n,e⟩:=x;have h1:n.op=1:=h1;obtain⟨a,b,c⟩:=d.ft.var_lt h1;exact⟨a,by subst c;simp[kidsT]⟩
theorem Gd{x:Tr}(k:Wf x){pl m:List Int}(hM:Mk pl m)(hm:m.length<=1000000):VC prog 186 [bB x,m9 m] (.bool (jz x m)):=by
 refine cN 25 [.tmp 4] τok func186 ?_;refine aj<|aB τok (σ:=Tr) [(1,_),(2,_)] [] (λ_=>[]) (λq=>[(2,.st 0 60 ((ec q).map .p))]) (λq=>Wf q/\headT q=headT x) (λq=>(row q).length) x ⟨k,rfl⟩ ?_;rintro z ⟨j,d⟩;refine aj<|ae (λg=>?_) (λg=>?_)
 ·obtain⟨f,a,l,hf,s,i,o,r⟩:=j6 j g
  refine vt 0 (by rw[l];rfl) ?_;exact au f ⟨hf,by rw[<- i];exact d⟩
 ·obtain⟨i,o⟩:=gk g
  rw[i]at d;refine ae (λe=>?_) (λe=>?_)
  ·refine af (wg m hm (wl j e).1) ?_
   refine ae (λb=>?_) (λb=>?_)
   ·have b:=(Gb hM _).1 b
    exact aF (h3:=by unfold jz;rw[<- d,KU e,KU b];rfl)
   ·have b:¬ bW m z.n.a=2:=λh=>b ((Gb hM _).2 h)
    exact aF (h3:=by unfold jz;rw[<- d,KU e,KH b];rfl)
  ·exact aF (h3:=by unfold jz;rw[<- d,KH e];rfl)
theorem gm{x:Tr}(a:Wf x)(h:x.n.op=4 \/x.n.op=5):kidsT x=[kidD x 0,kidD x 1]/\Wf (kidD x 0)/\Wf (kidD x 1)/\(row (kidD x 0)).length<(row x).length/\(row (kidD x 1)).length<(row x).length:=by
 obtain⟨_,_,e,_⟩:=nW a.ok h;have b:(kidsT x)[0]?=some (kidD x 0):=by rw[e];rfl
 have d:(kidsT x)[1]?=some (kidD x 1):=by rw[e];rfl
 exact⟨e,a.kid b,a.kid d,ij a.ok b,ij a.ok d⟩
theorem Np{x:Tr}(w:Wf x)(p:Nat)(M:p<=1000):VC prog 151 [bB x,pI p] (.bool (dB' p x)):=by
 refine cN 41 [.tmp 4] τok func151 ?_;refine aj<|aB τok (σ:=Nat×Tr) [(1,_),(2,_)] [] (λq=>[(5,vI q.1)]) (λq=>[(2,.st 0 60 ((ec q.2).map .p))]) (λq=>q.1<=p/\Wf q.2/\dB' (p-q.1) q.2=dB' p x) (λq=>p-q.1) (0,x) ⟨KV _,w,rfl⟩ ?_;rintro⟨j,z⟩ ⟨C,i,d⟩;simp only at C i d;refine aj<|ae (λg=>?_) (λg=>?_)
 ·simp only at g
  obtain⟨c,D⟩:∃c,p-j=c+1:=⟨p-j-1,Uo⟩
  rw[D]at d;simp only[dB']at d;refine ae (λb=>?_) (λb=>?_)
  ·obtain⟨e,s,v,E,F⟩:=gm i (.inl b)
   rw[KU b,Bool.true_and]at d;refine vt 1 (by rw[e];rfl) ?_;refine vi ?_;exact au (j+1,kidD z 1) ⟨Us,v,by rw[<- d,show p-(j+1)=c by omega]⟩
  ·refine vy (p:=z.n.op≠4) ?_ b
   exact aF (h3:=by rw[<- d,KH b];rfl)
 ·simp only at g
  obtain rfl:j=p:=Uo
  rw[Nat.sub_self]at d;simp only[dB']at d;refine ae (λb=>?_) (λb=>?_)
  ·have b:z.n.op≠4:=b
   exact aF (h3:=by rw[<- d,KH b];rfl)
  have b:z.n.op=4:=Classical.not_not.1 b;obtain⟨e,s,v,E,F⟩:=gm i (.inl b);rw[KU b,Bool.true_and]at d;refine vt 0 (by rw[e];rfl) ?_;refine aB τok (σ:=Tr) [(1,_),(2,_)] [] (λ_=>[]) (λq=>[(2,.st 0 60 ((ec q).map .p))]) (λq=>Wf q/\headT q=headT (kidD z 0)) (λq=>(row q).length) (kidD z 0) ⟨s,rfl⟩ ?_;rintro u ⟨q1,k⟩;refine aj<|ae (λl=>?_) (λl=>?_)
  ·obtain⟨f,a,H,hf,O,o,I,L⟩:=j6 q1 l
   refine vt 0 (by rw[H];rfl) ?_;exact au f ⟨hf,by rw[<- o];exact k⟩
  ·obtain⟨o,I⟩:=gk l
   rw[o]at k;rw[<- k]at d;refine ae (λr=>?_) (λr=>?_)
   ·exact aF (h3:=by rw[<- d,KU r];rfl)
   ·exact aF (h3:=by rw[<- d,KH r];rfl)
theorem wn{α:Type}{p q:α ->Bool}{l:List α}(h:∀y∈l,p y=q y):l.all p=l.all q:=by
 induction l with
 |nil=>rfl
 |cons y r a=>
  rw[List.all_cons,List.all_cons,h y Ud,a λz b=>h z (by simp[b])]
theorem nc(N:Nat):∀{x:Tr},Wf x ->(row x).length<=N ->(Wf (headT x)/\(headT x).n.op≠6/\(row (headT x)).length<=(row x).length)/\∀y∈argsT x,Wf y/\(row y).length<(row x).length:=by
 induction N with
 |zero=>intro x d h;have:=aR x;omega
 |succ N o=>
  intro x d h
  by_cases e:x.n.op=6
  ·obtain⟨f,a,q,hf,r,i,k,w⟩:=j6 d e
   obtain⟨⟨s,u,z⟩,v⟩:=o hf Uo;have l:=ij d.ok (j:=1) (y:=a) (by rw[q];rfl);rw[i,k];refine⟨⟨s,u,Uo⟩,λy b=>?_⟩;rcases List.mem_append.1 b with b|b
   ·have:=v y b
    exact⟨this.1,Uo⟩
   ·obtain rfl:y=a:=by simpa using b
    exact⟨r,l⟩
  ·obtain⟨i,k⟩:=gk e
   rw[i,k];exact⟨⟨d,e,KJ _⟩,Ud⟩
def j7(B:ak)(pl:List Int)(rc:RcF)(x f:Tr)(m:List Int):Bool:=
 if f.n.op=1 then (if bW m f.n.a<100 then true else decide (pl.getD (bW m f.n.a-100).toNat 0<(argsT x).length) && jz (fJ x (pl.getD (bW m f.n.a-100).toNat 0)) m)
 else if f.n.op=11 then lM B rc f m
 else if f.n.op=4 \/f.n.op=5 then rc (kidD f 0) m && rc (kidD f 1) (m++[0])
 else if f.n.op=7 then (rc (kidD f 0) m && rc (kidD f 1) m) && rc (kidD f 2) (m++[0])
 else if f.n.op=12 then lN rc m (m++List.replicate f.n.b.toNat 0) (kidsT f)
 else true
theorem Ay(B:ak)(pl:List Int)(g:Nat)(x:Tr)(m:List Int):fj B pl (g+1) x m=((argsT x).all (λy=>fj B pl g y m) && j7 B pl (fj B pl g) x (headT x) m):=rfl
section
variable{B:ak}{pl:List Int}{rc rc':RcF}{R:Nat}
theorem Ge(h:∀y m,Wf y ->(row y).length<R ->rc y m=rc' y m):∀(n:Nat) (t:Tr) (m:List Int),Wf t ->(row t).length<R ->gA rc n t m=gA rc' n t m
 |0,t,m,ht,hl=>h t m ht hl
 |n+1,t,m,ht,hl=>by
  simp only[gA]
  by_cases a:t.n.op=5
  ·obtain⟨_,w0,b,d,e⟩:=gm ht (.inr a)
   rw[KX a,KX a,h _ _ w0 Uo,Ge h n _ _ b Uo]
  ·rw[KY a,KY a,h _ _ ht hl]
theorem Gf(h:∀y m,Wf y ->(row y).length<R ->rc y m=rc' y m)(a:Int)(d:Bool)(m:List Int):∀(l:List Tr) (k:Nat),(∀y∈l,Wf y/\(row y).length<R) ->mU B rc a d m k l=mU B rc' a d m k l
 |[],k,_=>rfl
 |t::r,k,hl=>by
  simp only[mU];rw[Ge h _ t m (hl t Ud).1 (hl t Ud).2,Gf h a d m r (k+1) λy b=>hl y (by simp[b])]
theorem Gg(h:∀y m,Wf y ->(row y).length<R ->rc y m=rc' y m)(m m':List Int):∀(l:List Tr),(∀y∈l,Wf y/\(row y).length<R) ->lN rc m m' l=lN rc' m m' l
 |[],_=>rfl
 |[_],_=>rfl
 |t::b::r,hl=>by
  simp only[lN];rw[h t m (hl t Ud).1 (hl t Ud).2,h b m' (hl b Ud).1 (hl b Ud).2,Gg h m m' r λy a=>hl y (by simp[a])]
theorem Nq(h:∀y m,Wf y ->(row y).length<R ->rc y m=rc' y m){f:Tr}(hf:Wf f)(a:f.n.op=11)(hl:(row f).length<=R)(m:List Int):lM B rc f m=lM B rc' f m:=by
 have b:=gP hf.ok a;have d:2<=(kidsT f).length:=by rw[b.1];omega
 obtain⟨_,e,l⟩:=cA hf (k:=0);obtain⟨_,i,o⟩:=cA hf (k:=1);unfold lM;rw[h _ _ e Uo,h _ _ i Uo,Gf h _ _ _ _ _ λy j=>by
  have:=vw hf y (List.mem_of_mem_drop j);exact⟨this.1,Uo⟩]
theorem Gh(h:∀y m,Wf y ->(row y).length<R ->rc y m=rc' y m)(x:Tr){f:Tr}(hf:Wf f)(hl:(row f).length<=R)(m:List Int):j7 B pl rc x f m=j7 B pl rc' x f m:=by
 unfold j7
 by_cases j:f.n.op=1
 ·rw[KX j,KX j]
 rw[KY j,KY j]
 by_cases a:f.n.op=11
 ·rw[KX a,KX a,Nq h hf a hl]
 rw[KY a,KY a]
 by_cases b:f.n.op=4 \/f.n.op=5
 ·obtain⟨_,l,o,q,r⟩:=gm hf b
  rw[KX b,KX b,h _ _ l Uo,h _ _ o Uo]
 rw[KY b,KY b]
 by_cases i:f.n.op=7
 ·obtain⟨e,_⟩:=ql hf.ok i
  have s:(kidsT f).length=3:=by rw[e];rfl
  obtain⟨_,l,q⟩:=cA hf (k:=0);obtain⟨_,o,r⟩:=cA hf (k:=1);obtain⟨_,u,w⟩:=cA hf (k:=2);rw[KX i,KX i,h _ _ l Uo,h _ _ o Uo,h _ _ u Uo]
 rw[KY i,KY i]
 by_cases d:f.n.op=12
 ·rw[KX d,KX d,Gg h _ _ _ λy v=>by
   have:=vw hf y v;exact⟨this.1,Uo⟩]
 rw[KY d,KY d]
end
theorem Az(B:ak)(pl:List Int):∀(g a:Nat) (x:Tr) (m:List Int),Wf x ->(row x).length<=g ->(row x).length<=a ->fj B pl g x m=fj B pl a x m:=by
 intro g
 induction g with
 |zero=>intro a x m _ h;have:=aR x;omega
 |succ g e=>
  intro a x m i h l;cases a with
  |zero=>have:=aR x;omega
  |succ a=>
   obtain⟨⟨j,o,k⟩,d⟩:=nc _ i (KJ _);rw[Ay,Ay,wn λy b=>e a y m (d y b).1 (by have:=(d y b).2;omega) (by have:=(d y b).2;omega),Gh (R:=(row x).length) (λy m b q=>e a y m b Uo Uo) x j k]
def dQ(B:ak)(pl:List Int)(x:Tr)(m:List Int):Bool:=fj B pl (row x).length x m
theorem s9(B:ak)(pl:List Int){x:Tr}(d:Wf x)(m:List Int):dQ B pl x m=((argsT x).all (λy=>dQ B pl y m) && j7 B pl (dQ B pl) x (headT x) m):=by
 obtain⟨⟨e,k,i⟩,b⟩:=nc _ d (KJ _);obtain⟨g,j⟩:∃g,(row x).length=g+1:=⟨(row x).length-1,by have:=aR x;omega⟩
 unfold dQ;rw[j,Ay,wn (q:=λy=>fj B pl (row y).length y m) λy a=>Az B pl _ _ y m (b y a).1 (by have:=(b y a).2;omega) (KJ _),Gh (R:=(row x).length) (λy m a l=>Az B pl _ (row y).length y m a Uo (KJ _)) x e i]
def nf(rc:RcF)(n:Nd)(m:List Int):Nat ->List Tr ->Bool
 |_,[]=>true
 |i,t::r=>rc t (m++List.replicate (kb n i).toNat 0) && nf rc n m (i+1) r
theorem Gi(rc:RcF){n:Nd}(a:n.op=12)(m:List Int):∀(l:List Tr) (i:Nat),i%2=0 ->l.length%2=0 ->lN rc m (m++List.replicate n.b.toNat 0) l=nf rc n m i l
 |[],_,_,_=>rfl
 |[_],_,_,h=>by simp at h
 |t::b::r,i,h,hl=>by
  have d:kb n i=0:=by unfold kb;rw[KX a,KY Uo]
  have e:kb n (i+1)=n.b:=by unfold kb;rw[KX a,KX Uo]
  simp only[lN,nf];rw[Gi rc a m r (i+1+1) Uo (by simp only[JV]at hl;omega),d,e];simp[Bool.and_assoc]
def lZ(x:Tr)(m:List Int):Bool:=decide ((headT x).n.op=1) && decide (100<=bW m (headT x).n.a)
section
variable{B:ak}{pl:List Int}{x:Tr}{m:List Int}
theorem Nr(b:Wf x)(h:lZ x m=true):dQ B pl x m=((decide (pl.getD (bW m (headT x).n.a-100).toNat 0<(argsT x).length) && jz (fJ x (pl.getD (bW m (headT x).n.a-100).toNat 0)) m) && (argsT x).all (λy=>dQ B pl y m)):=by
 unfold lZ at h;simp only[Bool.and_eq_true,decide_eq_true_eq]at h;rw[s9 B pl b];unfold j7;rw[KX h.1,KY Uo,Bool.and_comm]
theorem Ns(a:Wf x)(h:x.n.op=11):dQ B pl x m=lM B (dQ B pl) x m:=by
 obtain⟨b,d⟩:=gk (x:=x) Uo;rw[s9 B pl a,b,d];unfold j7;rw[KY Uo,KX h]
 rfl
theorem Nt(j:Wf x)(h:lZ x m=false)(l:x.n.op≠11):dQ B pl x m=nf (dQ B pl) x.n m 0 (kidsT x):=by
 by_cases o:x.n.op=6
 ·obtain⟨f,a,z,hf,E,s,w,F⟩:=j6 j o
  have u:kb x.n 0=0:=by simp[kb,bi,o]
  have v:kb x.n 1=0:=by simp[kb,bi,o]
  rw[z];simp only[nf];rw[u,v,s9 B pl j,s9 B pl hf,w,s,List.all_append];have C:j7 B pl (dQ B pl) x (headT f) m=j7 B pl (dQ B pl) f (headT f) m:=by
   unfold j7
   by_cases d:(headT f).n.op=1
   ·have:bW m (headT f).n.a<100:=by
     unfold lZ at h;rw[s,KU d,Bool.true_and,decide_eq_false_iff_not]at h;omega
    rw[KX d,KX d,KX this,KX this]
   ·rw[KY d,KY d]
  rw[C];simp
  generalize (argsT f).all _=p
  generalize j7 _ _ _ _ _ _=q
  generalize dQ B pl a m=r
  cases p<;>cases q<;>cases r<;>rfl
 obtain⟨s,w⟩:=gk o;rw[s9 B pl j,s,w];unfold j7;rw[List.all_nil,Bool.true_and]
 by_cases d:x.n.op=1
 ·have:bW m x.n.a<100:=by
   unfold lZ at h;rw[s,KU d,Bool.true_and,decide_eq_false_iff_not]at h;omega
  rw[KX d,KX this,(wl j d).2]
  rfl
 rw[KY d,KY l]
 by_cases i:x.n.op=4 \/x.n.op=5
 ·obtain⟨e,_⟩:=gm j i
  have u:kb x.n 0=0:=by unfold kb;rw[KY Uo];simp[bi]
  have v:kb x.n 1=1:=by unfold kb;rw[KY Uo];simp[bi];omega
  rw[KX i,e];simp only[nf];rw[u,v];simp
 rw[KY i]
 by_cases k:x.n.op=7
 ·obtain⟨e,_⟩:=ql j.ok k
  have u:kb x.n 0=0:=by simp[kb,bi,k]
  have v:kb x.n 1=0:=by simp[kb,bi,k]
  have D:kb x.n 2=1:=by simp[kb,bi,k]
  rw[KX k,e];simp only[nf];rw[u,v,D];simp[Bool.and_assoc]
 rw[KY k]
 by_cases b:x.n.op=12
 ·rw[KX b]
  exact Gi _ b m _ 0 rfl (by have:=gu j.ok b;omega)
 rw[KY b];have z:=(qu j.ok).1;have:kidsT x=[]:=by
  refine List.length_eq_zero_iff.1 ?_;have H:bD x.n=0:=by simp[bD,i,o,k,l,b]
  omega
 rw[this]
 rfl
end
end Go.Q
namespace Go.Wx
section
variable{P:Program}{τ:Tau}{n:Nat}{A:AS}{K:Exit ->AS ->Prop}{c:Operand}{x y:Code}
theorem AA(j:VCode P n x A K)(h:rd A c (λa=>a= .c (.p (.bool true))):=by rfl):VCode P n (.cond c x y) A K:=by
 refine VCode.mk λk X l s w d=>?_;obtain⟨a,o,q,r⟩:=bT h;subst r;have e:=j.run k X l s w d;obtain⟨C,ρ,b⟩:=d;obtain⟨_,v,u,hr⟩:=b.op (Agr.rfl' A [c]) Ud o q;have hr:RV C (.bool true) v:=hr;cases hr;unfold EvCode at e ⊢;exact λa i=>wp_cond_true (i.eval u) (e a i)
theorem AB(j:VCode P n y A K)(h:rd A c (λa=>a= .c (.p (.bool false))):=by rfl):VCode P n (.cond c x y) A K:=by
 refine VCode.mk λk X l s w d=>?_;obtain⟨a,o,q,r⟩:=bT h;subst r;have e:=j.run k X l s w d;obtain⟨C,ρ,b⟩:=d;obtain⟨_,v,u,hr⟩:=b.op (Agr.rfl' A [c]) Ud o q;have hr:RV C (.bool false) v:=hr;cases hr;unfold EvCode at e ⊢;exact λa i=>wp_cond_false (i.eval u) (e a i)
end
end Go.Wx
namespace Go.Q
theorem tc(l:List Tr):∀x∈l,(trP x).length=6/\∀q∈trP x,q.one=true:=λx _=>by
 rw[kK];refine⟨rfl,λq a=>?_⟩;simp only[fL,JJ,JZ,or_false]at a;rcases a with rfl|rfl|rfl|rfl|rfl|rfl<;>rfl
theorem AD{l:List Tr}{i:Nat}{k:List PV ->Prop}{y:Tr}(a:l[i]?=some y)(b:k (ec y)):pR (l.map trP) i k:=yf (ec y) (by rw[JX,a];exact KG some (kK y)) b
def Gj(B:ak)(pl:List Int)(R:Nat):Prop:=∀(y:Tr) (N:Int) (m:List Int),Ft (QB B) N y ->(row y).length<R ->Mk pl m ->m.length+4*(row y).length<=100000 ->VC prog 152 [bk B,bB y,m9 m,.sl (pl.map iP)] (.bool (dQ B pl y m))
theorem Gk{α:Type}{p:α ->Bool}{l:List α}{i:Nat}{y:α}(h:l[i]?=some y):(l.drop i).all p=(p y && (l.drop (i+1)).all p):=by
 have a:=aL h;rw[List.drop_eq_getElem_cons a,List.all_cons];rw[List.getElem?_eq_getElem a]at h;rw[JB h]
theorem Nu{s:Tr}(j:Wf s)(m:List Int):pc s m=(jz s m||(decide (s.n.op=1) && decide (bW m s.n.a=1))):=by
 unfold pc jz
 by_cases e:s.n.op=6
 ·obtain⟨f,a,k,hf,l,i,d,o⟩:=j6 j e
  rw[KH (show ¬ s.n.op=1 by omega),KH (show ¬ (argsT s).length=0 by rw[d];simp)]
  by_cases b:(headT s).n.op=1
  ·simp[b]
  ·simp[b]
 ·obtain⟨i,d⟩:=gk e
  rw[i,d]
  by_cases b:s.n.op=1
  ·simp[b]
  ·simp[b]
section
variable{B:ak}{pl:List Int}(hB:GoodB B)(hpl:∀p∈pl,0<=p/\p<=15)
include hB hpl
theorem Nv{x:Tr}{N:Int}(E:Ft (QB B) N x)(H:Gj B pl (row x).length){m:List Int}(hM:Mk pl m)(b5:m.length+4*(row x).length<=100000):VC prog 152 [bk B,bB x,m9 m,.sl (pl.map iP)] (.bool (dQ B pl x m)):=by
 have v:=aC E;have b4:=E.len;have b6:=aR x;refine cN 218 [.tmp 8] τok func152 ?_;refine aD<|aD<|aD<|dK 10 1000 60 6 rfl rfl<|dd τok (σ:=Unit) [(2,_),(3,_),(4,_),(5,_)] [(4,_),(5,_)] (λ_=>[(9,.c (.ptr 9 0)),(10,.c (.row 1000))]) (λ_=>[(9,.st 0 60 ((ec (headT x)).map .p)),(1000,.rw 60 6 ((argsT x).map trP))]) (λ_=>True) ?_ ?_
 ·refine aB τok (σ:=Tr×List Tr) [(2,_),(3,_),(4,_),(5,_),(9,_)] [(4,_),(5,_)] (λq=>[(10,.c (.row 1000))]) (λq=>[(9,.st 0 60 ((ec q.1).map .p)),(1000,.rw 60 6 (q.2.map trP))]) (λq=>Wf q.1/\headT q.1=headT x/\argsT q.1++q.2=argsT x) (λq=>(row q.1).length) (x,[]) ⟨v,rfl,Ud⟩ ?_
  rintro⟨z,ar⟩ ⟨g1,I,F⟩;simp only at g1 I F;have b7:=ou v 4096 v.len;have hl:=KG List.length F;rw[JK]at hl;refine aj<|ae (λg=>?_) (λg=>?_)
  ·obtain⟨f,a,V,hf,ha,e1,e2,b8⟩:=j6 g1 g
   refine vt 1 (by rw[V];rfl) ?_;refine va ?_ (tc _);refine vt 0 (by rw[V];rfl) ?_;exact au (f,a::ar) ⟨hf,by rw[<- e1];exact I,by rw[<- F,e2];simp⟩ (sw 1000 32) (y':=⟨rfl,KG (λl=>some (SE.rw _ _ l)) (by rw[List.map_cons,kK a];rfl),trivial⟩)
  ·obtain⟨e1,e2⟩:=gk g
   rw[e1]at I;rw[e2,List.nil_append]at F;subst I F;exact au () trivial
 rintro _ _;obtain⟨⟨h1,h2,h3⟩,h4⟩:=nc _ v (KJ _);refine dd τok (σ:=Unit) [(2,_),(3,_),(4,_),(5,_)] [(4,_),(5,_)] (λ_=>[]) (λ_=>[]) (λ_=>lZ x m=false) ?_ ?_
 ·have a3:=ou v 4096 v.len
  have eA:=aq trP (argsT x);refine ae (λg=>?_) (λg=>?_)
  ·have X:=wl h1 g
   refine af (wg m Uo X.1) ?_;obtain⟨c1,c2⟩:=No hM (headT x).n.a;refine ae (λI=>?_) (λI=>?_)
   ·have F:=c1.1 I
    obtain⟨c3,j,hj,c4⟩:=c2 F;obtain⟨p,hp,_⟩:=az (l:=pl) (k:=j) hj;have b9:=hpl p (JQ hp);have L:lZ x m=true:=by unfold lZ;rw[KU g,KU F];rfl
    have r:=Nr (B:=B) (pl:=pl) v L;have a4:pl.getD (bW m (headT x).n.a-100).toNat 0=p:=by
     rw[show (bW m (headT x).n.a-100).toNat=j by omega,QK,hp]
     rfl
    rw[a4]at r;refine af (wg m Uo X.1) ?_;refine vm (p:=iP) j hp ?_ Uo;refine ae (λg5=>?_) (λg5=>?_)
    ·exact aF (h3:=by rw[r,KH (show ¬ p<((argsT x).length:Int) by omega)];rfl)
    rw[KU (show p<((argsT x).length:Int) by omega),Bool.true_and]at r;obtain⟨y,hy,_⟩:=az (l:=argsT x) (k:=p.toNat);have eD:fJ x p=y:=by unfold fJ;rw[QK,hy];rfl
    rw[eD]at r;refine vt p.toNat hy ?_;refine AD hy<|bN (Gd (h4 y (JQ hy)).1 hM Uo) (λM=>?_) (λM=>?_)
    ·rw[M,Bool.true_and]at r
     refine aB τok (σ:=Nat) [(2,_),(3,_),(4,_),(10,_)] [(4,_),(1000,_)] (λi=>[(12,vI i)]) (λ_=>[]) (λi=>i<=(argsT x).length/\dQ B pl x m=((argsT x).drop i).all (λy=>dQ B pl y m)) (λi=>(argsT x).length-i) 0 ⟨KV _,r⟩ ?_;rintro i ⟨O,d⟩;refine aj<|ae (λY=>?_) (λY=>?_)
     ·obtain⟨z,W,_⟩:=az (l:=argsT x) (k:=i)
      rw[Gk W]at d;have S:=JQ W;refine vt i W ?_;refine AD W<|bN (H z N m (E.args z S) (h4 z S).2 hM (by have:=(h4 z S).2;omega)) (λo=>?_) (λo=>?_)
      ·refine vk ?_
       refine vi ?_;exact au (i+1) ⟨Uo,by rw[d,o,Bool.true_and]⟩
      ·refine vk ?_
       exact aF (h3:=by rw[d,o];rfl)
     ·rw[JY Uo]at d
      exact aF (h3:=by rw[d];rfl)
    ·exact aF (h3:=by rw[r,M];rfl)
   ·exact au () (by unfold lZ;rw[KU g,KH Uo];rfl)
  ·exact au () (by unfold lZ;rw[KH g];rfl)
 rintro _ a5;refine VCode.seq<|aD<|ae (λg=>?_) (λg=>?_)
 ·refine AA ?_
  have V:=gP v.ok g;have eK:=aq trP (kidsT x);have kl:((kidsT x).length:Int)=2+x.n.b:=by rw[V.1];exact V.2.1
  obtain⟨a6,w0,l0⟩:=cA v (k:=0);obtain⟨Z,w1,l1⟩:=cA v (k:=1);have f0:=E.kidD (k:=0) Uo;have f1:=E.kidD (k:=1) Uo;have r:=Ns (B:=B) (pl:=pl) (m:=m) v g;unfold lM at r;have hq:=E.node';have ha:bF B B.ents.length x.n.a=true:=by
   simp[QB,cr,aY,g]at hq;exact hq
  refine aD<|vt 0 a6 ?_;refine bN (H _ _ m f0.2 l0 hM Uo) (λs0=>?_) (λs0=>?_)
  ·rw[s0,Bool.true_and]at r
   refine vt 1 Z ?_;refine bN (H _ _ m f1.2 l1 hM Uo) (λM=>?_) (λM=>?_)
   ·rw[M,Bool.true_and]at r
    refine vk ?_;refine aD<|vt 1 Z ?_;refine dd τok (σ:=Bool) [(2,_),(3,_),(4,_),(5,_),(13,_)] [(4,_),(5,_),(13,_)] (λb=>[(14,vP (.bool b))]) (λ_=>[]) (λb=>b=pc (kidD x 1) m) ?_ ?_
    ·have ed:pc (kidD x 1) m=(jz (kidD x 1) m||(decide ((kidD x 1).n.op=1) && decide (bW m (kidD x 1).n.a=1))):=Nu w1 m
     refine bN (Gd w1 hM Uo) (λo=>?_) (λo=>?_)
     ·exact au true (by rw[ed,o];rfl)
     ·refine ae (λO=>?_) (λO=>?_)
      ·refine af (wg m Uo (wl w1 O).1) ?_
       refine ae (λd=>?_) (λd=>?_)
       ·have d:=(Gc hM _).1 d
        exact au true (by rw[ed,KU O,KU d];simp)
       ·have d:¬ bW m (kidD x 1).n.a=1:=λh=>d ((Gc hM _).2 h)
        exact au false (by rw[ed,o,KH d];simp)
      ·exact au false (by rw[ed,o,KH O];rfl)
    rintro C a7;rw[<- a7]at r;obtain⟨a,ea⟩:∃a,x.n.a=a:=⟨_,rfl⟩
    rw[ea]at ha r;obtain⟨ei,en,s',ps,qi,rfl,_,a8,a9,hF⟩:=hB.fam ha (KJ _);have eC:=aq bA en.ctors;refine aD<|vm ei a8 ?_ Uo;refine aD ?_;have a':∀k,k<(kidsT x).length-2 ->∃t,(kidsT x)[2+k]?=some t/\(kidsT x).drop (2+k)=t::(kidsT x).drop (2+(k+1)):=λk V=>az;refine aB τok (σ:=Nat) [(2,_),(3,_),(4,_),(5,_),(14,_),(15,_)] [(4,_),(5,_)] (λk=>[(16,vI k)]) (λ_=>[]) (λk=>k<=(kidsT x).length-2/\dQ B pl x m=mU B (dQ B pl) (ei:Int) C m k ((kidsT x).drop (2+k))) (λk=>(kidsT x).length-2-k) 0 ⟨KV _,r⟩ ?_;rintro k ⟨O,d⟩;refine aD<|ae (λY=>?_) (λY=>?_)
    ·obtain⟨t,ht,hd⟩:=a' k Uo
     rw[hd]at d;simp only[mU]at d;obtain⟨cnt,U⟩:∃c:Nat,(if (C && decide (k<(ax B (ei:Int)).ctors.length))=true then ((ax B (ei:Int)).ctors.getD k default).args.length else 0)=c:=⟨_,rfl⟩
     rw[U]at d;rw[a9]at U;refine VCode.seq (VCode.blk<|aD<|dd τok (σ:=Unit) [(2,_),(3,_),(4,_),(5,_),(14,_),(15,_),(16,_)] [(4,_),(5,_)] (λ_=>[(17,vI cnt)]) (λ_=>[]) (λ_=>cnt<=16) ?_ ?_)
     ·cases C with
      |false=>exact au () (by rw[<- U];simp) (x:=⟨KG (λz=>some (vI z)) (by rw[<- U];rfl),trivial⟩)
      |true=>
       refine ae (λk4=>?_) (λk4=>?_)
       ·obtain⟨c,hc,_⟩:=az (l:=en.ctors) (k:=k)
        obtain⟨ga,go,hC⟩:=hF.ct k c hc;have l4:=KG List.length hC.args;rw[KF]at l4;have b':=hC.la;have e5:c.args.length=cnt:=by
         rw[<- U,KX Uk,QK,hc]
         rfl
        refine vm k hc ?_;exact au () Uo (x:=⟨KG (λz=>some (vI z)) (by rw[KF,e5]),trivial⟩)
       ·exact au () (by rw[<- U,KY Uk];omega) (x:=⟨KG (λz=>some (vI z)) (by rw[<- U,KY Uk];rfl),trivial⟩)
     rintro _ a0;obtain⟨D,wi,li⟩:=cA v (k:=2+k);have fi:=(E.kidD (k:=2+k) Uo).2;rw[ht]at D;obtain rfl:=JB D;refine aj<|vi ?_;refine vt (2+k) ht ?_;refine aB τok (σ:=Nat×Tr×List Int×Int) [(2,_),(3,_),(4,_),(5,_),(14,_),(15,_),(16,_),(18,_)] [(4,_),(5,_)] (λq=>[(17,vI q.1),(19,vP (m9 q.2.2.1))]) (λq=>[(18,.st 0 60 ((ec q.2.1).map .p))]) (λq=>q.1<=16/\Ft (QB B) q.2.2.2 q.2.1/\(row q.2.1).length<(row x).length/\Mk pl q.2.2.1/\q.2.2.1.length+4*(row q.2.1).length<=100000/\gA (dQ B pl) q.1 q.2.1 q.2.2.1=gA (dQ B pl) cnt (kidD x (2+k)) m) (λq=>(row q.2.1).length) (cnt,kidD x (2+k),m,N+kb x.n (2+k)) ⟨a0,fi,li,hM,Us,rfl⟩ ?_;rintro⟨c,u,mm,NN⟩ ⟨r1,r2,r3,r4,r5,w⟩;simp only at r1 r2 r3 r4 r5 w;have c0:=aR u;have wu:=aC r2;refine aj<|ae (λk4=>?_) (λk4=>?_)
     ·simp only at k4
      obtain⟨c',rfl⟩:∃c',c=c'+1:=⟨c-1,Uo⟩
      simp only[gA]at w;refine ae (λk5=>?_) (λk5=>?_)
      ·obtain⟨e,v0,v1,l0,l1⟩:=gm wu (.inr k5)
       have g0:=(r2.kidD (k:=0) (by rw[e];simp)).2;have g1:=(r2.kidD (k:=1) (by rw[e];simp)).2;rw[KX k5]at w;refine vt 0 (by rw[e];rfl) ?_;refine bN (H _ _ mm g0 Uo r4 Uo) (λo=>?_) (λo=>?_)
       ·rw[o,Bool.true_and]at w
        refine vk ?_;refine af (wj mm Uo 1 Uo 2) ?_;refine vt 1 (by rw[e];rfl) ?_;refine vi ?_;exact au (c',kidD u 1,mm++[2],_) ⟨Uo,g1,Us,r4.snoc Uo,Uk,w⟩ (x:=⟨KG (λz=>some (vI z)) Us,rfl,trivial⟩)
       ·refine vk ?_
        exact aF (h3:=by rw[d,<- w,o];rfl)
      ·rw[KY k5]at w
       refine bN (H _ _ mm r2 r3 r4 r5) (λo=>?_) (λo=>?_)
       ·refine aj ?_
        refine vi ?_;exact au (k+1) ⟨Uo,by rw[d,<- w,o,Bool.true_and]⟩
       ·exact aF (h3:=by rw[d,<- w,o];rfl)
     ·simp only at k4
      obtain rfl:c=0:=Uo
      simp only[gA]at w;refine bN (H _ _ mm r2 r3 r4 r5) (λo=>?_) (λo=>?_)
      ·refine aj ?_
       refine vi ?_;exact au (k+1) ⟨Uo,by rw[d,<- w,o,Bool.true_and]⟩
      ·exact aF (h3:=by rw[d,<- w,o];rfl)
    ·rw[JY Uo]at d
     exact aj<|aF (h3:=by rw[d];rfl)
   ·refine vk ?_
    exact aF (h3:=by rw[r,M];rfl)
  ·refine vk ?_
   exact aF (h3:=by rw[r,s0];rfl)
 ·refine AB ?_
  refine aj ?_;show VCode _ _ _ _ _;have r:=Nt (B:=B) (pl:=pl) v a5 g;have eK:=aq trP (kidsT x);have c5:=gO v.ok;refine aj<|aB τok (σ:=Nat) [(2,_),(3,_),(4,_),(5,_)] [(4,_),(5,_)] (λi=>[(20,vI i)]) (λ_=>[]) (λi=>i<=(kidsT x).length/\dQ B pl x m=nf (dQ B pl) x.n m i ((kidsT x).drop i)) (λi=>(kidsT x).length-i) 0 ⟨KV _,r⟩ ?_;rintro i ⟨O,d⟩;refine aj<|ae (λY=>?_) (λY=>?_)
  ·have hi:i<(kidsT x).length:=Uo
   obtain⟨D,wi,li⟩:=cA v hi;have fi:=(E.kidD hi).2;obtain⟨b1,b2⟩:=oq v.ok i;obtain⟨q,hq⟩:∃q:Nat,kb x.n i=(q:Int):=⟨(kb x.n i).toNat,Uo⟩
   have a1:=Ld x.n i Uo;rw[hq]at a1;have b0:=wj m Uo q Uo 0;have W:=az hi;obtain⟨z,a2,b3⟩:=W;rw[D]at a2;obtain rfl:=JB a2;rw[b3]at d;simp only[nf]at d;rw[hq,Int.toNat_natCast]at d;refine vt i D ?_;refine af a1 ?_;refine af b0 ?_;refine bN (H _ _ _ fi li (hM.zeros q) Uk) (λs=>?_) (λs=>?_)
   ·refine vk ?_
    refine vi ?_;exact au (i+1) ⟨Uo,by rw[d,s,Bool.true_and]⟩
   ·refine vk ?_
    exact aF (h3:=by rw[d,s];rfl)
  ·rw[JY Uo]at d
   exact aF (h3:=by rw[d];rfl)
theorem Ft':∀R,Gj B pl R
 |0=>λy N m _ h=>Uo
 |R+1=>λy N m e hl hM b=>Nv hB hpl e (λz i m' j k d a=>Ft' R z i m' j Uo d a) hM b
end
end Go.Q
namespace Go.Wx
section
variable{P:Program}{τ:Tau}{n:Nat}{A:AS}{K:Exit ->AS ->Prop}{c:Code}
def AC.nzc:AC ->AC
 | .p x=>.p x.nz
 |c=>c
theorem Gl(j:Nat){T:Nat}{i:Nat}{cs:List AC}(h:VCode P n c (A.upd [] [(j,.st i T (cs.map AC.nzc))]) K)(k:look A.m j=some (.st i T cs):=by rfl):VCode P n c A K:=by
 refine h.of λU X V s w ⟨C,ρ,l⟩=>?_;obtain⟨b,v,D,E,W,F,H⟩:=l.ent j _ k;exact⟨C,_,l.modSt (wr:=[]) (cs':=cs.map AC.nzc) (us':=v) k D ((Kp.refl [] w).weak Ud) E (by simpa using F) (λq c u d I=>by
  rw[JX]at d;cases e:cs[q]? with
  |none=>rw[e]at d;cases d
  |some o=>
   rw[e]at d;obtain rfl:=JB d;obtain⟨L,r⟩:=H q o u e I;refine⟨L,λM=>?_⟩;cases o with
   |p x=>exact RV.nz (r λz O=>by cases O)
   |_=>exact r M) (s':=s) (λt a S=>by cases S) (λ_ _=>rfl)⟩
end
end Go.Wx
namespace Go.Q
theorem Gm{rc rc':RcF}(h:∀y m,Wf y ->rc y m=rc' y m):∀(n:Nat) (t:Tr) (m:List Int),Wf t ->iq rc n t m=iq rc' n t m
 |0,t,m,ht=>h t m ht
 |n+1,t,m,ht=>by
  simp only[iq]
  by_cases a:t.n.op=5
  ·obtain⟨_,w0,b,d,e⟩:=gm ht (.inr a)
   rw[h _ _ w0,Gm h n _ _ b]
  ·rw[KH a]
   rfl
def jF(i:Nat):List Int:=(List.range i).map λk:Nat=>100+(k:Int)
theorem Nw(n:Nat):gZ n n=jF n:=by
 unfold gZ jF;refine List.map_congr_left λi a=>?_;rw[KX (List.mem_range.1 a)]
theorem Nx{pl:List Int}{n:Nat}(h:pl.length=n):Mk pl (jF n):=λv a=>by
 obtain⟨k,b,rfl⟩:=List.mem_map.1 a;exact .inr (.inr (.inr ⟨k,by have:=List.mem_range.1 b;omega,rfl⟩))
theorem AE(i:Nat):rM (jF (i+1))=(i:Int)::rM (jF i):=by
 unfold jF;rw[List.range_succ,KB];show rM (_++[100+(i:Int)])=_;rw[Nl];unfold iR;rw[KY Uo,KY Uo,KY Uo];rw[show 100+(i:Int)-100=i by omega]
theorem Gn(B:ak)(x:Tr):∀(n i:Nat),decide (lP B x n i=0)=(List.range n).all λk=>pd B x (i+k)
 |0,i=>rfl
 |n+1,i=>by
  rw[List.range_succ_eq_map,List.all_cons,List.all_map,Nat.add_zero];cases a:pd B x i with
  |false=>
   have e:lP B x (n+1) i=18:=KY (by rw[a];decide);rw[e]
   rfl
  |true=>
   have e:lP B x (n+1) i=lP B x n (i+1):=KX a;rw[e,Gn B x n (i+1),Bool.true_and];exact wn λk _=>by simp[Function.comp,Nat.add_comm,Nat.add_left_comm,Nat.add_assoc]
def td(B:ak)(x:Tr)(i:Nat):Bool:=dB' ((placesM x).getD i 0).toNat (kidD x (2*i)) && iq (dQ B (placesM x)) (((placesM x).getD i 0).toNat+1) (kidD x (2*i+1)) (jF x.n.b.toNat)
theorem Ny(B:ak){x:Tr}{i:Nat}(h:Wf (kidD x (2*i+1))):pd B x i=td B x i:=by
 unfold pd td;rw[Nw,Gm (λy m a=>Az B (placesM x) 4096 (row y).length y m a a.len (KJ _)) _ _ _ h]
 rfl
def ng(B:ak)(x:Tr)(i:Nat):Bool:=((List.range x.n.b.toNat).drop i).all (td B x)
theorem Nz(B:ak){x:Tr}{i:Nat}(h:i<x.n.b.toNat):ng B x i=(td B x i && ng B x (i+1)):=by
 unfold ng;exact Gk (List.getElem?_range h)
theorem NA(B:ak){x:Tr}(b:Wf x)(a:x.n.op=12):decide (gg B x=0)=ng B x 0:=by
 unfold gg ng;rw[Gn,List.drop_zero];refine wn λk d=>?_;have d:=List.mem_range.1 d;have hf:=gu b.ok a;rw[KW,Ny B (cA b).2.1]
section
variable{B:ak}(hB:GoodB B)
include hB
theorem NB{x:Tr}{N:Int}(H:Ft (QB B) N x)(b:x.n.op=12):VC prog 94 [bk B,bB x] (.bool (decide (gg B x=0))):=by
 have s:=aC H;have Y:=H.len;rw[NA B s b]
 generalize I:ng B x 0=R0
 have hf:=gu s.ok b;have L:=gO s.ok;have M:funsT x=x.ks.map (·.n):=by unfold funsT;rw[KX b]
 have a0:(x.ks.length:Int)=x.n.b:=(dZ s.ok b).1;have a3:(placesM x).length=x.ks.length:=by simp[placesM]
 have hpl:∀p∈placesM x,0<=p/\p<=15:=λp v=>by
  obtain⟨k,F⟩:=JH v;have L:=aL F;obtain⟨f,O,_,_,_,_,_,a1,a2,_⟩:=vG s.ok b (i:=k) Uo;unfold placesM at F;rw[JX,O]at F;obtain rfl:=JB F;exact⟨a1,a2⟩
 refine cN 102 [.tmp 4] τok func94 ?_;refine aj<|dK 5 1000 3 1 rfl rfl<|dK 6 1001 3 1 rfl rfl<|aB τok (σ:=Nat) [(2,_),(3,_)] [(2,_),(3,_)] (λi=>[(5,.c (.row 1000)),(6,.c (.row 1001)),(7,vI i)]) (λi=>[(1000,.rw 3 1 (((placesM x).take i).map iP)),(1001,.rw 3 1 ((rM (jF i)).map iP))]) (λi=>i<=x.ks.length) (λi=>x.ks.length-i) 0 (KV _) ?_;rintro i Z;have e1:=aq iP ((placesM x).take i);have e2:=aq iP (rM (jF i));have e3:(rM (jF i)).length=i:=by rw[wd];simp[jF]
 have e4:((placesM x).take i).length=i:=by rw[VJ];omega
 refine aj<|ae (λg=>?_) (λg=>?_)
 ·obtain⟨f,D,_⟩:=az (l:=x.ks) (k:=i)
  refine vm i (x:=f.n) (by rw[M,JX,D];rfl) ?_;refine bg ?_;refine va (p:=iP) ?_ (Ga _);refine vi ?_;exact au (i+1) (by show i+1<=_;omega) (λk=>sw 1000 28 (sw 1001 32 k)) (y':=⟨KG (λl=>some (SE.rw _ _ l)) (by
   rw[QQ,KB];unfold placesM;rw[JX,D]
   rfl),KG (λl=>some (SE.rw _ _ l)) (by rw[AE];rfl),trivial⟩)
 obtain rfl:i=x.ks.length:=Uo
 have et:(placesM x).take x.ks.length=placesM x:=JG Uo;rw[et]at e1 e4 ⊢;have hn:x.n.b.toNat=x.ks.length:=Uo
 have d:=Ft' (B:=B) (pl:=placesM x) hB hpl;refine nT 5 1000 ?_;refine nT 6 1001 ?_;refine aB τok (σ:=Nat) [(2,_),(3,_),(5,_),(6,_)] [(2,_),(3,_)] (λi=>[(8,vI i)]) (λ_=>[]) (λi=>i<=x.ks.length/\R0=ng B x i) (λi=>x.ks.length-i) 0 ⟨KV _,I.symm⟩ ?_
 clear g Z
 rintro i ⟨Z,o⟩;refine aj<|ae (λg=>?_) (λg=>?_)
 ·rw[Nz B Uo]at o
  obtain⟨p,v,_⟩:=az (l:=placesM x) (k:=i);have a4:=hpl p (JQ v);obtain⟨q,rfl⟩:∃q:Nat,p=(q:Int):=⟨p.toNat,Uo⟩
  have S:((placesM x).getD i 0).toNat=q:=by rw[QK,v];rfl
  unfold td at o;rw[S,hn]at o;obtain⟨h0,w0,l0⟩:=cA s (k:=2*i);obtain⟨h1,w1,l1⟩:=cA s (k:=2*i+1);have f1:=(H.kidD (k:=2*i+1) Uo).2;refine vi ?_;refine vt (2*i) h0 ?_;refine vm (p:=iP) i v ?_;refine bN (Np w0 q Uo) (λU=>?_) (λU=>?_)
  ·rw[U,Bool.true_and]at o
   generalize V:iq (dQ B (placesM x)) (q+1) (kidD x (2*i+1)) (jF x.ks.length)=BD at o
   refine vk ?_;refine vi ?_;refine vi ?_;refine vt (2*i+1) h1 ?_;refine aB τok (σ:=Nat×Tr×List Int×Int) [(2,_),(3,_),(5,_),(6,_),(8,_),(9,_)] [(2,_),(3,_)] (λz=>[(10,vP (m9 z.2.2.1)),(11,vI z.1)]) (λz=>[(9,.st 0 60 ((ec z.2.1).map .p))]) (λz=>z.1<=q+1/\Ft (QB B) z.2.2.2 z.2.1/\Mk (placesM x) z.2.2.1/\z.2.2.1.length+4*(row z.2.1).length<=100000/\iq (dQ B (placesM x)) (q+1-z.1) z.2.1 z.2.2.1=BD) (λz=>(row z.2.1).length) (0,kidD x (2*i+1),jF x.ks.length,N+kb x.n (2*i+1)) ⟨KV _,f1,Nx Uo,by rw[wd]at e3;simp only;omega,V⟩ ?_;rintro⟨j,u,C,NN⟩ ⟨r1,r2,E,r4,a⟩;simp only at r1 r2 E r4 a;have wu:=aC r2;refine aj<|vm (p:=iP) i v ?_;refine ae (λW=>?_) (λW=>?_)
   ·simp only at W
    obtain⟨c,hc⟩:∃c,q+1-j=c+1:=⟨q-j,Uo⟩
    rw[hc]at a;simp only[iq]at a;refine ae (λr=>?_) (λr=>?_)
    ·refine vk ?_
     have r:¬ u.n.op=5:=r;exact aF (h3:=by rw[o,<- a,KH r];rfl)
    have r:u.n.op=5:=Classical.not_not.1 r;rw[KU r,Bool.true_and]at a;obtain⟨e,v0,v1,l0,l1⟩:=gm wu (.inr r);have y0:=(r2.kidD (k:=0) (by rw[e];simp)).2;have y1:=(r2.kidD (k:=1) (by rw[e];simp)).2;refine vt 0 (by rw[e];rfl) ?_;refine bN (d _ _ _ C y0 (Nat.lt_succ_self _) E Uo) (λw=>?_) (λw=>?_)
    ·rw[w,Bool.true_and]at a
     refine vk ?_;refine vm (p:=iP) i v ?_;refine ae (λX=>?_) (λX=>?_)
     ·simp only at X
      rw[KX Uo]at a;refine af (wj C Uo 1 Uo 1) ?_;refine vt 1 (by rw[e];rfl) ?_;refine vi ?_;exact au (j+1,kidD u 1,C++[1],_) ⟨Us,y1,E.snoc Uo,Uk,by rw[<- a,show q+1-(j+1)=c by omega]⟩
     ·simp only at X
      rw[KY Uo]at a;refine af (wj C Uo 1 Uo 0) ?_;refine vt 1 (by rw[e];rfl) ?_;refine vi ?_;exact au (j+1,kidD u 1,C++[0],_) ⟨Us,y1,E.snoc Uo,Uk,by rw[<- a,show q+1-(j+1)=c by omega]⟩
    ·refine vk ?_
     exact aF (h3:=by rw[o,<- a,w];rfl)
   ·simp only at W
    rw[show q+1-j=0 by omega]at a;simp only[iq]at a;refine bN (d _ _ _ C r2 (Nat.lt_succ_self _) E r4) (λw=>?_) (λw=>?_)
    ·refine vi ?_
     exact au (i+1) ⟨Uo,by rw[o,<- a,w,Bool.true_and]⟩
    ·exact aF (h3:=by rw[o,<- a,w];rfl)
  ·refine vk ?_
   exact aF (h3:=by rw[o,U];rfl)
 ·have e0:ng B x i=true:=by
   unfold ng;rw[JY Uk]
   rfl
  exact aF (h3:=by rw[o,e0];rfl)
end
section
variable{B:ak}{N:Int}
theorem AF(n:Nat):List.replicate n [PV.int .i64 0]=(gZ n 0).map iP:=by
 apply List.ext_getElem
 ·simp[gZ]
 ·intro i a b
  simp[gZ,iP]
theorem NC(hB:GoodB B){x:Tr}(s:Ft (QB B) N x)(o:x.n.op=12):VC prog 180 [bk B,ah (row x)] (pI (gg B x)):=by
 generalize d:gg B x=e;unfold gg at d;have wx:=aC s;have hl:=dZ s.ok o;have a0:=s.len;obtain⟨b,z⟩:∃b:Nat,x.n.b=(b:Int):=⟨x.n.b.toNat,Uo⟩
 have v:x.n.b.toNat=b:=Uo
 rw[v]at d;have C:(placesM x).length=b:=by simp[placesM];omega
 have hpl:∀p∈placesM x,0<=p/\p<=15:=λp w=>by
  obtain⟨k,D⟩:=JH w;have a5:=aL D;obtain⟨f,M,_,_,_,_,_,a1,a2,_⟩:=vG s.ok o (i:=k) Uo;unfold placesM at D;rw[JX,M]at D;obtain rfl:=JB D;exact⟨a1,a2⟩
 have a6:(lO x).length=b:=by simp[lO];omega
 have a7:(jf x).length=b:=by simp[jf];omega
 have E:∀j,(gZ b j).length=b:=λj=>by simp[gZ]
 refine cN 96 [.tmp 4] τok func180 ?_;refine aj<|aM 0 (aN wx) ?_;refine D0 b ?_ z z;refine kJ 6 5 1000 3 1 rfl rfl rfl UO<|dK 8 1002 39 1 rfl rfl<|dK 9 1003 39 1 rfl rfl<|aB τok (σ:=Nat) [(1,_),(6,_),(23,_)] [] (λi=>[(7,.c (.row 1001)),(8,.c (.row 1002)),(9,.c (.row 1003)),(10,vI ((1+(rows (x.ks.take i)).length:Nat):Int)),(24,vI i)]) (λi=>[(6,.st 0 248 [.p (.int .i64 B.vars),.p (.sl (B.orders.map orP)),.p (.sl (B.ents.map bI)),.p (.int .i64 B.nat),.p (.sl (B.prims.map prP)),.row 1000]),(1000,.rw 3 1 (((placesM x).take i).map iP)),(1001,.rw 250 1 ((gZ b i).map iP)),(1002,.rw 39 1 ((((jf x).take i).map row).map rP)),(1003,.rw 39 1 ((((lO x).take i).map row).map rP))]) (λi=>i<=b) (λi=>b-i) 0 (KV _) ?_ (f:=sw 1001 22) (x1:=⟨rfl,rfl,rfl,KG (λn:Int=>some (vI n)) (by simp[rows]),rfl,trivial⟩) (y1:=⟨rfl,rfl,KG (λl=>some (SE.rw _ _ l)) (AF b),rfl,rfl,trivial⟩);rintro i hi;have O:∀k,k<=b ->((placesM x).take k).length=k:=λk D=>by rw[VJ];omega
 dsimp only
 refine aj<|ae (λF=>?_) (λF=>?_)
 ·have F:(i:Int)<x.n.b:=F
  obtain⟨f,hf,S,U,a8,V,a9,a3,a4,r1,r2,r3,r4⟩:=vG s.ok o (i:=i) Uo;have W:=KG List.length r1;simp only[JK,JV,JU]at W;have X:(x.n::(rows (x.ks.take i)++[f.n])).length=1+(rows (x.ks.take i)).length+1:=Uk
  have e2:(x.n::(rows (x.ks.take i)++(f.n::row (kidD x (2*i))))).length=1+(rows (x.ks.take i)).length+1+(row (kidD x (2*i))).length:=Uk
  have a':=E i;obtain⟨u,hu,_⟩:=az (l:=gZ b i) (k:=i);have tp:(placesM x).take (i+1)=(placesM x).take i++[f.n.a]:=dP (by unfold placesM;rw[JX,hf];rfl);have tt:(lO x).take (i+1)=(lO x).take i++[kidD x (2*i)]:=dP (by unfold lO;rw[JX,List.getElem?_range Uo];rfl);have tb:(jf x).take (i+1)=(jf x).take i++[kidD x (2*i+1)]:=dP (by unfold jf;rw[JX,List.getElem?_range Uo];rfl);have l1:=O i hi;refine aM (1+(rows (x.ks.take i)).length) V ?_;refine bg ?_ (hb:=Uk);refine vk ?_;refine vi ?_;refine vm (p:=iP) i hu ?_;refine ef hu<|vi ?_;refine af (endP s (y:=kidD x (2*i)) r1 S (by rw[X];omega)) ?_;refine vi ?_;refine bO (1+(rows (x.ks.take i)).length+1) ((x.n::(rows (x.ks.take i)++[f.n])).length+(row (kidD x (2*i))).length) ?_ (cT _) (h1:=Uo) (h2:=rfl) (h3:=Uo) (h4:=by rw[KF];omega);rw[dL r1 X.symm rfl];refine bg ?_ (hb:=Uk);refine af (endP s (y:=kidD x (2*i+1)) r2 U (by rw[X,e2])) ?_;refine bO ((x.n::(rows (x.ks.take i)++[f.n])).length+(row (kidD x (2*i))).length) ((x.n::(rows (x.ks.take i)++(f.n::row (kidD x (2*i))))).length+(row (kidD x (2*i+1))).length) ?_ (cT _) (h1:=rfl) (h2:=rfl) (h3:=Uo) (h4:=by rw[KF];omega);rw[dL r2 Uo rfl];refine bg ?_ (hb:=Uk);refine vi ?_;exact au (i+1) (by show i+1<=b;omega) (λk=>sw 1000 35 (sw 1003 53 (sw 1002 63 k))) (x:=⟨rfl,rfl,rfl,KG (λn:Int=>some (vI n)) (by rw[r3];omega),rfl,trivial⟩) (y':=⟨rfl,KG (λl=>some (SE.rw _ _ l)) (by rw[tp,kW];rfl),KG (λl=>some (SE.rw _ _ l)) (by rw[<- Me Uo,List.map_set];rfl),KG (λl=>some (SE.rw _ _ l)) (by rw[tb,kW,kW];rfl),KG (λl=>some (SE.rw _ _ l)) (by rw[tt,kW,kW];rfl),trivial⟩)
 have F:¬ (i:Int)<x.n.b:=F;obtain rfl:i=b:=Uo
 rw[show (placesM x).take i=placesM x from JG Uo,show (lO x).take i=lO x from JG Uo,show (jf x).take i=jf x from JG Uo];have eB:=aq rP ((jf x).map row);have b0:=aq row (jf x);refine nT 65 1002 ?_;refine nT 9 1003 ?_;refine nT 7 1001 ?_;refine mN 6 5 1000 ?_;refine aB τok (σ:=Nat) [(6,_),(7,_),(9,_),(65,_),(66,_)] [(6,_)] (λj=>[(67,vI j)]) (λ_=>[]) (λj=>j<=i/\lP B x (i-j) j=e) (λj=>i-j) 0 ⟨KV _,d⟩ ?_
 clear d
 rintro j ⟨hj,a⟩;refine aj<|ae (λH=>?_) (λH=>?_)
 ·have H:(j:Int)<((((jf x).map row).map rP).length:Int):=H
  obtain⟨_,_,f0,f1⟩:=iL s o (i:=j) Uo;obtain⟨p,w,_⟩:=az (l:=placesM x) (k:=j);obtain⟨p0,b1⟩:=hpl p (JQ w);obtain⟨q,rfl⟩:∃q:Nat,p=(q:Int):=⟨p.toNat,Uo⟩
  have Y:((jf x).map row)[j]?=some (row (kidD x (2*j+1))):=by rw[JX];unfold jf;rw[JX,List.getElem?_range Uo];rfl
  have Z:((lO x).map row)[j]?=some (row (kidD x (2*j))):=by rw[JX];unfold lO;rw[JX,List.getElem?_range Uo];rfl
  have ok:pd B x j=(dB' q (kidD x (2*j)) && iq (fj B (placesM x) 4096) (q+1) (kidD x (2*j+1)) (gZ i i)):=by
   unfold pd;rw[QK,w,v]
   rfl
  obtain⟨r,hr⟩:∃r,i-j=r+1:=⟨i-j-1,Uo⟩
  rw[hr]at a;simp only[lP]at a;rw[ok]at a;have I:=MP f0 q Uo;have L:=MO (MS hB hpl Uo 4096) f1 Uo (Mf C) (by have:=E i;have:=f1.len;omega) f1.len q Uo;refine aA j Y ?_;refine aA j Z ?_;refine vm (p:=iP) j w ?_;cases hc:dB' q (kidD x (2*j))with
  |false=>
   rw[hc]at I a;have a:18=e:=a;subst a;refine af I ?_;exact kA9
  |true=>
  rw[hc]at I;rw[hc,Bool.true_and]at a;refine af I ?_;refine vm (p:=iP) j w ?_;cases hd:iq (fj B (placesM x) 4096) (q+1) (kidD x (2*j+1)) (gZ i i)with
  |false=>
   rw[hd]at L a;have a:18=e:=a;subst a;refine af L ?_;exact kA9
  |true=>
  rw[hd]at L a;have a:lP B x r (j+1)=e:=a;refine af L ?_;refine vk ?_;refine vi ?_;exact au (j+1) ⟨Uo,by rw[show i-(j+1)=r by omega];exact a⟩
 ·have H:¬ (j:Int)<((((jf x).map row).map rP).length:Int):=H
  rw[show i-j=0 by omega]at a;have a:0=e:=a;subst a;exact aF
end
theorem Fw':VD prog 218 .returning [0,1,2] [] []:=by
 refine zv ⟨_,func218,rfl,UO⟩ λo i w=>?_;obtain⟨q,r,u,rfl⟩:=DF i;refine callsD_of_wpS func218 rfl λa v b=>?_;apply wpS_seq;apply wpS_region;simp[wpOpsS,go_sem,recoverD,b,Exit.thenS,Instr.typeAssert,underlying177,Tryz.zeroValue177];refine wpS_of_wp (Go.wp_mono (nw τok (n:=13) _ ⟨[(4,.bool false)],[]⟩ _ (λe s d=>e= .normal/\s.d=[]/\Kp [] w d) ?_ _ (oO Ud rfl Ud)) ?_)
 ·exact⟨rfl,rfl,Kp.alloc _ _⟩
 rintro e z d ⟨s,j,rfl,k,l⟩;exact ue j k rfl b ⟨⟨_,rfl⟩,rfl,l⟩
def AG(x y z:PV):List (Nat×SE):=[(0,.st 1 39 [.p x]),(1,.st 2 3 [.p y]),(2,.st 3 29 [.p z])]
theorem ND(er:Int){x y z:PV}:VD prog 218 (.panicking (fd er)) [0,1,2] (AG x y z) (AG (.raw (.slice none 0 0)) (pI 0) (pI er)):=by
 refine⟨⟨_,func218,rfl,UO⟩,λw X C ρ d=>?_⟩;refine callsD_of_wpS func218 rfl λb u i=>?_;apply wpS_seq;apply wpS_region;simp[wpOpsS,go_sem,recoverD,i,Exit.thenS,Instr.typeAssert,underlying177,Tryz.zeroValue177];refine wpS_of_wp (Go.wp_mono (zw (n:=13) (m2:=AG (.raw (.slice none 0 0)) (pI 0) (pI er)) (q:=3) (p:=4) (k:=3) d (aj ?_) (oO Ud rfl (by simp[ini]))) ?_)
 ·refine vk ?_
  exact⟨rfl,rfl,rfl,rfl,trivial⟩
 rintro e v D ⟨rfl,s,j,l,o,a,r⟩;exact xB j l rfl ⟨⟨_,rfl⟩,rfl,o,a,r⟩
section
variable{B:ak}{cx:Ctx}(hB:GoodB B)(hcx:CxOk B cx)(hcl:cx.length<=90000)
include hB hcx hcl
theorem NE{x:Tr}(a:Ft (QB B) (cx.length:Int) x){n:Nat}(hn:n<=100000):VG prog 198 [.c (.ptr 0 0),.c (.ptr 1 0)] [(0,.st 1 265 ((iK B cx n).map .p)),(1,.st 2 39 [.p (ah (row x))])] (match cz B cx GW x 4096 n with
  | .ok q=>.ok (.c (.p (ah (row q.1))),[(0,.st 1 265 ((iK B cx q.2).map .p)),(1,.st 2 39 [.p (ah (row x))])])
  | .error e=>.error (fd e)):=by
 have d:=a.len;have b:=LW hB hcx hcl GW x 4096 n a (by unfold len;omega) (Int.le_refl _) Uo (by unfold GW;omega);refine cQ 9 [.tmp 3] τok func198 ?_;refine aj<|af (qm a) ?_;cases hr:cz B cx GW x 4096 n with
 |error e=>
  rw[hr]at b;refine cH b ?_;exact rfl
 |ok q=>
  rw[hr]at b;refine ay b ?_;refine af (E3 (pP hB hcx hcl GW x 4096 n q.1 q.2 a (by unfold len;omega) (Int.le_refl _) hr).1) ?_;exact dA
theorem AH{x:Tr}(b:Ft (QB B) (cx.length:Int) x)(fuel:Int):VG prog 197 [.c (.p (bk B)),.c (.p (aO (cx.map aE))),.c (.p (ah (row x))),.c (.p (pI fuel)),.c (.fn 198 [100])] [(100,.st 1 39 [.p (ah (row x))])] (.ok (match eg B cx x fuel with
  | .ok q=>(.c (.p (.tup [ah (row q.1),pI q.2,pI 0])),[(100,.st 1 39 [.p (ah (row x))])])
  | .error e=>(.c (.p (.tup [.sl [],pI 0,pI e])),[]))):=by
 have hn:min (max fuel 0) 100000=((bK fuel:Nat):Int):=by unfold bK;omega
 have a:=NE hB hcx hcl b (n:=bK fuel) (by unfold bK;omega);unfold eg
 generalize cz B cx GW x 4096 (bK fuel)=r at a ⊢
 rcases r with e|q
 all_goals
  refine sB 30 [.cell 10 39,.cell 11 3,.cell 12 29] τok func197 ?_;refine aj<|⟨⟨rfl,rfl,rfl⟩,rfl,λd=>?_⟩;refine aj ?_
  first
   |refine mG (λk=>sw 0 21 (sw 1 100 k)) a ?_ (he:=by rw[hn];repeat first|exact VQ|refine And.intro rfl ?_)
    refine kM (λk=>k+10) (λ_=>0) (ND e) ?_;exact .inl ⟨_,_,_,id,rfl,rfl,rfl,rfl,trivial,rfl⟩
   |refine aZ (λk=>sw 0 21 (sw 1 100 k)) (λk=>k-99) a ?_ (he:=by rw[hn];repeat first|exact VQ|refine And.intro rfl ?_)
    refine vk ?_;refine kM (λk=>k+10) (λ_=>0) Fw' ?_;exact dA
theorem NF{x:Tr}(b:Ft (QB B) (cx.length:Int) x)(n:Int):VC prog 169 [bk B,aO (cx.map aE),ah (row x),pI n] (match eg B cx x n with
  | .ok q=>.tup [ah (row q.1),pI q.2,pI 0]
  | .error e=>.tup [.sl [],pI 0,pI e]):=by
 have a:=AH hB hcx hcl b n
 generalize eg B cx x n=r at a ⊢
 rcases r with e|q
 all_goals
  refine vf 20 [.tmp 8,.tmp 9,.tmp 10] τok func169 ?_;refine aZ (λk=>sw 100 6 k) (λ_=>0) a ?_;exact aF
end
end Go.Q
namespace Go.Wx
structure M2(P:Program)(K T:TypeId):Prop where
 eq:∀(a b c d:Int) (w:World),(Op.equal K (.agg #[iV a,iV b]) (.agg #[iV c,iV d])).run P w= .ok (decide (a=c/\b=d)) w
 ck:∀(e:Bool) (a b:Int) (w:World),(Instr.checkKey e 10000 K (.agg #[iV a,iV b])).run P w= .ok () w
 k:∃fs,P.underlying K=some (.struct fs)
 t:P.underlying T=some (.map K 3)
 z:∀w,(zeroValue 3).run P w= .ok (iV 0) w
def fO(x y:Int):Value:=.agg #[iV x,iV y]
def ma(es:List MapEntry)(l:List (Int×Int×Int)):Prop:=es.map (λe=>(e.key,e.val))=l.map λt=>(fO t.1 t.2.1,iV t.2.2)
def ew(x y:Int):List (Int×Int×Int) ->Nat ->Option (Nat×Int)
 |[],_=>none
 |t::r,i=>if x=t.1/\y=t.2.1 then some (i,t.2.2)else ew x y r (i+1)
def QG(g:Lv.G)(o:Obj):Prop:=∃es clock l,o= .map es clock/\ma es.toList l/\∀x y,g x y=(ew x y l 0).map (·.2)
theorem AI(x y:Int):∀(l:List (Int×Int×Int)) (i:Nat) (p:Nat×Int),ew x y l i=some p ->i<=p.1/\∃t,l[p.1-i]?=some t/\t.1=x/\t.2.1=y/\t.2.2=p.2
 |t::r,i,p,h=>by
  simp only[ew]at h;split at h
  ·rename_i hc
   obtain rfl:=JB h;exact⟨KJ _,t,Ud,hc.1.symm,hc.2.symm,rfl⟩
  ·obtain⟨e,a,b,d⟩:=AI x y r (i+1) p h
   refine⟨Uo,a,?_,d⟩;rw[show p.1-i=(p.1-(i+1))+1 by omega]
   simpa using b
theorem Gp(x y v:Int):∀(l:List (Int×Int×Int)) (i:Nat) (p:Nat×Int),ew x y l i=some p ->∀a c,(ew a c (l.set (p.1-i) (x,y,v)) i).map (·.2)=if a=x/\c=y then some v else (ew a c l i).map (·.2)
 |t::r,i,p,h,a,c=>by
  simp only[ew]at h;split at h
  ·rename_i hc
   obtain rfl:=JB h;rw[Nat.sub_self,List.set_cons_zero];simp only[ew]
   by_cases e:a=x/\c=y
   ·rw[KX e,KX e];rfl
   ·rw[KY e,KY e,KY (by rw[<- hc.1,<- hc.2];exact e)]
  ·rename_i hc
   obtain⟨b,_⟩:=AI x y r (i+1) p h;rw[show p.1-i=(p.1-(i+1))+1 by omega,List.set_cons_succ];simp only[ew]
   by_cases e:a=t.1/\c=t.2.1
   ·rw[KX e,KX e,KY (by rintro⟨rfl,rfl⟩;exact hc e)]
   ·rw[KY e,KY e]
    exact Gp x y v r (i+1) p h a c
theorem Gq(x y v:Int):∀(l:List (Int×Int×Int)) (i:Nat),ew x y l i=none ->∀a c,(ew a c (l++[(x,y,v)]) i).map (·.2)=if a=x/\c=y then some v else (ew a c l i).map (·.2)
 |[],i,_,a,c=>by
  simp only[List.nil_append,ew];split<;>rfl
 |t::r,i,h,a,c=>by
  simp only[ew]at h;split at h
  ·cases h
  ·rename_i hc
   simp only[List.cons_append,ew]
   by_cases e:a=t.1/\c=t.2.1
   ·rw[KX e,KX e,KY (by rintro⟨rfl,rfl⟩;exact hc e)]
   ·rw[KY e,KY e]
    exact Gq x y v r (i+1) h a c
section
variable{P:Program}{K T:TypeId}(hM:M2 P K T)
include hM
theorem Gs(x y:Int)(w:World):∀(es:List MapEntry) (l:List (Int×Int×Int)) (i:Nat),ma es l ->
  (Instr.findAsking K (fO x y) es i).run P w= .ok ((ew x y l i).map λp=>(p.1,iV p.2)) w
 |[],[],i,_=>by simp[Instr.findAsking,ew]
 |e::es,t::l,i,h=>by
  simp only[ma,List.map_cons,List.cons.injEq,Prod.mk.injEq]at h;obtain⟨⟨h1,h2⟩,h3⟩:=h;have a:=Gs x y w es l (i+1) h3;simp only[Instr.findAsking,Sem.run_bind,h1,fO,hM.eq,Result.andThen_ok,ew];simp only[fO]at a
  by_cases b:x=t.1/\y=t.2.1
  ·simp[b,h2]
  ·simp[b,a]
 |[],_::_,_,h=>by simp[ma]at h
 |_::_,[],_,h=>by simp[ma]at h
theorem Gt(x y:Int)(w:World)(es:List MapEntry)(l:List (Int×Int×Int))(h:ma es l):
  (Instr.findKey K (fO x y) es).run P w= .ok ((ew x y l 0).map λp=>(p.1,iV p.2)) w:=by
 obtain⟨b,a⟩:=hM.k;simp only[Instr.findKey,Sem.run_bind,run_underlying a,Result.andThen_ok]
 match es,l,h with
 |[],[],_=>simp[Instr.findNow,ew]
 |e::es,t::l,h=>
  simp only[Instr.findNow,Instr.sameNow,fO];exact Gs hM x y w _ _ 0 h
 |[],_::_,h=>simp[ma]at h
 |_::_,[],h=>simp[ma]at h
theorem Gu{w:World}{b:Nat}{g:Lv.G}{o:Obj}(r:w.heap[b]?=some o)(s:QG g o)(x y:Int)(ok:Bool):
  (Instr.lookup T (.map (some b)) (fO x y) ok).run P w= .ok (if ok then .tuple #[iV ((g x y).getD 0),.bool (g x y).isSome]else iV ((g x y).getD 0)) w:=by
 obtain⟨k,d,l,rfl,u,v⟩:=s;have i:(getObj b).run P w= .ok (.map k d) w:=by simp[getObj,Sem.run,r]
 have a:=Gt hM x y w k.toList l u;have j:∀e w,(Instr.checkKey e 10000 K (fO x y)).run P w= .ok () w:=λ_ _=>hM.ck _ _ _ _;simp only[Instr.lookup,Sem.run_bind,run_underlying hM.t,Result.andThen_ok,i,j,v];cases q:ew x y l 0 with
 |none=>rw[q]at a;simp[a,hM.z]
 |some p=>rw[q]at a;simp[a]
theorem AJ{w:World}{b:Nat}{g:Lv.G}{o:Obj}(F:w.heap[b]?=some o)(O:QG g o)(x y v:Int):
  ∃H,QG (Lv.putG g x y v) H/\(Instr.mapUpdate T (.map (some b)) (fO x y) (iV v)).run P w= .ok () {w with heap:=w.heap.setIfInBounds b H}:=by
 obtain⟨k,d,l,rfl,u,I⟩:=O;have q:(getObj b).run P w= .ok (.map k d) w:=by simp[getObj,Sem.run,F]
 have j:=Gt hM x y w k.toList l u;have r:∀o,(setObj b o).run P w= .ok () {w with heap:=w.heap.setIfInBounds b o}:=λo=>by simp[setObj,Sem.run,F]
 have z:∀e w,(Instr.checkKey e 10000 K (fO x y)).run P w= .ok () w:=λ_ _=>hM.ck _ _ _ _;have L:k.size=l.length:=by
  have:=KG List.length u
  simpa using this
 cases C:ew x y l 0 with
 |none=>
  rw[C]at j;refine⟨.map (k.push {key:=fO x y,val:=iV v,born:=d}) (d+1),⟨_,_,l++[(x,y,v)],rfl,?_,λa c=>?_⟩,by simp[Instr.mapUpdate,run_underlying hM.t,q,z,j,r]⟩
  ·simp only[ma,Array.toList_push,KB,u,List.map_cons,List.map_nil]
   rw[u]
  ·rw[Gq x y v l 0 C a c,<- I]
   rfl
 |some p=>
  rw[C]at j;obtain⟨_,t,ht,S,U,W⟩:=AI x y l 0 p C;rw[Nat.sub_zero]at ht;have V:p.1<l.length:=(List.getElem?_eq_some_iff.1 ht).1;have D:((k[p.1]?).map (·.key)).getD (fO x y)=fO x y:=by
   have:=KG (λl=>l[p.1]?) u;simp only[JX,ht,Option.map_some,Array.getElem?_toList]at this;cases s:k[p.1]? with
   |none=>simp
   |some e=>
    rw[s]at this;simp only[Option.map_some,QZ,Prod.mk.injEq]at this;simp[this.1,S,U]
  have E:(Instr.keyThatStays (fO x y) (fO x y)).run P w= .ok (fO x y) w:=by
   unfold Instr.keyThatStays;rw[show (10000:Nat)=9999+1 from rfl,show Instr.sameBits (9999+1) (fO x y) (fO x y)=true by simp[Instr.sameBits,fO]];simp
  refine⟨.map (k.modify p.1 λe=>{e with key:=fO x y,val:=iV v}) d,⟨_,_,l.set p.1 (x,y,v),rfl,?_,λa c=>?_⟩,?_⟩
  ·unfold ma
   apply List.ext_getElem?;intro i;have:=KG (λl=>l[i]?) u;simp only[JX,Array.getElem?_toList]at this ⊢;simp only[Array.getElem?_modify,List.getElem?_set]
   by_cases M:p.1=i
   ·subst M
    have s:p.1<k.size:=Uo
    simp[V,s]
   ·simp[M,this]
  ·have:=Gp x y v l 0 p C a c
   rw[Nat.sub_zero]at this;rw[this,<- I]
   rfl
  ·simp only[Instr.mapUpdate,Sem.run_bind,run_underlying hM.t,Result.andThen_ok,q,z]
   rw[j];simp only[Option.map_some,Result.andThen_ok,Sem.run_bind];rw[D,E];simp[r]
def wo(x y:Int):AV:=.agg [.p (pI x),.p (pI y)]
omit hM in
theorem AK{C:Mem}{ρ:Nat ->Value}{x y:Int}{v:Value}(h:RA C ρ (wo x y) v):v=fO x y:=by
 obtain⟨d,rfl,e,h⟩:=h
 match d,e with
 |[a,b],_=>
  have i:RV C (pI x) a:=h 0 _ a rfl rfl;have j:RV C (pI y) b:=h 1 _ b rfl rfl;cases i;cases j
  rfl
theorem wq{g:Lv.G}{x y:Int}{k:PV ->Prop}(e:k (.tup [pI ((g x y).getD 0),.bool (g x y).isSome])):yS P T (QG g) (wo x y) true k:=⟨_,λC ρ s b w o j l r=>by
 rw[AK j];refine⟨_,.tup _ [_,_] rfl λi p q a d=>?_,Gu hM l r x y true⟩
 match i,a,d with
 |0,a,d=>obtain rfl:=JB a;obtain rfl:=JB d;exact .int _ _
 |1,a,d=>obtain rfl:=JB a;obtain rfl:=JB d;exact .bool _,e⟩
theorem AL{g:Lv.G}{x y:Int}{k:PV ->Prop}(a:k (pI ((g x y).getD 0))):yS P T (QG g) (wo x y) false k:=⟨_,λC ρ j b w o d e i=>by
 rw[AK d];exact⟨_,.int _ _,Gu hM e i x y false⟩,a⟩
theorem qA{g:Lv.G}{x y v:Int}{k:(Obj ->Prop) ->Prop}(d:k (QG (Lv.putG g x y v))):Eh P T (QG g) (wo x y) (vI v) k:=⟨_,λC ρ q e b w o i a j l=>by
 rw[AK i];have a:RV C (pI v) e:=a;cases a;exact AJ hM j l x y v,d⟩
omit hM in
theorem qg0:QG (λ_ _=>none) (.map #[] 0):=⟨#[],0,[],rfl,rfl,λ_ _=>rfl⟩
end
end Go.Wx
namespace Go.Q
theorem Gv(e:Bool)(d:Nat)(n:Int)(w:World):(Instr.checkKey e (d+1) 3 (iV n)).run prog w= .ok () w:=by
 simp only[Instr.checkKey,Sem.run_bind,run_underlying underlying3,Result.andThen_ok]
 rfl
theorem m2e:M2 prog 192 164:=by
 refine⟨λa b c d w=>?_,λe a b w=>?_,⟨_,underlying192⟩,underlying164,λw=>UD⟩
 ·have hf:prog.underlying 192=some (.struct (prog.fieldsOf 192)):=by rw[Program.fieldsOf,underlying192]
  have h:=run_equalIn_struct (P:=prog) w 9999 192 #[iV a,iV b] #[iV c,iV d] hf UD;show (Op.equalIn 10000 192 _ _).run prog w=_;rw[h];simp[Program.fieldsOf,underlying192,Op.eqFields,part,go_sem,underlying3]
  by_cases i:a=c<;>by_cases j:b=d<;>simp[i,j,go_sem]
 ·show (Instr.checkKey e (9998+1+1) 192 _).run prog w=_
  rw[Instr.checkKey];simp only[Sem.run_bind,run_underlying underlying192,Result.andThen_ok];rw[<- Array.forIn_toList];simp[part,go_sem,Gv]
theorem m2p:M2 prog 76 171:=by
 refine⟨λa b c d w=>?_,λe a b w=>?_,⟨_,underlying76⟩,underlying171,λw=>UD⟩
 ·have hf:prog.underlying 76=some (.struct (prog.fieldsOf 76)):=by rw[Program.fieldsOf,underlying76]
  have h:=run_equalIn_struct (P:=prog) w 9999 76 #[iV a,iV b] #[iV c,iV d] hf UD;show (Op.equalIn 10000 76 _ _).run prog w=_;rw[h];simp[Program.fieldsOf,underlying76,Op.eqFields,part,go_sem,underlying3]
  by_cases i:a=c<;>by_cases j:b=d<;>simp[i,j,go_sem]
 ·show (Instr.checkKey e (9998+1+1) 76 _).run prog w=_
  rw[Instr.checkKey];simp only[Sem.run_bind,run_underlying underlying76,Result.andThen_ok];rw[<- Array.forIn_toList];simp[part,go_sem,Gv]
theorem Gw(g:G)(x y v:Int):VG prog 156 [.c (.row 0),.c (.p (.agg [pI x,pI y])),vI v] [(0,.ob 1 (QG g))] (.ok (.c (.p (.tup [])),[(0,.ob 1 (QG (dJ g x y v)))])):=by
 have i:∀b,g x y=some b ->¬ b<v ->g=dJ g x y v:=λb j l=>by
  funext a c
  by_cases e:a=x/\c=y
  ·obtain⟨rfl,rfl⟩:=e;simp[dJ,putG,j,cg,l]
  ·exact(rn _ _ _ _ _ _ e).symm
 refine cQ 24 [] τok func156 ?_;refine aj<|wq m2e ?_;cases d:g x y with
 |none=>
  have hr:dJ g x y v=putG g x y v:=by simp[dJ,d,cg]
  rw[hr];exact qA m2e<|dA
 |some b=>
  refine ae (λj=>?_) (λj=>?_)
  ·have k:b<v:=j
   have hr:dJ g x y v=putG g x y v:=by simp[dJ,d,cg,k]
   rw[hr];exact qA m2e<|dA
  ·rw[<- i b d j]
   exact dA
def te(r:Except Int G):Except (List PanicEntry) (AV×List (Nat×SE)):=match r with
 | .error n=>.ok (.c (.p (.tup [.raw (.map none),pI n])),[])
 | .ok g=>.ok (.tp [.row 0,.p (pI 0)],[(0,.ob 0 (QG g))])
theorem Gx(vars:Int)(os:List aV):VG prog 104 (vals [pI vars,.sl (os.map orP)]) [] (te (fc vars os)):=by
 have eO:=aq orP os;generalize I:te (fc vars os)=O;refine cQ 146 [.tmp 4,.tmp 5] τok func104 ?_;refine aj ?_;have w:∀n,fc vars os= .error n ->O=te (.error n):=λn h=>by rw[<- I,h]
 refine ae (λh1=>?_) (λh1=>?_)
 ·rw[w 1 (by unfold fc;rw[KX Uo])]
  exact .inl ⟨_,_,_,id,rfl,rfl,rfl,rfl,trivial,rfl⟩
 refine ae (λh2=>?_) (λh2=>?_)
 ·rw[w 1 (by unfold fc;rw[KX Uo])]
  exact .inl ⟨_,_,_,id,rfl,rfl,rfl,rfl,trivial,rfl⟩
 refine ae (λh3=>?_) (λh3=>?_)
 ·rw[w 5 (by unfold fc;rw[KY Uo,KX Uo])]
  exact .inl ⟨_,_,_,id,rfl,rfl,rfl,rfl,trivial,rfl⟩
 obtain⟨n,hn⟩:∃n:Nat,(n:Int)=vars+1:=⟨vars.toNat+1,Uo⟩
 have a3:n<=17:=Uo
 have hcl:fc vars os=match iX vars os (ly n)with
  |none=>.error 1
  |some g=>match jN n n 0 g with
   |none=>.error 7
   |some g'=>.ok g':=by
  have e:vars.toNat+1=n:=Uo
  unfold fc;rw[KY Uo,KY Uo,e]
  rfl
 refine rU (QG λ_ _=>none) ?_ qg0;refine vi ?_;refine aB τok (σ:=Nat) [(0,_),(1,_),(6,_),(29,_)] [] (λk=>[(30,vI k)]) (λk=>[(27,.ob 0 (QG (aT (λv g=>putG (putG g v v 0) 0 v 0) k (λ_ _=>none))))]) (λk=>k<=n) (λk=>n-k) 0 (KV _) ?_;rintro k W;refine aj<|ae (λh4=>?_) (λh4=>?_)
 ·refine qA m2e ?_
  refine qA m2e<|vi ?_;exact au (k+1) Uo
 obtain rfl:k=n:=Uo
 clear h4 W
 refine aB τok (σ:=Nat×G) [(0,_),(6,_),(41,_),(42,_)] [] (λx=>[(43,vI x.1)]) (λx=>[(27,.ob 0 (QG x.2))]) (λx=>x.1<=os.length/\iX vars os (ly k)=iX vars (os.drop x.1) x.2/\lz 1000 x.2) (λx=>os.length-x.1) (0,ly k) ⟨KV _,rfl,Ja k⟩ ?_;obtain⟨n,rfl⟩:∃n,n=k:=⟨k,rfl⟩
 rintro⟨k,g⟩ ⟨W,r,i⟩;simp only at W r i;refine aj<|ae (λL=>?_) (λL=>?_)
 ·obtain⟨x,hx,hd⟩:=az (l:=os) (k:=k)
  have j:iX vars os (ly n)=if da vars x then none else iX vars (os.drop (k+1)) (dJ g x.low x.high x.add):=by rw[r,hd];rfl
  have s:da vars x=true ->O=te (.error 1):=λh=>w 1 (by rw[hcl,j,h];rfl);refine vm (p:=orP) k hx ?_;refine ae (λc1=>?_) (λc1=>?_)
  ·rw[s (by unfold da;exact KU Uo)]
   exact .inl ⟨_,_,_,id,rfl,rfl,rfl,rfl,trivial,rfl⟩
  refine ae (λc2=>?_) (λc2=>?_)
  ·rw[s (by unfold da;exact KU Uo)]
   exact .inl ⟨_,_,_,id,rfl,rfl,rfl,rfl,trivial,rfl⟩
  refine ae (λc3=>?_) (λc3=>?_)
  ·rw[s (by unfold da;exact KU Uo)]
   exact .inl ⟨_,_,_,id,rfl,rfl,rfl,rfl,trivial,rfl⟩
  refine ae (λc4=>?_) (λc4=>?_)
  ·rw[s (by unfold da;exact KU Uo)]
   exact .inl ⟨_,_,_,id,rfl,rfl,rfl,rfl,trivial,rfl⟩
  refine ae (λc5=>?_) (λc5=>?_)
  ·rw[s (by unfold da;exact KU Uo)]
   exact .inl ⟨_,_,_,id,rfl,rfl,rfl,rfl,trivial,rfl⟩
  refine ae (λc6=>?_) (λc6=>?_)
  ·rw[s (by unfold da;exact KU Uo)]
   exact .inl ⟨_,_,_,id,rfl,rfl,rfl,rfl,trivial,rfl⟩
  have ok:da vars x=false:=by unfold da;exact KH Uo
  rw[ok]at j;refine aZ (λ_=>27) (λ_=>0) (Gw g x.low x.high x.add) ?_;refine vi ?_;exact au (k+1,dJ g x.low x.high x.add) ⟨by show k+1<=_;omega,j,I5 i Uo Uo⟩
 have z:iX vars os (ly n)=some g:=by rw[r,JY Uo];rfl
 rw[z]at hcl;simp only at hcl
 clear r z L W
 refine vi ?_;refine aB τok (σ:=Nat×G) [(0,_),(6,_),(88,_)] [] (λx=>[(89,vI x.1)]) (λx=>[(27,.ob 0 (QG x.2))]) (λx=>x.1<=n/\jN n n 0 g=jN n (n-x.1) x.1 x.2/\lz (pw x.1) x.2) (λx=>n-x.1) (0,g) ⟨KV _,rfl,i⟩ ?_
 clear i
 rintro⟨m,g1⟩ ⟨hm,S,i⟩;simp only at hm S i;refine aj<|ae (λL=>?_) (λL=>?_);rotate_left
 ·obtain rfl:m=n:=by have L:¬ (m:Int)<vars+1:=L;omega
  have:jN m m 0 g=some g1:=by rw[S,Nat.sub_self];rfl
  rw[show O=te (.ok g1) by rw[<- I,hcl,this]];exact .inr ⟨_,λ_=>27,rfl,rfl,⟨rfl,trivial⟩,rfl⟩
 have L:(m:Int)<vars+1:=L;have a4:m<n:=Uo
 obtain⟨X,a5⟩:=Hp' m Uo;have hJ:=Dr X i m;refine vi ?_;refine aB τok (σ:=Nat×G) [(0,_),(6,_),(88,_),(89,_),(10,_),(93,_)] [] (λx=>[(94,vI x.1)]) (λx=>[(27,.ob 0 (QG x.2))]) (λx=>x.1<=n/\x.2=aT (ky n m) x.1 g1) (λx=>n-x.1) (0,g1) ⟨KV _,rfl⟩ ?_;rintro⟨b,u⟩ ⟨Y,C⟩;simp only at Y C;refine aj<|ae (λZ=>?_) (λZ=>?_)
 ·have Z:(b:Int)<vars+1:=Z
  have a1:J (pw m) m b 0 u:=C▸Dt (n:=n) hJ b;refine vi ?_;refine aB τok (σ:=Nat×G) [(0,_),(6,_),(88,_),(89,_),(10,_),(93,_),(94,_),(11,_),(98,_)] [] (λx=>[(99,vI x.1)]) (λx=>[(27,.ob 0 (QG x.2))]) (λx=>x.1<=n/\x.2=aT (Lv.step m b) x.1 u) (λx=>n-x.1) (0,u) ⟨KV _,rfl⟩ ?_;rintro⟨a,o⟩ ⟨U,H⟩;simp only at U H;refine aj<|ae (λD=>?_) (λD=>?_)
  ·have D:(a:Int)<vars+1:=D
   have a2:J (pw m) m b a o:=H▸Ds a1 a;have E:Lv.step m b a o=aT (Lv.step m b) (a+1) u:=by rw[H];rfl
   refine wq (g:=o) (x:=(b:Int)) (y:=(m:Int)) m2e<|wq (g:=o) (x:=(m:Int)) (y:=(a:Int)) m2e ?_;have d:(o b m=none \/o m a=none) ->o=aT (Lv.step m b) (a+1) u:=λh=>by
    rw[<- E];rcases step_cases m b a o with ⟨p,q,hp,hq,_⟩|e
    ·rcases h with h|h
     ·rw[h]at hp;cases hp
     ·rw[h]at hq;cases hq
    ·exact e.symm
   cases ha:o b m with
   |none=>
    refine vi ?_;exact au (a+1,o) ⟨by show a+1<=_;omega,d (.inl ha)⟩
   |some p=>
    cases hb:o m a with
    |none=>
     refine vi ?_;exact au (a+1,o) ⟨by show a+1<=_;omega,d (.inr hb)⟩
    |some q=>
     have hs:=I8 a2 ha hb;refine vi ?_ (by simp only[Option.getD_some];omega) (by simp only[Option.getD_some];omega);refine aZ (λ_=>27) (λ_=>0) (Gw o b a (p+q)) ?_;refine vi ?_;exact au (a+1,dJ o b a (p+q)) ⟨by show a+1<=_;omega,by rw[<- E,De ha hb]⟩
  ·have D:¬ (a:Int)<vars+1:=D
   obtain rfl:a=n:=Uo
   refine vi ?_;exact au (b+1,o) ⟨by show b+1<=_;omega,by rw[H,C];rfl⟩
 have Z:¬ (b:Int)<vars+1:=Z;obtain rfl:b=n:=Uo
 have a0:lz (pw (m+1)) u:=C▸Jb X i;have F:jN b b 0 g=if jq b u then none else jN b (b-(m+1)) (m+1) u:=by
  rw[S,show b-m=(b-(m+1))+1 by omega,C];rfl
 refine vi ?_;refine aB τok (σ:=Nat) [(0,_),(6,_),(88,_),(89,_),(133,_)] [(27,_)] (λk=>[(134,vI k)]) (λ_=>[]) (λk=>k<=b/\∀v,v<k ->pL u v=false) (λk=>b-k) 0 ⟨KV _,λv hv=>Uo⟩ ?_;rintro k ⟨W,M⟩;refine aj<|ae (λD=>?_) (λD=>?_)
 ·have D:(k:Int)<vars+1:=D
  refine AL m2e<|ae (λh8=>?_) (λh8=>?_)
  ·have V:jq b u=true:=by
    unfold jq;rw[List.any_eq_true];exact⟨k,List.mem_range.2 Uo,by unfold pL;exact KU h8⟩
   rw[w 7 (by rw[hcl,F,V];rfl)];exact .inl ⟨_,_,_,id,rfl,rfl,rfl,rfl,trivial,rfl⟩
  ·refine vi ?_
   refine au (k+1) ⟨by show k+1<=_;omega,λv hv=>?_⟩
   by_cases e:v=k
   ·subst e;unfold pL;exact KH h8
   ·exact M v Uo
 ·have D:¬ (k:Int)<vars+1:=D
  obtain rfl:k=b:=Uo
  have V:jq k u=false:=by
   unfold jq;rw[List.any_eq_false];intro v hv;simp[M v (List.mem_range.1 hv)]
  rw[V]at F;refine vi ?_;exact au (m+1,u) ⟨by show m+1<=_;omega,F,a0⟩
theorem NG{vars:Int}{os:List aV}:VC prog 60 [pI vars,.sl (os.map orP)] (pI (pO vars os)):=by
 have a:=Gx vars os;unfold pO;refine vf 14 [.tmp 4] τok func60 ?_;cases h:fc vars os with
 |error n=>
  rw[h]at a;refine aZ (λ_=>10) (λ_=>0) a ?_;exact aF
 |ok g=>
  rw[h]at a;refine aZ (λ_=>10) (λ_=>0) a ?_;exact aF
theorem cy{p q:Bool}(h:p=q):gs' [PV.nz (.bool p)]= .bool q:=by rw[h];rfl
theorem AM(l:List Atom)(hl:l.length<=1000000000)(vars:Int):VC prog 141 [cw l,pI vars] (.bool (cL l vars)):=by
 have H:=aq atP l;have j:vars<0 \/16<vars \/l.length<1 \/4<l.length ->false=cL l vars:=λh=>by unfold cL;rw[KX h]
 refine vf 53 [.tmp 4] τok func141 ?_;refine ae (λv=>?_) (λv=>?_)
 ·exact⟨_,_,rfl,rfl,cy (j Uo)⟩
 refine ae (λw=>?_) (λw=>?_)
 ·exact⟨_,_,rfl,rfl,cy (j Uo)⟩
 refine ae (λz=>?_) (λz=>?_)
 ·exact⟨_,_,rfl,rfl,cy (j Uo)⟩
 refine ae (λC=>?_) (λC=>?_)
 ·exact⟨_,_,rfl,rfl,cy (j Uo)⟩
 rw[show cL l vars=fQ vars l (-1) by unfold cL;rw[KY Uo]];generalize d:fQ vars l (-1)=e;refine aB τok (σ:=Nat×Int) [(1,_),(24,_),(25,_)] [] (λq=>[(5,vI q.2),(26,vI q.1)]) (λ_=>[]) (λq=>q.1<=l.length/\fQ vars (l.drop q.1) q.2=e) (λq=>l.length-q.1) (0,-1) ⟨KV _,d⟩ ?_;rintro⟨k,b⟩ ⟨D,hr⟩;simp only at D hr;refine aj<|ae (λi=>?_) (λi=>?_);rotate_left
 ·have i:¬ (k:Int)<((l.map atP).length:Int):=i
  rw[JY Uo]at hr;exact⟨_,_,rfl,rfl,cy hr⟩
 have i:(k:Int)<((l.map atP).length:Int):=i;obtain⟨x,E,F⟩:=az (l:=l) (k:=k);rw[F]at hr;simp only[fQ]at hr;have a:x.var<=b \/vars<x.var \/x.add<0 \/1000<x.add ->false=e:=λh=>by rw[<- hr,KX h]
 refine vm (p:=atP) k E ?_;refine ae (λo=>?_) (λo=>?_)
 ·exact⟨_,_,rfl,rfl,cy (a (.inl o))⟩
 have o:¬ x.var<=b:=o;refine ae (λr=>?_) (λr=>?_)
 ·exact⟨_,_,rfl,rfl,cy (a (.inr (.inl r)))⟩
 refine ae (λs=>?_) (λs=>?_)
 ·exact⟨_,_,rfl,rfl,cy (a (.inr (.inr (.inl s))))⟩
 refine ae (λu=>?_) (λu=>?_)
 ·exact⟨_,_,rfl,rfl,cy (a (.inr (.inr (.inr u))))⟩
 rw[KY Uo]at hr;refine vi ?_;exact au (k+1,x.var) ⟨by show k+1<=_;omega,hr⟩
def qB(g:G)(x:Atom):List (Nat×SE):=[(0,.st 1 164 [.row 2]),(1,.st 2 154 [.p (pI x.var),.p (pI x.add)]),(2,.ob 3 (QG g))]
theorem NH(g:G)(x y:Atom)(i:0<=x.add/\x.add<=1000)(j:0<=y.add/\y.add<=1000):VG prog 143 [.c (.p (.agg (atP y))),.c (.ptr 0 0),.c (.ptr 1 0)] (qB g x) (.ok (.c (.p (.bool (dx g x y))),qB g x)):=by
 generalize a:dx g x y=e;unfold dx at a;refine cQ 27 [.tmp 4] τok func143 ?_;refine aj<|wq m2e ?_;cases b:g x.var y.var with
 |none=>
  rw[b]at a;exact .inl ⟨_,_,_,id,rfl,rfl,rfl,cy a,⟨rfl,rfl,rfl,trivial⟩,rfl⟩
 |some d=>
  rw[b]at a;refine vi ?_;refine ae (λh=>?_) (λh=>?_)
  ·exact .inl ⟨_,_,_,id,rfl,rfl,rfl,cy ((KU h).symm.trans a),⟨rfl,rfl,rfl,trivial⟩,rfl⟩
  ·exact .inl ⟨_,_,_,id,rfl,rfl,rfl,cy ((KH h).symm.trans a),⟨rfl,rfl,rfl,trivial⟩,rfl⟩
theorem NI(g:G)(x:Atom)(l:List Atom)(hl:l.length<=1000000)(j:0<=x.add/\x.add<=1000)(o:∀y∈l,0<=y.add/\y.add<=1000):VG prog 182 [.c (.p (cw l)),.c (.fn 143 [0,1])] (qB g x) (.ok (.c (.p (pI (nG (dx g x) l 0))),qB g x)):=by
 have s:=aq atP l;generalize a:nG (dx g x) l 0=e;refine cQ 19 [.tmp 4] τok func182 ?_;refine aj<|aB τok (σ:=Nat) [(0,_),(1,_),(6,_),(7,_)] [(0,_),(1,_),(2,_)] (λk=>[(8,vI k)]) (λ_=>[]) (λk=>k<=l.length/\nG (dx g x) (l.drop k) k=e) (λk=>l.length-k) 0 ⟨KV _,a⟩ ?_;rintro k ⟨u,hr⟩;refine aj<|ae (λq=>?_) (λq=>?_);rotate_left
 ·rw[JY Uo]at hr
  exact .inl ⟨_,_,_,id,rfl,rfl,rfl,KG (PV.int .i64) hr,⟨rfl,rfl,rfl,trivial⟩,rfl⟩
 obtain⟨y,b,r⟩:=az (l:=l) (k:=k);rw[r]at hr;simp only[nG]at hr;have d:=NH g x y j (o y (JQ b));refine vm (p:=atP) k b ?_;cases i:dx g x y with
 |true=>
  rw[i]at d hr;refine aZ id (λk=>k+1) d ?_;exact .inl ⟨_,_,_,id,rfl,rfl,rfl,KG (PV.int .i64) hr,⟨rfl,rfl,rfl,trivial⟩,rfl⟩
 |false=>
  rw[i]at d hr;refine aZ id (λk=>k+1) d ?_;refine vi ?_;exact au (k+1) ⟨Uo,hr⟩
theorem NJ(g:G)(x:Atom)(l:List Atom)(hl:l.length<=1000000)(a:0<=x.add/\x.add<=1000)(b:∀y∈l,0<=y.add/\y.add<=1000):VG prog 142 [.c (.p (cw l)),.c (.fn 143 [0,1])] (qB g x) (.ok (.c (.p (.bool (l.any (dx g x)))),qB g x)):=by
 refine cQ 9 [.tmp 4] τok func142 ?_;refine aj<|aZ id (λk=>k+1) (NI g x l hl a b) ?_;rw[<- Dw (dx g x) l 0 UO];refine ae (λh=>?_) (λh=>?_)
 ·exact .inl ⟨_,_,_,id,rfl,rfl,rfl,cy (KU h).symm,⟨rfl,rfl,rfl,trivial⟩,rfl⟩
 ·exact .inl ⟨_,_,_,id,rfl,rfl,rfl,cy (KH h).symm,⟨rfl,rfl,rfl,trivial⟩,rfl⟩
theorem Gy(vars:Int)(os:List aV)(a b:List Atom)(ha:a.length<=1000000)(hb:b.length<=1000000):VC prog 80 [pI vars,.sl (os.map orP),cw a,cw b] (.bool (gb vars os a b)):=by
 have H:=aq atP a;have q:=Gx vars os;have r:=AM a Uo vars;have s:=AM b Uo vars;generalize d:gb vars os a b=u;unfold gb at d;refine vf 44 [.tmp 8] τok func80 ?_;cases h:fc vars os with
 |error n=>
  rw[h]at q d;have hn:=closedF_err h;refine aZ (λ_=>16) (λ_=>0) q ?_;refine vy ?_ (show n≠0 by omega);exact⟨_,_,rfl,rfl,cy d⟩
 |ok g=>
  rw[h]at q d;simp only at d;refine aZ (λ_=>16) (λ_=>0) q ?_;refine vn ?_ UO;cases i:cL a vars with
  |false=>
   rw[i]at r d;exact af r<|⟨_,_,rfl,rfl,cy d⟩
  |true=>
  rw[i]at r d;refine af r ?_;cases j:cL b vars with
  |false=>
   rw[j]at s d;exact af s<|⟨_,_,rfl,rfl,cy d⟩
  |true=>
  rw[j]at s d;rw[Bool.true_and,Bool.true_and]at d;refine af s ?_;have D:=jO i;have v:=jO j;refine aB τok (σ:=Nat) [(3,_),(9,_),(33,_),(34,_)] [(9,_),(16,_)] (λk=>[(35,vI k)]) (λ_=>[]) (λk=>k<=a.length/\((a.drop k).all λx=>b.any (dx g x))=u) (λk=>a.length-k) 0 ⟨KV _,d⟩ ?_
  clear d
  rintro k ⟨I,hr⟩;refine aj<|ae (λE=>?_) (λE=>?_);rotate_left
  ·rw[JY Uo]at hr
   exact⟨_,_,rfl,rfl,cy hr⟩
  obtain⟨x,w,F⟩:=az (l:=a) (k:=k);rw[F,List.all_cons]at hr;have o:=D.2 x (JQ w);have e:=NJ g x b hb ⟨o.1,o.2.1⟩ λy z=>⟨(v.2 y z).1,(v.2 y z).2.1⟩
  refine vm (p:=atP) k w ?_;cases C:b.any (dx g x)with
  |false=>
   rw[C]at e hr;exact aZ (λk=>[9,12,16].getD k 0) (λ_=>0) e<|⟨_,_,rfl,rfl,cy hr⟩
  |true=>
   rw[C]at e hr;refine aZ (λk=>[9,12,16].getD k 0) (λ_=>0) e ?_;refine vi ?_;exact au (k+1) ⟨Uo,hr⟩
open Go.Wx Cd Tm Lv
theorem br_at:Br2 rAt atP (λx=>I64 x.var/\I64 x.add):=⟨λ_=>rfl,λx d C e i h=>by
 match e,i with
 |[a,b],_=>exact⟨by rw[fK (h 0 _ a rfl rfl),fK (h 1 _ b rfl rfl)],d⟩,λ_ _ _ h=>h.2⟩
theorem FA':mO rAt atP:=λC d x ⟨e,_⟩=>by
 subst e;refine⟨rfl,λi y u a b=>?_⟩
 match i,a,b with
 |0,a,b=>obtain rfl:=JB a;obtain rfl:=JB b;exact .int _ _
 |1,a,b=>obtain rfl:=JB a;obtain rfl:=JB b;exact .int _ _
theorem ws{x:Tr}(e:Ok .tm x)(d:(row x).length<=4096)(h2:x.n.op=2):VC prog 125 [ah (row x)] (cw (bq x)):=by
 have hr:=iH e;have a:kidsT x=[]:=by unfold kidsT;cases x;exact KX h2
 have i:atmsT x=x.ks.map (·.n):=by unfold atmsT;rw[KX h2]
 rw[a,i]at hr;simp only[cj,JD]at hr;have b:=KG List.length hr;simp only[JV,KF]at b;have r:=aq ndP (row x);have o:(((row x).map ndP).take (row x).length).drop 1=(x.ks.map (·.n)).map ndP:=by
  rw[JG Uo,hr]
  rfl
 have s:=aq ndP (x.ks.map (·.n));have u:=aq (λk:Tr=>k.n) x.ks;refine vf 23 [.tmp 2] τok func125 ?_;refine bO 1 (row x).length ?_ (λy q=>by
  obtain⟨_,_,rfl⟩:=List.mem_map.1 q
  rfl)
 rw[o];refine dK 3 1000 154 2 rfl rfl<|aB τok (σ:=Nat) [(7,_),(8,_)] [] (λj=>[(3,.c (.row 1000)),(9,vI j)]) (λj=>[(1000,.rw 154 2 (((bq x).take j).map atP))]) (λj=>j<=x.ks.length) (λj=>x.ks.length-j) 0 (KV _) ?_;intro j v;refine aj<|ae (λg=>?_) (λg=>?_)
 ·have g:(j:Int)<(((x.ks.map (·.n)).map ndP).length:Int):=g
  obtain⟨k,a,_⟩:=az (l:=x.ks) (k:=j);refine aM j (x:=k.n) (by rw[JX,a];rfl) ?_;refine bg ?_ (hb:=Uk);refine vi ?_;exact au (j+1) (by show j+1<=_;omega) (sw 1000 20) (y':=⟨KG (λl=>some (SE.rw _ _ l)) (by
   rw[QQ,KB];unfold bq;rw[JX,a]
   rfl),trivial⟩)
 ·have g:¬ (j:Int)<(((x.ks.map (·.n)).map ndP).length:Int):=g
  rw[JG (by simp[bq];omega)];exact aF
theorem Gz{x y:Operand}{p q:Nd}{k:PV ->Prop}(d:k (.bool (decide (p=q)))):nM prog .eql 47 x y (.c (.p (.agg (ndP p)))) (.c (.p (.agg (ndP q)))) k:=by
 refine⟨_,λC ρ va o w e i=>?_,d⟩;have rd:∀{p:Nd} {v:Value},RA C ρ (.c (.p (.agg (ndP p)))) v ->v=jM p:=λ{p v} h=>by
  have h:RV C (.agg (ndP p)) v:=h;cases h with
  |agg r j l hh=>
   match j,l with
   |[a,b,c],_=>rw[fK (hh 0 _ a rfl rfl),fK (hh 1 _ b rfl rfl),fK (hh 2 _ c rfl rfl)]
 obtain rfl:=rd e;obtain rfl:=rd i;exact⟨_,.bool _,Fe _ _ p q w⟩
section
variable{Q:Nd ->Prop}{N:Int}{x y:Tr}
theorem GA{a b:List Nd}(ha:a.length<=4096)(hb:b.length<=4096):VC prog 36 [ah a,ah b] (.bool (decide (a=b))):=by
 have u:=aq ndP a;have v:=aq ndP b;have r:a≠b ->PV.bool false= .bool (decide (a=b)):=λh=>by rw[KH h]
 refine vf 26 [.tmp 4] τok func36 ?_;refine ae (λg=>?_) (λg=>?_)
 ·exact⟨_,_,rfl,rfl,r λh=>by subst h;omega⟩
 refine vl τok (σ:=Nat) [(0,_),(1,_),(12,_)] (λi=>[(13,vI i)]) (λi=>i<=a.length/\a.take i=b.take i) (λi=>a.length-i) 0 ⟨KV _,Ud⟩ ?_;rintro i ⟨w,j⟩;refine ae (λg=>?_) (λg=>?_)
 ·obtain⟨p,o,z⟩:=az (l:=a) (k:=i)
  obtain⟨q,d,s⟩:=az (l:=b) (k:=i);refine vm i o ?_;refine vm i d ?_;refine vT ?_
  by_cases h:p=q
  ·rw[KU h]
   refine vk ?_;refine vi ?_;exact au (i+1) ⟨Uo,by rw[QQ,QQ,j,o,d,h]⟩
  ·rw[KH h]
   exact vk ⟨_,_,rfl,rfl,r λe=>h (by subst e;rw[o]at d;exact JB d)⟩
 ·exact aF (h3:=by
   rw[JG Uo,JG Uo]at j;rw[KU j]
   rfl)
theorem NK(a:Ft Q N x)(b:Ft Q N y):VC prog 36 [ah (row x),ah (row y)] (.bool (decide (row x=row y))):=GA a.len b.len
theorem AN{a b:List Int}(ha:∀x∈a,I64 x)(hb:∀x∈b,I64 x)(h1:a.length<=1000)(h2:b.length<=1000):VC prog 265 [.sl (a.map iP),.sl (b.map iP)] (.bool (decide (a=b))):=by
 have s:=aq iP a;have u:=aq iP b;have o:a≠b ->PV.bool false= .bool (decide (a=b)):=λh=>by rw[KH h]
 refine vf 26 [.tmp 4] τok func265 ?_;refine ae (λg=>?_) (λg=>?_)
 ·exact⟨_,_,rfl,rfl,o λh=>by subst h;omega⟩
 refine vl τok (σ:=Nat) [(0,_),(1,_),(12,_)] (λi=>[(13,vI i)]) (λi=>i<=a.length/\a.take i=b.take i) (λi=>a.length-i) 0 ⟨KV _,Ud⟩ ?_;rintro i ⟨h1,h2⟩;refine ae (λg=>?_) (λg=>?_)
 ·obtain⟨p,j,v⟩:=az (l:=a) (k:=i)
  obtain⟨q,d,r⟩:=az (l:=b) (k:=i);refine vm i j ?_;refine vm i d ?_;refine ae (λh=>?_) (λh=>?_)
  ·exact vk ⟨_,_,rfl,rfl,o λe=>h (by subst e;rw[j]at d;exact JB d)⟩
  ·have h:¬ p≠q:=h
   refine vk ?_;refine vi ?_;exact au (i+1) ⟨Uo,by rw[QQ,QQ,h2,j,d,Decidable.not_not.1 h]⟩
 ·exact aF (h3:=by
   rw[JG Uo,JG Uo]at h2;rw[KU h2]
   rfl)
theorem GB(a:Ft Q N x)(d:x.n.op=12):VC prog 266 [ah (row x)] (.sl ((placesM x).map iP)):=by
 have z:=aC a;have H:=dZ a.ok d;have u:=a.len;obtain⟨b,C⟩:∃b:Nat,x.n.b=(b:Int):=⟨x.n.b.toNat,Uo⟩
 have hpl:(placesM x).length=b:=by simp[placesM];omega
 refine cN 27 [.tmp 2] τok func266 ?_;refine aj<|aM 0 (aN z) ?_;refine dK 3 1000 3 1 rfl rfl<|aB τok (σ:=Nat) [(0,_),(8,_)] [] (λi=>[(3,.c (.row 1000)),(4,vI ((1+(rows (x.ks.take i)).length:Nat):Int)),(9,vI i)]) (λi=>[(1000,.rw 3 1 (((placesM x).take i).map iP))]) (λi=>i<=b) (λi=>b-i) 0 (KV _) ?_ (x1:=⟨rfl,KG (λn:Int=>some (vI n)) (by simp[rows]),rfl,trivial⟩);intro i I;have L:((placesM x).take i).length=i:=by rw[VJ];omega
 refine aj<|ae (λe=>?_) (λe=>?_)
 ·have e:(i:Int)<x.n.b:=e
  obtain⟨f,hf,_⟩:=az (l:=x.ks) (k:=i);obtain⟨v,w,j,D,_,o,q,_,r,r1,r2⟩:=lA a.ok d hf;have E:(placesM x).take (i+1)=(placesM x).take i++[f.n.a]:=dP (by unfold placesM;rw[JX,hf];rfl);have s:=KG List.length r1;simp only[JK,JV]at s;have F:(rows (x.ks.take (i+1))).length=(rows (x.ks.take i)).length+(1+((row v).length+(row w).length)):=by
   rw[dP hf,de',JK];rw[j];simp[rows,row];omega
  refine aM (1+(rows (x.ks.take i)).length) r ?_;refine bg ?_ (hb:=Uk);refine vi ?_;refine af (endP a (y:=v) r1 o Uk) ?_;refine af (endP a (y:=w) r2 q Uk) ?_;refine vi ?_;exact au (i+1) (by show i+1<=b;omega) (sw 1000 18) (x:=⟨rfl,KG (λn:Int=>some (vI n)) (by rw[F];simp;omega),rfl,trivial⟩) (y':=⟨KG (λl=>some (SE.rw _ _ l)) (by rw[E,KB];rfl),trivial⟩)
 ·have e:¬ (i:Int)<x.n.b:=e
  rw[show (placesM x).take i=placesM x from JG Uo];exact aF
theorem ww(a:Ok .tm x)(h2:x.n.op=2):(bq x).length<=1000000:=by
 obtain⟨_,b,_,d⟩:=Ff a h2;unfold bq;rw[KF];omega
theorem GD{B:ak}(hI:BoI B)(a:Ft Q N x)(b:Ft Q N y)(h1:x.n.op=2)(h2:y.n.op=2):VC prog 80 [.int .i64 B.vars,.sl (B.orders.map orP),cw (bq x),cw (bq y)] (.bool (gb B.vars B.orders (bq x) (bq y))):=Gy _ _ _ _ (ww a.ok h1) (ww b.ok h2)
end
section
variable{B:ak}(hI:BoI B)(hB:GoodB B)
include hI hB
variable{cx:Ctx}(hcx:CxOk B cx)(hcl:cx.length<=260)
include hcx hcl
theorem GF{x:Tr}(a:Ft (QB B) (cx.length:Int) x)(n:Int):VC prog 169 [bk B,aO (cx.map aE),ah (row x),pI n] (match eg B cx x n with
  | .ok q=>.tup [ah (row q.1),pI q.2,pI 0]
  | .error e=>.tup [.sl [],pI 0,pI e]):=NF hB hcx Uo a n
end
def gG(B:ak)(c:PV)(n er:PV):List PV:=[.int .i64 B.vars,.sl (B.orders.map orP),.sl (B.ents.map bI),.int .i64 B.nat,.sl (B.prims.map prP),c,n,er]
abbrev jj(B:ak)(cx:Ctx)(n:Int):List PV:=gG B (aO (cx.map aE)) (pI n) (pI 0)
def mb(B:ak)(cx:Ctx)(r:Except Int (Bool×Nat)):List PV×PV:=match r with
 | .ok q=>(jj B cx q.2,.bool q.1)
 | .error e=>(gG B (aO (cx.map aE)) .unk (pI e),.bool false)
def nh(B:ak)(cx:Ctx)(x y:Tr)(u:Bool)(n:Nat)(r:Except Int (Bool×Nat)):Prop:=VP prog 225 274 (jj B cx n) (mb B cx r).1 [ah (row x),ah (row y),.bool u] (mb B cx r).2
def wA(B:ak)(g:Nat)(rc:RcC):Prop:=∀(cx:Ctx) (x y:Tr) (u:Bool) (n:Nat),CxOk B cx ->cx.length<=260 ->Ft (QB B) (cx.length:Int) x ->Ft (QB B) (cx.length:Int) y ->n<=g ->n<=100000 ->nh B cx x y u n (rc cx x y u n)
section
variable{B:ak}{cx:Ctx}{n:Nat}
theorem GG(hI:BoI B)(hB:GoodB B)(hcx:CxOk B cx)(hcl:cx.length<=260){x:Tr}(d:Ft (QB B) (cx.length:Int) x):(∀e,eg B cx x (n:Int)= .error e ->VP prog 245 274 (jj B cx n) (gG B (aO (cx.map aE)) (pI 0) (pI e)) [ah (row x)] (.tup [.sl [],.bool false]))/\∀q,eg B cx x (n:Int)= .ok q ->VP prog 245 274 (jj B cx n) (jj B cx q.2) [ah (row x)] (.tup [ah (row q.1),.bool true]):=by
 have a:=GF hI hB hcx hcl d (n:Int);refine⟨λe b=>?_,λq i=>?_⟩
 ·rw[b]at a
  have j:e≠0:=by rcases whnf_er _ _ _ _ _ b with rfl|rfl<;>decide
  refine aX (r:=.ok (_,_)) 38 [.tmp 4,.tmp 5] τok func245 ?_;refine aj<|af a ?_;refine vk ?_;refine vn (p:=e=0) ?_ j;exact eP9
 ·rw[i]at a
  refine aX (r:=.ok (_,_)) 38 [.tmp 4,.tmp 5] τok func245 ?_;refine aj<|af a ?_;refine vk ?_;refine vy (p:=(0:Int)=0) ?_ rfl;exact eP9
theorem NL(hI:BoI B){f g:Tr}{N:Int}(hf:Ft (QB B) N f)(e:Ft (QB B) N g)(f2:f.n.op=2)(j:g.n.op=2)(u:Bool){c fu:PV}:VP prog 259 274 (gG B c fu (pI 0)) (gG B c fu (pI 0)) [ah (row f),ah (row g),.bool u] (.bool (ip B f g u)):=by
 have i:=GD hI hf e f2 j;have l:=GD hI e hf j f2;generalize b:ip B f g u=d;unfold ip at b;refine aX (r:=.ok (_,_)) 57 [.tmp 8] τok func259 ?_;refine aj<|af (ws hf.ok hf.len f2) ?_;refine af (ws e.ok e.len j) ?_;refine aM 0 (aN (aC hf)) ?_;refine aM 0 (aN (aC e)) ?_;refine ae (λa=>?_) (λa=>?_)
 ·rw[KU (p:=f.n.a=g.n.a) a,Bool.true_and]at b
  cases k:gb B.vars B.orders (bq f) (bq g)with
  |false=>
   rw[k]at i b;have b:false=d:=b;subst b;refine af i ?_;exact kP9
  |true=>
   rw[k]at i;rw[k,Bool.true_and]at b;refine af i ?_;cases u with
   |true=>
    have b:true=d:=b;subst b;exact kP9
   |false=>
    rw[Bool.false_or]at b;rw[b]at l;refine af l ?_;exact kP9
 ·rw[KH (p:=f.n.a=g.n.a) a]at b
  have b:false=d:=b;subst b;exact kP9
variable{g:Nat}{rc:RcC}
theorem GH(hrc:wA B g rc)(hle:nZ rc)(hcx:CxOk B cx)(hcl:cx.length<=260)(hn:n<=g)(hn1:n<=100000){xs ys:List Tr}(u:∀x∈xs,Ft (QB B) (cx.length:Int) x)(v:∀x∈ys,Ft (QB B) (cx.length:Int) x)(hl:xs.length=ys.length)(H:xs.length<=100000):VP prog 247 274 (jj B cx n) (mb B cx (di rc cx xs ys n)).1 [bG (xs.map row),bG (ys.map row)] (mb B cx (di rc cx xs ys n)).2:=by
 generalize j:di rc cx xs ys n=d;have M:=aq rP (xs.map row);have O:=aq row xs;refine aX (r:=.ok (_,_)) 25 [.tmp 6] τok func247 ?_;refine aj<|aB τok (σ:=Nat×Nat) [(0,_),(1,_),(2,_),(9,_)] [] (λq=>[(10,vI q.1)]) (λq=>[(0,.st 1 274 ((jj B cx q.2).map .p))]) (λq=>q.1<=xs.length/\q.2<=n/\di rc cx (xs.drop q.1) (ys.drop q.1) q.2=d) (λq=>xs.length-q.1) (0,n) ⟨KV _,KJ _,j⟩ ?_
 clear j
 rintro⟨i,m⟩ ⟨I,L,a⟩;simp only at I L a
 dsimp only
 refine aj<|ae (λs=>?_) (λs=>?_)
 ·have s:(i:Int)<(((xs.map row).map rP).length:Int):=s
  obtain⟨x,E,w⟩:=az (l:=xs) (k:=i);obtain⟨y,F,z⟩:=az (l:=ys) (k:=i);rw[w,z]at a;simp only[di]at a;have o:=hrc cx x y false m hcx hcl (u x (JQ E)) (v y (JQ F)) Uo Uo;unfold nh at o;refine aA i (x:=row x) (by rw[JX,E];rfl) ?_;refine aA i (x:=row y) (by rw[JX,F];rfl) ?_;cases C:rc cx x y false m with
  |error e=>
   rw[C]at o a;have a:.error e=d:=a;subst a;refine ay o ?_;exact kP9
  |ok q=>
   obtain⟨b,D⟩:=q;have:=hle _ _ _ _ _ _ C;simp only at this;rw[C]at o a;cases b with
   |false=>
    have a:.ok (false,D)=d:=a;subst a;refine ay o ?_;exact kP9
   |true=>
    have a:di rc cx (xs.drop (i+1)) (ys.drop (i+1)) D=d:=a;refine ay o ?_;refine vk ?_;refine vi ?_;exact au (i+1,D) ⟨Us,Us,a⟩
 ·have s:¬ (i:Int)<(((xs.map row).map rP).length:Int):=s
  rw[JY Uo]at a;have a:.ok (true,m)=d:=a;subst a;exact eP9
end
theorem GI{f:FuncId}(r:dO prog f)(h:∀w a n c,n<=c ->(n=0 \/∃b o,a=some ⟨b,o,none⟩) ->Calls prog f #[.slice a n c] w λe w'=>(∃d,e= .returned (.slice d n n)/\(n=0 \/d=a))/\Kp [] w w')(l:List (List PV)):VG prog f [.c (.p (.sl l))] [] (.ok (.c (.cl l),[])):=⟨r,λw X C ρ D E q=>by
 match D,E with
 |[v],_=>
 obtain⟨F,H,hr⟩:=q.slot 0 _ rfl λk I=>by cases I
 obtain rfl:v=F:=JB H;have hr:RV C (.sl l) v:=hr;obtain⟨a,c,rfl,hle,s,u⟩:∃a c,v= .slice a l.length c/\l.length<=c/\(l.length=0 \/∃b o,a=some ⟨b,o,none⟩)/\∀d,(l.length=0 \/d=a) ->RV C (.sl l) (.slice d l.length l.length):=by
  cases hr with
  |nil a c=>exact⟨a,c,rfl,KV _,.inl rfl,λd _=>.nil d 0⟩
  |sl _ L b o c f M O S U=>exact⟨_,c,rfl,O,.inr ⟨b,o,rfl⟩,λd z=>z.elim (λs=>by obtain rfl:=List.length_eq_zero_iff.1 s;exact .nil d 0) λe=>e▸ .sl l L b o l.length f M (KJ _) S U⟩
 refine(h w a l.length c hle s).mono λe w' ⟨⟨d,V,z⟩,k⟩=>⟨_,C,ρ,V,λt b W _=>?_,λk x i=>(by cases i),λj k x y g _ i=>(by cases i),λk x g b o v i=>(by cases i),q.sub.tr k,q.c0,q.cn,k.weak Ud⟩
 obtain⟨rfl,rfl⟩:=bU W;exact⟨_,rfl,u d z,d,rfl⟩⟩
theorem AO(l:List (List PV)):VG prog 79 [.c (.p (.sl l))] [] (.ok (.c (.cl l),[])):=GI ⟨_,func79,rfl,UO⟩ (λw a n c d e=>by
 refine cO (args:=[_]) 9 [.tmp 2] τok func79 ?_;refine DC τok rfl n n rfl rfl (KJ _) d ?_;rcases e with rfl|⟨b,o,rfl⟩
 ·exact⟨⟨_,rfl,.inl rfl⟩,Kp.refl _ _⟩
 ·rw[rf]
  exact⟨⟨_,rfl,.inr rfl⟩,Kp.refl _ _⟩) l
theorem NM(l:List (List PV)):VG prog 164 [.c (.p (.sl l))] [] (.ok (.c (.cl l),[])):=GI ⟨_,func164,rfl,UO⟩ (λw a n c d e=>by
 refine cO (args:=[_]) 9 [.tmp 2] τok func164 ?_;refine DC τok rfl n n rfl rfl (KJ _) d ?_;rcases e with rfl|⟨b,o,rfl⟩
 ·exact⟨⟨_,rfl,.inl rfl⟩,Kp.refl _ _⟩
 ·rw[rf]
  exact⟨⟨_,rfl,.inr rfl⟩,Kp.refl _ _⟩) l
theorem tf(l:List (List Nd×List Nd)):∀x∈l.map bdP,x.length=2/\∀q∈x,q.one=true:=λx b=>by
 obtain⟨y,_,rfl⟩:=List.mem_map.1 b;exact⟨rfl,λq a=>by
  simp only[bdP,JJ,JZ,or_false]at a;rcases a with rfl|rfl<;>rfl⟩
theorem GK(l:List (List Nd×List Nd)):∀x∈l,(bdP x).length=2/\∀q∈bdP x,q.one=true:=λx a=>tf l _ (QD a)
def tg(c:PV)(cs:List PV):List (Nat×SE):=[(0,.st 1 89 [.p c]),(1,.st 2 272 [.ptr 2 0]),(2,.st 3 274 (cs.map .p))]
theorem NO{B:ak}{c:List (List PV)}{k fu er:PV}:VD prog 264 .returning [0,1] (tg (.sl c) (gG B k fu er)) (tg (.sl c) (gG B (.sl c) fu er)):=by
 refine⟨⟨_,func264,rfl,UO⟩,λw X C ρ q=>?_⟩;refine callsD_of_wpS func264 rfl λl r s=>?_;have h:VCode prog 6 (Tryz.f264.body.getD .skip) ⟨kD' (jU [0,1]) 0,tg (.sl c) (gG B k fu er)⟩ λe A=>e= .normal/\lH id A (tg (.sl c) (gG B (.sl c) fu er)):=by
  exact aj<|⟨rfl,rfl,rfl,rfl,trivial⟩
 have o:=h.run _ _ _ _ _ ⟨C,ρ,q⟩;unfold EvCode at o;refine wpS_of_wp (Go.wp_mono (o _ (oO Ud rfl (by simp[ini]))) ?_);rintro e D E ⟨F,d,u,H,⟨rfl,v⟩,i⟩;obtain⟨z,j,b⟩:=i.le (iG (f:=id) (B:=⟨[],tg (.sl c) (gG B (.sl c) fu er)⟩) VQ v rfl);exact ue d u rfl s ⟨⟨_,rfl⟩,rfl,z,j,λt a ht=>(by cases ht),b.ent,b.sep,b.off,b.sub,b.c0,b.cn,b.kp⟩
section
variable{B:ak}{cx mo:Ctx}{n:Nat}
theorem GM(hcx:CxOk B cx)(i:CxOk B (cx++mo))(hcl:(cx++mo).length<=260)(a:0<mo.length){s t:List Nd}{fu er:PV}{u b:Bool}(d:VP prog 225 274 (jj B (cx++mo) n) (gG B (aO ((cx++mo).map aE)) fu er) [ah s,ah t,.bool u] (.bool b)):
  VP prog 260 274 (jj B cx n) (gG B (aO (cx.map aE)) fu er) [aO (mo.map aE),ah s,ah t,.bool u] (.bool b):=by
 have e:aO ((cx++mo).map aE)= .sl ((cx.map aE).map bdP++(mo.map aE).map bdP):=by rw[KB];exact KG PV.sl (KB ..)
 unfold jj at d;rw[e]at d;have el:(cx++mo).length=cx.length+mo.length:=JK;refine Lj 29 [.tmp 10] τok func260 ?_;refine aj ?_;refine aj ?_;refine⟨⟨rfl,rfl,rfl⟩,rfl,λj=>?_⟩;refine aD ?_;refine aZ id (λ_=>0) (AO _) ?_;refine⟨⟨by simpa using a,tf _⟩,va ?_ (GK _) (hb:=by simp;omega)⟩;refine vk ?_;refine mN 0 5 21 ?_;refine aj ?_;refine ay d ?_;refine kM (λk=>sw 2 0 (sw 1 5 (sw 0 11 k))) (λk=>1-k) NO ?_;exact dA
end
theorem GN(l:List Tr)(i:Nat)(h:i+1<l.length):l.drop i=l.getD i (varX 0)::l.getD (i+1) (varX 0)::l.drop (i+2):=by
 rw[List.drop_eq_getElem_cons Uo,List.drop_eq_getElem_cons Uo];simp only[QK,List.getElem?_eq_getElem (show i<l.length by omega),List.getElem?_eq_getElem h,Option.getD_some]
section
variable{B:ak}{cx mo:Ctx}{n g:Nat}{rc:RcC}
theorem AP(hcx:CxOk B cx)(a:CxOk B (cx++mo))(hcl:(cx++mo).length<=260)(b:0<mo.length){x y:Tr}{u:Bool}{r:Except Int (Bool×Nat)}(h:nh B (cx++mo) x y u n r):VP prog 260 274 (jj B cx n) (mb B cx r).1 [aO (mo.map aE),ah (row x),ah (row y),.bool u] (mb B cx r).2:=by
 cases r with
 |ok q=>exact GM hcx a hcl b h
 |error e=>exact GM hcx a hcl b h
theorem GO{Q:Nd ->Prop}{N:Int}{x:Tr}(b:Ft Q N x)(a:x.n.op=12):(∀v∈placesM x,I64 v)/\(placesM x).length<=1000:=by
 have k:=dZ b.ok a;refine⟨λv d=>?_,by unfold placesM;rw[KF];omega⟩;obtain⟨f,hf,rfl⟩:=List.mem_map.1 d;obtain⟨i,e⟩:=JH hf;obtain⟨_,_,_,_,j,_⟩:=lA b.ok a e;exact(EH j).2.1
variable(hrc:wA B g rc)(hle:nZ rc)(hcx:CxOk B cx)(hcl:cx.length<=256)(hn:n<=g)(hn1:n<=100000){f h:Tr}(hf:Ft (QB B) (cx.length:Int) f)(hh:Ft (QB B) (cx.length:Int) h)
include hrc hle hcx hcl hn hn1 hf hh
theorem NP(f12:f.n.op=12)(s:f.n=h.n):VP prog 261 274 (jj B cx n) (mb B cx (mS rc cx f h n)).1 [ah (row f),ah (row h),bG ((kidsT f).map row),bG ((kidsT h).map row)] (mb B cx (mS rc cx f h n)).2:=by
 have u:h.n.op=12:=by rw[<- s];exact f12
 have wf:=aC hf;have O:=aC hh;have hl:=dZ hf.ok f12;have U:=gu hf.ok f12;have I:=gu hh.ok u;rw[<- s]at I;obtain⟨w,V⟩:∃w:Nat,f.n.b=(w:Int):=⟨f.n.b.toNat,Uo⟩
 obtain⟨W,X⟩:=GO hf f12;obtain⟨Y,Z⟩:=GO hh u;have a0:=qp f;have C:=pb hcx Uo hf f12;have v:(cx++bv f).length=cx.length+w:=by rw[JK];omega
 have eK:=aq rP ((kidsT f).map row);have a1:=aq row (kidsT f);generalize d:mS rc cx f h n=k;unfold mS at d;have E:=AN W Y X Z;refine aX (r:=.ok (_,_)) 76 [.tmp 10] τok func261 ?_;refine aj<|af (GB hf f12) ?_;refine af (GB hh u) ?_
 by_cases F:placesM f=placesM h
 rotate_left
 ·rw[KY F]at d
  rw[KH F]at E;have d:.ok (false,n)=k:=d;subst d;refine af E ?_;exact eP9
 rw[KX F]at d;rw[KU F]at E;refine af E ?_;refine dK 11 1000 105 2 rfl rfl<|aB τok (σ:=Nat) [(0,_),(3,_),(4,_)] [(0,_)] (λi=>[(11,.c (.row 1000)),(12,vI ((2*i:Nat):Int))]) (λi=>[(1000,.rw 105 2 ((((bv f).take i).map aE).map bdP))]) (λi=>i<=w) (λi=>w-i) 0 (KV _) ?_;rintro i hi;have l1:((bv f).take i).length=i:=by rw[VJ];omega
 refine aj<|ae (λo=>?_) (λo=>?_)
 ·have o:((2*i:Nat):Int)<((((kidsT f).map row).map rP).length:Int):=o
  obtain⟨_,_,f0,_⟩:=iL hf f12 (i:=i) Uo;have tt:(bv f).take (i+1)=(bv f).take i++[(aG (kidD f (2*i)) i 0,none)]:=dP (zM Uo);have hL:VC prog 123 [ah (row (kidD f (2*i))),pI (((2*i:Nat):Int)/2),pI 0] (.tup [ah (row (aG (kidD f (2*i)) i 0)),pI 0]):=by
   rw[show ((2*i:Nat):Int)/2=(i:Int) by omega];exact kO f0 Uo Uo
  refine aA (2*i) (aK wf) ?_;refine pT Uo Uo Uo<|af hL ?_;refine bg ?_ (hb:=Uk);refine vi ?_;exact au (i+1) (by show i+1<=w;omega) (sw 1000 42) (x:=⟨rfl,KG (λn:Int=>some (vI n)) Uo,trivial⟩) (y':=⟨KG (λl=>some (SE.rw _ _ l)) (by rw[tt,KB,KB];rfl),trivial⟩)
 have o:¬ ((2*i:Nat):Int)<((((kidsT f).map row).map rP).length:Int):=o;obtain rfl:i=w:=Uo
 rw[JG Uo];refine nT 11 1000 ?_;refine aB τok (σ:=Nat×Nat) [(0,_),(3,_),(4,_),(11,_)] [] (λq=>[(15,vI ((2*q.1:Nat):Int))]) (λq=>[(0,.st 1 274 ((jj B cx q.2).map .p))]) (λq=>q.1<=i/\q.2<=n/\eo rc cx (cx++bv f) ((kidsT f).drop (2*q.1)) ((kidsT h).drop (2*q.1)) q.2=k) (λq=>i-q.1) (0,n) ⟨KV _,KJ _,d⟩ ?_
 clear d o
 rintro⟨j,m⟩ ⟨hj,hm,a⟩;simp only at hj hm a
 dsimp only
 refine aj<|ae (λo=>?_) (λo=>?_)
 ·have o:((2*j:Nat):Int)<((((kidsT f).map row).map rP).length:Int):=o
  obtain⟨_,_,f0,f1⟩:=iL hf f12 (i:=j) Uo;obtain⟨_,_,h0,h1⟩:=iL hh u (i:=j) (by rw[<- s];omega);have d1:(kidsT f).drop (2*j)=kidD f (2*j)::kidD f (2*j+1)::(kidsT f).drop (2*(j+1)):=GN (kidsT f) (2*j) Uo;have d2:(kidsT h).drop (2*j)=kidD h (2*j)::kidD h (2*j+1)::(kidsT h).drop (2*(j+1)):=GN (kidsT h) (2*j) Uo;rw[d1,d2]at a;simp only[eo]at a;have z:=hrc cx (kidD f (2*j)) (kidD h (2*j)) false m hcx Uo f0 h0 Uo Uo;unfold nh at z;refine aA (2*j) (aK wf) ?_;refine aA (2*j) (aK O) ?_;cases L:rc cx (kidD f (2*j)) (kidD h (2*j)) false m with
  |error e=>
   rw[L]at z a;have a:.error e=k:=a;subst a;refine ay z ?_;exact kP9
  |ok q=>
  obtain⟨b,H⟩:=q;have:=hle _ _ _ _ _ _ L;simp only at this;rw[L]at z a;cases b with
  |false=>
   have a:.ok (false,H)=k:=a;subst a;refine ay z ?_;exact kP9
  |true=>
  have a:gz (rc (cx++bv f) (kidD f (2*j+1)) (kidD h (2*j+1)) false H) (eo rc cx (cx++bv f) ((kidsT f).drop (2*(j+1))) ((kidsT h).drop (2*(j+1))))=k:=a;have D:=AP hcx C Uo Uo (hrc _ (kidD f (2*j+1)) (kidD h (2*j+1)) false H C Uo (by rw[v];exact f1.mono Uo) (by rw[v];exact h1.mono (by rw[<- s];omega)) Uo Uo);refine ay z ?_;refine vi ?_;refine aA (2*j+1) (aK wf) ?_;refine vi ?_;refine aA (2*j+1) (aK O) ?_;cases M:rc (cx++bv f) (kidD f (2*j+1)) (kidD h (2*j+1)) false H with
  |error e=>
   rw[M]at D a;have a:.error e=k:=a;subst a;refine ay D ?_;exact kP9
  |ok q=>
  obtain⟨b,S⟩:=q;have:=hle _ _ _ _ _ _ M;simp only at this;rw[M]at D a;cases b with
  |false=>
   have a:.ok (false,S)=k:=a;subst a;refine ay D ?_;exact kP9
  |true=>
  refine ay D ?_;refine vk ?_;refine vi ?_;exact au (j+1,S) ⟨Us,Us,a⟩ (x:=⟨KG (λn:Int=>some (vI n)) Us,trivial⟩)
 ·have o:¬ ((2*j:Nat):Int)<((((kidsT f).map row).map rP).length:Int):=o
  rw[JY Uo]at a;have a:.ok (true,m)=k:=a;subst a;exact eP9
end
section
variable{B:ak}{cx:Ctx}{n g:Nat}{rc:RcC}
section
variable(hI:BoI B)(hrc:wA B g rc)(hle:nZ rc)(hcx:CxOk B cx)(hcl:cx.length<=256)(hn:n<=g)(hn1:n<=100000){f h:Tr}(hf:Ft (QB B) (cx.length:Int) f)(hh:Ft (QB B) (cx.length:Int) h)
include hI hrc hle hcx hcl hn hn1 hf hh
theorem NQ(k:f.n.op=h.n.op)(L:f.n.op≠7)(u:Bool):VP prog 246 274 (jj B cx n) (mb B cx (je B rc cx f h u n)).1 [ah (row f),ah (row h),.bool u] (mb B cx (je B rc cx f h u n)).2:=by
 have wf:=aC hf;have C:=aC hh;have O:=gO hf.ok;generalize a:je B rc cx f h u n=d;unfold je at a;refine aX (r:=.ok (_,_)) 107 [.tmp 8] τok func246 ?_;refine aj<|af (iJ hf) ?_;refine af (iJ hh) ?_;refine aM 0 (aN wf) ?_;refine ae (λl=>?_) (λl=>?_)
 ·have l:f.n.op=2:=l
  rw[KX l]at a;subst a;refine ay (NL hI hf hh l (by rw[<- k];exact l) u) ?_;exact eP9
 have l:¬ f.n.op=2:=l;rw[KY l]at a;have M:f.n.op=4 \/f.n.op=5 ->(kidsT f).length=2/\(kidsT h).length=2/\nh B cx (kidD f 0) (kidD h 0) false n (rc cx (kidD f 0) (kidD h 0) false n)/\CxOk B (cx++[(kidD f 0,none)])/\Ft (QB B) ((cx.length+1:Nat):Int) (kidD f 1)/\Ft (QB B) ((cx.length+1:Nat):Int) (kidD h 1):=λg=>by
  obtain⟨F,f0,f1⟩:=eV hf g;obtain⟨H,i,w⟩:=eV hh (by rw[<- k];exact g);exact⟨F,H,hrc _ _ _ _ _ hcx Uo f0 i hn hn1,hcx.snoc f0 λx S=>(by cases S),f1.mono Uo,w.mono Uo⟩
 refine ae (λs=>?_) (λs=>?_)
 ·have s:f.n.op=4:=s
  rw[KX s]at a;obtain⟨F,H,i,o,f1,I⟩:=M (.inl s);unfold nh at i;refine aA 0 (aK wf) ?_;refine aA 0 (aK C) ?_;cases z:rc cx (kidD f 0) (kidD h 0) false n with
  |error e=>
   rw[z]at i a;have a:.error e=d:=a;subst a;refine ay i ?_;exact kP9
  |ok q=>
  obtain⟨b,m⟩:=q;have:=hle _ _ _ _ _ _ z;simp only at this;rw[z]at i a;cases b with
  |false=>
   have a:.ok (false,m)=d:=a;subst a;refine ay i ?_;exact kP9
  |true=>
   have a:rc (cx++[(kidD f 0,none)]) (kidD f 1) (kidD h 1) u m=d:=a;have w:=AP hcx (mo:=[(kidD f 0,none)]) o (by rw[bQ];omega) Nat.one_pos (hrc _ _ _ u m o (by rw[bQ];omega) (by rw[bQ];exact f1) (by rw[bQ];exact I) Uo Uo);rw[a]at w;refine ay i ?_;refine aA 0 (aK wf) ?_;refine aA 1 (aK wf) ?_;refine aA 1 (aK C) ?_;have hr:=w;cases d with
   |error e=>
    refine ay hr ?_;exact kP9
   |ok q=>
    refine ay hr ?_;exact kP9
 have s:¬ f.n.op=4:=s;rw[KY s]at a;refine ae (λv=>?_) (λv=>?_)
 ·have v:f.n.op=5:=v
  rw[KX v]at a;obtain⟨F,H,i,o,f1,I⟩:=M (.inr v);unfold nh at i;refine aA 0 (aK wf) ?_;refine aA 0 (aK C) ?_;cases z:rc cx (kidD f 0) (kidD h 0) false n with
  |error e=>
   rw[z]at i a;have a:.error e=d:=a;subst a;refine ay i ?_;exact kP9
  |ok q=>
  obtain⟨b,m⟩:=q;have:=hle _ _ _ _ _ _ z;simp only at this;rw[z]at i a;cases b with
  |false=>
   have a:.ok (false,m)=d:=a;subst a;refine ay i ?_;exact kP9
  |true=>
   have a:rc (cx++[(kidD f 0,none)]) (kidD f 1) (kidD h 1) false m=d:=a;have w:=AP hcx (mo:=[(kidD f 0,none)]) o (by rw[bQ];omega) Nat.one_pos (hrc _ _ _ false m o (by rw[bQ];omega) (by rw[bQ];exact f1) (by rw[bQ];exact I) Uo Uo);rw[a]at w;refine ay i ?_;refine aA 0 (aK wf) ?_;refine aA 1 (aK wf) ?_;refine aA 1 (aK C) ?_;have hr:=w;cases d with
   |error e=>
    refine ay hr ?_;exact kP9
   |ok q=>
    refine ay hr ?_;exact kP9
 have v:¬ f.n.op=5:=v;rw[KY v]at a;refine ae (λj=>?_) (λj=>?_)
 ·have j:f.n.op=12:=j
  rw[KX j]at a;refine aM 0 (aN wf) ?_;refine aM 0 (aN C) ?_;refine Gz ?_
  by_cases hn:f.n=h.n
  rotate_left
  ·rw[KY hn]at a
   have a:.ok (false,n)=d:=a;subst a;rw[KH hn];exact kP9
  rw[KX hn]at a;rw[KU hn];have hr:=NP hrc hle hcx hcl ‹n<=g› hn1 hf hh j hn;rw[a]at hr;cases d with
  |error e=>
   refine ay hr ?_;exact kP9
  |ok q=>
   refine ay hr ?_;exact kP9
 have j:¬ f.n.op=12:=j;rw[KY j]at a;refine aM 0 (aN wf) ?_;refine aM 0 (aN C) ?_;refine Gz ?_
 by_cases hn:f.n=h.n
 rotate_left
 ·rw[KY hn]at a
  have a:.ok (false,n)=d:=a;subst a;rw[KH hn];exact kP9
 rw[KX hn]at a;rw[KU hn];have D:=mz hf.ok l j;have E:=mz hh.ok (by rw[<- k];exact l) (by rw[<- k];exact j);have hr:=GH hrc hle hcx Uo ‹n<=g› hn1 (zN hf ⟨s,v,L,j⟩) (zN hh (by rw[<- k];exact⟨s,v,L,j⟩)) (by rw[D.1,E.1];have:=D.2;have:=E.2;rw[<- hn]at this;omega) Uo;rw[a]at hr;cases d with
 |error e=>
  refine ay hr ?_;exact kP9
 |ok q=>
  refine ay hr ?_;exact kP9
end
end
theorem VP.wk{P:Program}{f:FuncId}{T:Nat}{cs c1 d i:List PV}{r:PV}(h:VP P f T cs c1 i r)(j:∀C us,db C c1 us ->db C d us):VP P f T cs d i r:=.of ⟨h.1,λw C b us k l o q s u z=>((VP.run h).2 w C b us k l o q s u z).mono λe M ⟨v,D,a,E,F,H,I,L⟩=>⟨v,D,a,E,F,H,j _ _ I,L⟩⟩
theorem wB{B:ak}{c n e:PV}{m:Int}(hn:n=pI m)(C:Mem)(us:List Value)(h:db C (gG B c n e) us):db C (gG B c .unk e) us:=by
 subst hn;refine⟨h.1,λi x v a b=>?_⟩
 match i,a with
 |0,a=>exact h.2 0 x v a b
 |1,a=>exact h.2 1 x v a b
 |2,a=>exact h.2 2 x v a b
 |3,a=>exact h.2 3 x v a b
 |4,a=>exact h.2 4 x v a b
 |5,a=>exact h.2 5 x v a b
 |6,a=>
  obtain rfl:=JB a;rw[fK (h.2 6 _ v rfl b)];exact .unk m
 |7,a=>exact h.2 7 x v a b
 |i+8,a=>cases a
section
variable{B:ak}{cx:Ctx}(hI:BoI B)(hB:GoodB B)
include hI hB
theorem yd':∀g,wA B g (df B g):=by
 have zero:∀(cx:Ctx) (x y:Tr) (u:Bool),nh B cx x y u 0 (.error 10):=λcx x y u=>by
  refine VP.wk (c1:=gG B (aO (cx.map aE)) (pI ((0:Nat):Int)) (pI 10)) ?_ (wB rfl);refine aX (r:=.ok (_,_)) 94 [.tmp 8] τok func225 ?_;refine aj<|vy (p:=((0:Nat):Int)=0) ?_ rfl;exact eP9
 intro g
 induction g with
 |zero=>
  intro cx x y u n _ _ _ _ h _;obtain rfl:n=0:=Uo
  exact zero cx x y u
 |succ g M=>
  intro cx x y u n hcx hcl E F hn hn1;cases n with
  |zero=>exact zero cx x y u
  |succ m=>
  have w:(((m+1:Nat):Int)-1)=(m:Int):=Uo
  have eC:=aq bdP (cx.map aE);have W:=aq aE cx;have o:=NK E F;generalize a:df B (g+1) cx x y u (m+1)=d;simp only[df,Nat.add_sub_cancel]at a;rw[KY Uo]at a
  by_cases D:row x=row y
  ·rw[KX D]at a
   rw[KU D]at o;subst a;refine aX (r:=.ok (_,_)) 94 [.tmp 8] τok func225 ?_;refine aj<|vn (p:=((m+1:Nat):Int)=0) ?_;refine vi ?_;rw[w];refine af o ?_;exact eP9
  rw[KY D]at a;rw[KH D]at o
  by_cases O:256<cx.length
  ·rw[KX O]at a
   subst a;refine VP.wk (c1:=gG B (aO (cx.map aE)) (pI m) (pI 5)) ?_ (wB rfl);refine aX (r:=.ok (_,_)) 94 [.tmp 8] τok func225 ?_;refine aj<|vn (p:=((m+1:Nat):Int)=0) ?_;refine vi ?_;rw[w];refine af o ?_;refine vy (p:=(256:Int)<(((cx.map aE).map bdP).length:Int)) ?_;exact eP9
  rw[KY O]at a;obtain⟨X,S⟩:=GG (n:=m) hI hB hcx hcl E;cases i:eg B cx x (m:Int)with
  |error e=>
   rw[i]at a;have a:.error e=d:=a;subst a;refine VP.wk (c1:=gG B (aO (cx.map aE)) (pI 0) (pI e)) ?_ (wB rfl);refine aX (r:=.ok (_,_)) 94 [.tmp 8] τok func225 ?_;refine aj<|vn (p:=((m+1:Nat):Int)=0) ?_;refine vi ?_;rw[w];refine af o ?_;refine vn (p:=(256:Int)<(((cx.map aE).map bdP).length:Int)) ?_;refine ay (X e i) ?_;exact eP9
  |ok p=>
  obtain⟨k,U⟩:=p;rw[i]at a;obtain⟨s,V⟩:=vF hB hcx Uo E i;have Y:=sH i;simp only at s V Y;obtain⟨Z,vo⟩:=GG (n:=U) hI hB hcx hcl F;simp only at a;cases j:eg B cx y (U:Int)with
  |error e=>
   rw[j]at a;have a:.error e=d:=a;subst a;refine VP.wk (c1:=gG B (aO (cx.map aE)) (pI 0) (pI e)) ?_ (wB rfl);refine aX (r:=.ok (_,_)) 94 [.tmp 8] τok func225 ?_;refine aj<|vn (p:=((m+1:Nat):Int)=0) ?_;refine vi ?_;rw[w];refine af o ?_;refine vn (p:=(256:Int)<(((cx.map aE).map bdP).length:Int)) ?_;refine ay (S _ i) ?_;refine ay (Z e j) ?_;exact eP9
  |ok q=>
  obtain⟨l,H⟩:=q;rw[j]at a;obtain⟨z,y7⟩:=vF hB hcx Uo F j;have l2:=sH j;simp only at z y7 l2;have a:nY B (df B g) cx k l u H=d:=a;unfold nY at a;have nx:=s.nargs;have lx:=s.len;have eA:=aq (λt=>[ah t]) ((argsT k).map row);have a0:=aq row (argsT k);have eB:=aq (λt=>[ah t]) ((argsT l).map row);have a1:=aq row (argsT l);refine aX (r:=.ok (_,_)) 94 [.tmp 8] τok func225 ?_;refine aj<|vn (p:=((m+1:Nat):Int)=0) ?_;refine vi ?_;rw[w];refine af o ?_;refine vn (p:=(256:Int)<(((cx.map aE).map bdP).length:Int)) ?_;refine ay (S _ i) ?_;refine ay (vo _ j) ?_;refine af (vz s) ?_;refine af (vz z) ?_;refine aM 0 (aN (aC s.head)) ?_;refine aM 0 (aN (aC z.head)) ?_;refine ae (λv=>?_) (λv=>?_)
  ·have v:(headT k).n.op≠(headT l).n.op:=v
   rw[KX (.inl v)]at a;subst a;exact kP9
  have v:(headT k).n.op=(headT l).n.op:=Decidable.not_not.1 v;refine ae (λC=>?_) (λC=>?_)
  ·have C:((((argsT k).map row).map λt=>[ah t]).length:Int)≠((((argsT l).map row).map λt=>[ah t]).length:Int):=C
   rw[KX (.inr Uo)]at a;subst a;exact kP9
  have C:¬ ((((argsT k).map row).map λt=>[ah t]).length:Int)≠((((argsT l).map row).map λt=>[ah t]).length:Int):=C;rw[KY Uo]at a;refine vk ?_;have hh:=NQ (n:=H) hI M (lK B g) hcx Uo Uo Uo s.head z.head v V u;cases hr:je B (df B g) cx (headT k) (headT l) u H with
  |error e=>
   rw[hr]at hh a;have a:.error e=d:=a;subst a;refine ay hh ?_;exact eP9
  |ok r=>
  obtain⟨b,I⟩:=r;have l3:=Fi (lK B g) hr;simp only at l3;rw[hr]at hh a;cases b with
  |false=>
   have a:.ok (false,I)=d:=a;subst a;refine ay hh ?_;exact eP9
  |true=>
   have a:di (df B g) cx (argsT k) (argsT l) I=d:=a;have L:=GH (n:=I) M (lK B g) hcx hcl Uo Uo s.args z.args Uo Uo;rw[a]at L;refine ay hh ?_;cases d with
   |error e=>
    refine ay L ?_;exact eP9
   |ok q=>
    refine ay L ?_;exact eP9
theorem NR(hcx:CxOk B cx)(hcl:cx.length<=260){x y:Tr}(b:Ft (QB B) (cx.length:Int) x)(d:Ft (QB B) (cx.length:Int) y)(f:Int)(u:Bool):VC prog 202 [bk B,aO (cx.map aE),ah (row x),ah (row y),pI f,.bool u] (match lL B cx x y f u with
  | .ok q=>.tup [.bool q.1,pI q.2,pI 0]
  | .error e=>.tup [.bool false,pI 0,pI e]):=by
 have i:=EW';obtain⟨n,hn,hn1⟩:∃n:Nat,min (max f 0) 100000=(n:Int)/\bK f=n:=⟨_,by unfold bK;omega,rfl⟩
 unfold lL;rw[hn1];have a:=yd' hI hB GC cx x y u n hcx hcl b d Uo Uo;unfold nh at a;rw[<- hn]at a;refine vf 43 [.tmp 12,.tmp 13,.tmp 14] τok func202 ?_;cases hr:df B GC cx x y u n with
 |error e=>
  have j:=sL B GC _ _ _ _ _ _ hr;rw[hr]at a;refine ay a ?_;refine vy (p:=e≠0) ?_ j;exact kA9
 |ok q=>
  rw[hr]at a;refine ay a ?_;refine vn (p:=(0:Int)≠0) ?_ UO;exact kA9
end
theorem NS(l:List Atom):∀x∈l,(atP x).length=2/\∀q∈atP x,q.one=true:=λx _=>⟨rfl,λq a=>by
 simp[atP]at a;rcases a with rfl|rfl<;>rfl⟩
theorem NT(l:List Atom)(a:0<l.length)(hl:l.length<=1000000):VO prog 160 [cw l] 154 2 (l.map atP):=by
 refine o6 8 [.tmp 2] τok func160 ?_;refine aj<|sD (l:=l.map atP) τok (by rfl) (by rw[KF];exact a)<|va ?_ (NS l);exact⟨7,rfl,rfl⟩
theorem AQ{a:List Atom}(ha:a.length<=1000000){b:Int}(D:I64 b):VC prog 124 [cw a,pI b] (.tup [cw (fS a b),pI (dC a b)]):=by
 have W:=aq atP a;unfold I64 at D;have r:∀e,dC a b=e ->e≠0 ->PV.tup [.sl [],pI e]= .tup [cw (fS a b),pI (dC a b)]:=λe H E=>by
  have hr:fS a b=[]:=by unfold fS;rw[KY (by rw[H];exact E)]
  rw[hr,H]
  rfl
 refine vf 39 [.tmp 4,.tmp 5] τok func124 ?_;refine bN (AM a Uo 16) (λj=>?_) (λj=>?_);rotate_left
 ·exact⟨_,_,rfl,rfl,r 19 (by unfold dC;rw[KX j]) UO⟩
 refine ae (λF=>?_) (λF=>?_)
 ·exact⟨_,_,rfl,rfl,r 1 (by unfold dC;rw[KY (by simp[j]),KX F]) UO⟩
 have I:dC a b=if a.any (λx=>decide (1000<x.add+b))then 6 else 0:=by unfold dC;rw[KY (by simp[j]),KY F]
 obtain⟨O,s⟩:=jO j;have E:0<a.length:=by
  unfold cL at j;split at j
  ·cases j
  ·omega
 refine gV (NT a E ha) ?_;refine aB τok (σ:=Nat×List Atom) [(1,_),(6,_),(16,_)] [] (λq=>[(17,vI q.1)]) (λq=>[(14,.rw 154 2 (q.2.map atP))]) (λq=>q.1<=a.length/\q.2=(io a b).take q.1++a.drop q.1/\∀x∈a.take q.1,x.add+b<=1000) (λq=>a.length-q.1) (0,a) ⟨KV _,Ud,λx o=>by simp at o⟩ ?_;rintro⟨i,l⟩ ⟨S,u,C⟩;simp only at S u C;have X:(io a b).length=a.length:=KF _;refine aj<|ae (λv=>?_) (λv=>?_);rotate_left
 ·have v:¬ (i:Int)<((a.map atP).length:Int):=v
  rw[JG Uo,JY Uo,JD]at u;rw[JG Uo]at C;have L:dC a b=0:=by
   rw[I,KY];rw[List.any_eq_true];rintro⟨x,o,h⟩;have:=C x o;simp at h;omega
  refine⟨_,_,rfl,rfl,?_⟩;rw[L,show fS a b=l by unfold fS;rw[KX L,u]]
  rfl
 have v:(i:Int)<((a.map atP).length:Int):=v;obtain⟨x,o,M⟩:=az (l:=a) (k:=i);have d:l[i]?=some x:=by
  rw[u,QU (by rw[VJ];omega),VJ,show i-min i (io a b).length=0 by omega,M]
  rfl
 have U:=s x (JQ o);refine vm (p:=atP) i d ?_;refine ef d<|vi ?_;refine ae (λw=>?_) (λw=>?_)
 ·have w:b>1000-x.add:=w
  exact⟨_,_,rfl,rfl,r 6 (by rw[I,KX];rw[List.any_eq_true];exact⟨x,JQ o,Uk⟩) UO⟩
 have w:¬ b>1000-x.add:=w
 refine vm (p:=atP) i d ?_;refine ef d<|vi ?_;refine vm (p:=atP) i d ?_;refine ef d<|vi ?_;refine au (i+1,l.set i ⟨x.var,x.add+b⟩) ⟨by show i+1<=_;omega,?_,λy z=>?_⟩ (y':=⟨KG (λl=>some (SE.rw _ _ l)) (by rw[List.map_set];rfl),trivial⟩)
 ·show l.set i _=_
  have V:(io a b)[i]?=some ⟨x.var,x.add+b⟩:=by unfold io;rw[JX,o];rfl
  rw[u,M,List.set_append_right _ _ (by rw[VJ];omega),VJ,show i-min i (io a b).length=0 by omega,List.set_cons_zero,QQ,V];simp
 ·rw[QQ,o]at z
  simp at z;rcases z with z|rfl
  ·exact C y z
  ·omega
open Go.Wx Cd Tm Lv
section
variable{Q:Nd ->Prop}{N:Int}{x y:Tr}
theorem GP{ys:List Tr}(a:Ok .tm x)(hl:(row x).length<=4096)(b:∀y∈ys,Ok .tm y/\(row y).length<=4096)(hn:ys.length<=100000):VC prog 134 [pI 4,bG (ys.map row),ah (row x)] (de (bp ys x)):=by
 rw[show de (bp ys x)=_ by unfold bp;rw[apply_ite de]];exact LF (.inl rfl) a hl b hn
end
theorem GQ{vars:Int}{l:List Atom}(h:j4 vars l):GL (λx:Atom=>I64 x.var/\I64 x.add) l:=⟨by have:=h.hi;omega,λx a=>by
 have:=h.at_ x a;exact⟨⟨Uo,Uo⟩,⟨Uo,Uo⟩⟩⟩
theorem NU{vars:Int}{a:List Atom}(ha:j4 vars a):VC prog 124 [cw a,pI 1] (.tup [cw (fS a 1),pI (dC a 1)]):=AQ (by have:=ha.hi;omega) (by unfold I64;omega)
theorem AR{vars:Int}{a b:List Atom}(ha:j4 vars a)(hb:j4 vars b):VC prog 133 [cw a,cw b] (.tup [cw (dB a b),pI (cI a b)]):=La ⟨_,func133,rfl,UO⟩ λw C O i d j=>by
 obtain⟨v,z,rfl,l,o⟩:=zk j;obtain⟨q,r,rfl,s,S⟩:=br_at.sl (GQ ha) l;obtain⟨u,D,rfl,E,U⟩:=br_at.sl (GQ hb) o;refine(L8 i a b q u r D s E).2.mono λe V ⟨F,H,I,⟨L,M⟩,k⟩=>⟨⟨_,I,?_⟩,k⟩
 exact Lb (SV.rv FA' ⟨F,H,rfl,L.mono λ_ _ _ h=>.inr h,M⟩) (.int _ _)
section
variable{B:ak}(hI:BoI B)(hB:GoodB B)
include hI hB
theorem NV{x:Tr}{N:Int}(b:Ft (QB B) N x)(a:x.n.op=12):VC prog 180 [bk B,ah (row x)] (pI (gg B x)):=NC hB b a
variable{cx:Ctx}(hcx:CxOk B cx)(hcl:cx.length<=260)
include hcx hcl
theorem NW{x y:Tr}(a:Ft (QB B) (cx.length:Int) x)(b:Ft (QB B) (cx.length:Int) y)(n:Int)(u:Bool):VC prog 202 [bk B,aO (cx.map aE),ah (row x),ah (row y),pI n,.bool u] (match lL B cx x y n u with
  | .ok q=>.tup [.bool q.1,pI q.2,pI 0]
  | .error e=>.tup [.bool false,pI 0,pI e]):=NR hI hB hcx hcl a b n u
end
theorem vH':VC prog 126 [pI 0] (.tup []):=by
 refine vf 7 [] τok func126 ?_;refine vn (p:=(0:Int)≠0) ?_ UO;exact aF
theorem fB{e:Int}(he:e≠0):VE prog 126 [pI e] (fd e):=by
 refine o7 (r:=.error (fd e)) 7 [] τok func126 ?_;refine aj<|vy ?_ he;exact sr (λw=>by simp[Instr.makeInterface,underlying177,go_sem])<|rfl
theorem ow{B:ak}{cx:Ctx}(hcx:CxOk B cx)(hcl:cx.length<=300){t:Tr}{o:Option Tr}(ht:Ft (QB B) (cx.length:Int) t)(a:∀x,o=some x ->Ft (QB B) (cx.length:Int) x):VC prog 132 [aO (cx.map aE),.sl [[ah (row t),ah (qA' o)]]] (aO ((cx++[(t,o)]).map aE)):=by
 have e:aO ((cx++[(t,o)]).map aE)= .sl ((cx.map aE).map bdP++[[ah (row t),ah (qA' o)]]):=by rw[KB];exact KG PV.sl (KB ..)
 rw[e];refine vf 9 [.tmp 4] τok func132 ?_;refine aZ id (λ_=>0) (NM _) ?_;refine⟨⟨Nat.one_pos,tf _⟩,bg ?_ (hb:=by simp;omega)⟩;exact⟨_,_,rfl,rfl,rfl⟩
theorem GR{c:List (List Nd×List Nd)}(hc:c.length<=256):VC prog 168 [aO c] (.tup []):=by
 have eC:=aq bdP c;refine vf 6 [] τok func168 ?_;refine vn (p:=(256:Int)<((c.map bdP).length:Int)) ?_;exact aF
theorem GS{c:List (List Nd×List Nd)}(hc:256<c.length):VE prog 168 [aO c] (fd 5):=by
 have eC:=aq bdP c;refine o7 (r:=.error (fd 5)) 6 [] τok func168 ?_;refine aj<|vy (p:=(256:Int)<((c.map bdP).length:Int)) ?_;refine bV (fB UO) ?_;exact rfl
theorem GU(kind:Int){l:List Atom}(hl:l.length<=1000):VC prog 127 [pI kind,cw l] (ah (row (eW kind l))):=by
 have d:=aq atP l;generalize b:row (eW kind l)=j;rw[show row (eW kind l)=⟨2,kind,(l.length:Int)⟩::l.map λa=>⟨3,a.var,a.add⟩ by
  have:∀l:List Atom,rows (l.map λa=>Tr.mk ⟨3,a.var,a.add⟩ [])=l.map λa=>(⟨3,a.var,a.add⟩:Nd):=by
   intro l
   induction l with
   |nil=>rfl
   |cons a l o=>simp[rows,row,o]
  simp[eW,row,this]]at b
 refine vf 29 [.tmp 4] τok func127 ?_;refine aB τok (σ:=Nat) [(13,_),(14,_)] [] (λi=>[(5,.c (.row 1000)),(15,vI i)]) (λi=>[(1000,.rw 47 3 ([pI 2,pI kind,pI ((l.map atP).length:Int)]::(l.take i).map λa=>[pI 3,pI a.var,pI a.add]))]) (λi=>i<=l.length) (λi=>l.length-i) 0 (KV _) ?_ (sw 1000 12);intro i q;refine aj<|ae (λg=>?_) (λg=>?_)
 ·have g:(i:Int)<l.length:=by simpa[d]using g
  obtain⟨a,e,_⟩:=az (l:=l) (k:=i);refine vm (p:=atP) i e ?_;refine bg ?_ (hb:=Uk);refine vi ?_;exact au (i+1) (by show i+1<=_;omega) (sw 1000 26) (y':=⟨KG (λl=>some (SE.rw _ _ l)) (by
   rw[dP e];simp[dp];exact⟨rfl,rfl,rfl⟩),trivial⟩)
 ·have:i=l.length:=by simp[d]at g;omega
  subst this;exact aF (h3:=by
   rw[List.take_length,<- b,d];simp[ah,gs',ndP])
theorem AT{n:Nat}{fr:Int}(hn:n<=100)(hf:0<=fr/\fr<=100):VO prog 162 [pI n,pI fr] 39 1 (((varsM n fr).map row).map rP):=by
 have ev:∀k,k<n ->(varsM n fr)[k]?=some (varX (fr+((n-1-k:Nat):Int))):=λk a=>by
  unfold varsM;rw[JX,List.getElem?_range a]
  rfl
 have el:(varsM n fr).length=n:=by simp[varsM]
 refine o6 22 [.tmp 4] τok func162 ?_;refine aj<|vi ?_;refine dK 5 1000 39 1 rfl rfl<|aB τok (σ:=Nat×Int) [(1,_)] [] (λq=>[(5,.c (.row 1000)),(6,vI q.2)]) (λq=>[(1000,.rw 39 1 ((((varsM n fr).take q.1).map row).map rP))]) (λq=>q.1<=n/\q.2=(n:Int)-1-q.1) (λq=>n-q.1) (0,(n:Int)-1) ⟨KV _,Us⟩ ?_;rintro⟨k,v⟩ ⟨a,b⟩;simp only at a b;have d:((varsM n fr).take k).length=k:=by rw[VJ];omega
 refine aj<|ae (λg=>?_) (λg=>?_)
 ·have g:v≥0:=g
  refine vi ?_;refine bg ?_ (hb:=Uk);refine vi ?_;exact au (k+1,v-1) ⟨Us,Us⟩ (sw 1000 20) (y':=⟨KG (λl=>some (SE.rw _ _ l)) (by
   rw[dP (ev k Uo),KB,KB,show fr+((n-1-k:Nat):Int)=fr+v by omega]
   rfl),trivial⟩)
 ·have g:¬ v≥0:=g
  exact⟨1000,rfl,KG (λl=>some (SE.rw 39 1 ((List.map row l).map rP))) (JG (l:=varsM n fr) (i:=k) Uo)⟩
section
variable{B:ak}(hB:GoodB B)
include hB
theorem th{x:Tr}{ys:List Tr}{l:List (List Nd)}{t:List Nd}{Q:Nd ->Prop}(b:Ok .tm x)(hl:(row x).length<=4096)(a:∀y∈ys,Ft Q 90000 y)(hn:ys.length<=1000)(d:l=ys.map row)(e:t=row x):VC prog 134 [pI 4,bG l,ah t] (de (bp ys x)):=by
 subst d e;exact GP b hl (λy h=>⟨(a y h).ok,(a y h).len⟩) Uo
theorem NX{a:Int}(ha:bF B B.ents.length a=true):VC prog 128 [bk B,pI a] (de (gj B a)):=by
 obtain⟨i,x,s,v,w,rfl,_,o,E,d⟩:=hB.fam ha (KJ _);obtain⟨F,H,I⟩:=d.ps_eq o;have L:=d.lp;have M:=d.li;have C:∀y∈v,Ft (QB B) 90000 y:=λy q=>by
  obtain⟨k,r⟩:=JH q;exact(d.up_p hB o r).mono (by have:=aL r;omega)
 have D:∀y∈w,Ft (QB B) 90000 y:=λy q=>by
  obtain⟨k,r⟩:=JH q;exact(d.up_i hB o r).mono (by have:=aL r;omega)
 generalize b:gj B (i:Int)=l;unfold gj at b;rw[F,H,I]at b;have j:=th hB (ys:=w) (x:=s) d.fs.ok d.fs.len D Uo d.indices d.sort;refine vf 31 [.tmp 4,.tmp 5] τok func128 ?_;refine cS i o ?_;cases q1:bp w s with
 |error e=>
  have U:=kS q1;rw[q1]at j b;have b:.error e=l:=b;subst b;refine af j ?_;refine vy (p:=e≠0) ?_;exact aF
 |ok y=>
  rw[q1]at j b;have b:bp v y=l:=b;refine af j ?_;refine vn (p:=(0:Int)≠0) ?_ UO;have q:=lQ (qk B) (N:=(v.length:Int)) (d.fs.wk (λm O=>my (Nat.le_of_lt (aL o)) O)|>.mono Uo) (λk z S=>(d.up_i hB o S).mono Uo) q1;have u:=th hB (ys:=v) (x:=y) q.ok q.len C Uo d.params rfl;rw[b]at u;refine af u ?_;cases l with
  |error e=>exact aF
  |ok z=>exact aF
end
section
variable{B:ak}(hB:GoodB B)
include hB
theorem ti{x:Tr}{ys:List Tr}{L:List (List PV)}{N:Int}(a:Ft (QB B) N x)(b:∀y∈ys,Ft (QB B) N y)(hn:ys.length<=1000)(e:L=(ys.map row).map rP):VC prog 161 [ah (row x),.sl L] (de (aP x ys)):=by
 subst e;exact zB a b Uo
theorem NY{a b:Int}(ha:bF B B.ents.length a=true)(h0:0<=b)(hb:b<(ax B a).ctors.length):VC prog 129 [bk B,pI a,pI b] (de (hH B a b)):=by
 have a0:=kQ hB ha;obtain⟨i,x,s,j,qi,rfl,_,E,V,v⟩:=hB.fam ha (KJ _);obtain⟨e1,e2,e3⟩:=v.ps_eq E;obtain⟨k,rfl⟩:∃k:Nat,b=(k:Int):=⟨b.toNat,Uo⟩
 rw[V]at hb;obtain⟨c,W,_⟩:=az (l:=x.ctors) (k:=k);obtain⟨o,Y,w⟩:=v.ct k c W;obtain⟨e4,e5,e6⟩:=w.ag_eq E W;have a1:=v.lp;have a2:=w.la;have a3:=w.lo;have a4:=v.li;generalize d:hH B (i:Int) (k:Int)=q;unfold hH at d;rw[e1,e4,e5]at d;have f1:=aq (λt=>[ah t]) x.params;have f2:=aq (λt=>[ah t]) c.args;have l3:=KG List.length v.params;have l4:=KG List.length w.args;have l5:=KG List.length w.out;rw[KF]at l3 l4 l5;have F:∀y∈j,Ft (QB B) 90000 y:=λy r=>by
  obtain⟨k,H⟩:=JH r;exact(v.up_p hB E H).mono (by have:=aL H;omega)
 have I:∀y∈o,Ft (QB B) 90000 y:=λy r=>by
  obtain⟨k,H⟩:=JH r;exact(w.up_a E v.kind H).mono (by have:=aL H;omega)
 have M:Ft (QB B) ((j.length+o.length:Nat):Int) (.mk ⟨9,(i:Int),0⟩ []):=pe (by simp[aw,aI];omega) (.inl rfl) (by
  simp only[QB,cr,aY];simp[ha])
 have O:∀y∈varsM j.length (o.length:Int)++Y,Ft (QB B) ((j.length+o.length:Nat):Int) y:=λy r=>by
  rcases List.mem_append.1 r with r|r
  ·exact(lR (qk B) Uo Uo y r).mono Uo
  ·exact w.up_o E v.kind r
 have Z:=AT (n:=j.length) (fr:=(o.length:Int)) Uo Uo;rw[show (j.length:Int)=(((x.params.map λt=>[ah t]).length:Nat):Int) by omega,show (o.length:Int)=(((c.args.map λt=>[ah t]).length:Nat):Int) by omega]at Z;have X:(varsM j.length (o.length:Int)).length=j.length:=by simp[varsM]
 have C:=ti hB (L:=((varsM j.length (((c.args.map λt=>[ah t]).length:Nat):Int)).map row).map rP++c.out.map rP) M O (by rw[JK,X];omega) (by
  rw[show (((c.args.map λt=>[ah t]).length:Nat):Int)=(o.length:Int) by omega,w.out,KB,KB])
 refine vf 58 [.tmp 6,.tmp 7] τok func129 ?_;refine cS i E ?_;refine ee k W ?_;refine gV Z ?_;refine va (p:=rP) ?_ (jx _) (hb:=by simp[varsM];omega);cases q1:aP (.mk ⟨9,(i:Int),0⟩ []) (varsM j.length (o.length:Int)++Y)with
 |error e=>
  have he:=iI q1;rw[q1]at C d;have d:.error e=q:=d;subst d;refine af C ?_;refine vk ?_;refine vy (p:=e≠0) ?_;exact aF
 |ok t=>
 have ht:=gv (qk B) M O q1;rw[q1]at C d;have d:(bp o t).bind (bp j)=q:=d;refine af C ?_;refine vk ?_;refine vn (p:=(0:Int)≠0) ?_ UO;have D:=th hB (ys:=o) (x:=t) ht.ok ht.len I Uo w.args rfl;cases U:bp o t with
 |error e=>
  have he:=kS U;rw[U]at D d;have d:.error e=q:=d;subst d;refine af D ?_;refine vy (p:=e≠0) ?_;exact aF
 |ok u=>
 have hu:=lQ (qk B) (N:=(j.length:Int)) (ht.mono Uo) (λk y r=>(w.up_a E v.kind r).mono Uo) U;rw[U]at D d;have d:bp j u=q:=d;refine af D ?_;refine vn (p:=(0:Int)≠0) ?_ UO;have S:=th hB (ys:=j) (x:=u) hu.ok hu.len F Uo v.params rfl;rw[d]at S;refine af S ?_;cases q with
 |error e=>exact aF
 |ok z=>exact aF
theorem N0{N:Int}(h0:0<=N)(hN:N<=90000){a b:Int}(ha:bF B B.ents.length a=true)(a4:0<=b)(hb:b<(ax B a).ctors.length){F:List Tr}(hq:∀y∈F,Ft (QB B) N y)(hql:F.length=(gh B a).length){mo:Tr}(V:Ft (QB B) N mo):VC prog 178 [bk B,pI a,pI b,bG (F.map row),ah (row mo)] (de (jg B a b F mo)):=by
 have a5:=kQ hB ha;obtain⟨i,x,s,r,qi,rfl,_,U,W,I⟩:=hB.fam ha (KJ _);obtain⟨e1,e2,e3⟩:=I.ps_eq U;obtain⟨k,rfl⟩:∃k:Nat,b=(k:Int):=⟨b.toNat,Uo⟩
 rw[W]at hb;obtain⟨c,hc,_⟩:=az (l:=x.ctors) (k:=k);obtain⟨o,go,H⟩:=I.ct k c hc;obtain⟨e4,e5,e6⟩:=H.ag_eq U hc;have a6:=I.lp;have a7:=H.la;have a8:=H.lo;have a9:=I.li;have a':=I.lc;generalize d:jg B (i:Int) (k:Int) F mo=w;unfold jg at d;rw[e1,e4,e5]at d;rw[e1]at hql;have f1:=aq (λt=>[ah t]) x.params;have f2:=aq (λt=>[ah t]) c.args;have l3:=KG List.length I.params;have l4:=KG List.length H.args;have l5:=KG List.length H.out;rw[KF]at l3 l4 l5;have X:∀y∈o,Ft (QB B) 90000 y:=λy E=>by
  obtain⟨k,hk⟩:=JH E;exact(H.up_a U I.kind hk).mono (by have:=aL hk;omega)
 have Y:Ft (QB B) ((r.length+o.length:Nat):Int) (.mk ⟨10,(i:Int),(k:Int)⟩ []):=pe (by simp[aw,aI];omega) (.inr rfl) (by
  simp only[QB,cr,aY];simp[ha,W];omega)
 have Z:∀y∈varsM r.length (o.length:Int)++varsM o.length 0,Ft (QB B) ((r.length+o.length:Nat):Int) y:=λy E=>by
  rcases List.mem_append.1 E with E|E
  ·exact(lR (qk B) Uo Uo y E).mono Uo
  ·exact(lR (qk B) Uo Uo y E).mono Uo
 have c1:(((x.params.map λt=>[ah t]).length:Nat):Int)=(r.length:Int):=Uo
 have c2:(((c.args.map λt=>[ah t]).length:Nat):Int)=(o.length:Int):=Uo
 have hv:=AT (n:=r.length) (fr:=(o.length:Int)) Uo Uo;have hw:=AT (n:=o.length) (fr:=0) Uo Uo;have a0:=kO V Uo (b:=((r.length+o.length:Nat):Int)) Uo;have hm:=V.lift (qk B) (b:=((r.length+o.length:Nat):Int)) Uo Uo Uo;rw[show ((r.length+o.length:Nat):Int)=(((x.params.map λt=>[ah t]).length:Nat):Int)+(((c.args.map λt=>[ah t]).length:Nat):Int) by omega]at a0;rw[<- c1,<- c2]at hv;rw[<- c2]at hw;have a1:(varsM r.length (o.length:Int)).length=r.length:=by simp[varsM]
 have a2:(varsM o.length 0).length=o.length:=by simp[varsM]
 have M:=ti hB (L:=((varsM r.length (((c.args.map λt=>[ah t]).length:Nat):Int)).map row).map rP++((varsM o.length 0).map row).map rP) Y Z (by rw[JK,a1,a2];omega) (by
  rw[c2,KB,KB])
 refine vf 120 [.tmp 10,.tmp 11] τok func178 ?_;refine cS i U ?_;refine ee k hc ?_;refine vk ?_;refine vi ?_;refine af a0 ?_;refine vn (p:=(0:Int)≠0) ?_ UO;refine gV hv ?_;refine gV hw ?_;refine va (p:=rP) ?_ (jx _) (hb:=by simp[varsM];omega);cases q1:aP (.mk ⟨10,(i:Int),(k:Int)⟩ []) (varsM r.length (o.length:Int)++varsM o.length 0)with
 |error e=>
  have he:=iI q1;rw[q1]at M d;have d:.error e=w:=d;subst d;refine af M ?_;refine vy (p:=e≠0) ?_;exact aF
 |ok C=>
 have a3:=gv (qk B) Y Z q1;rw[q1]at M d;have d:(aP (aG mo ((r.length+o.length:Nat):Int) 0) (go++[C])).bind (λt=>(bp o t).bind (cR F 0 r.length))=w:=d;refine af M ?_;refine vn (p:=(0:Int)≠0) ?_ UO;refine va (p:=rP) ?_ (jx _) (hb:=by simp[dp];omega);refine bg ?_ (hb:=by simp[dp];omega);have S:∀y∈go++[C],Ft (QB B) (N+((r.length+o.length:Nat):Int)) y:=λy E=>by
  rcases List.mem_append.1 E with E|E
  ·exact(H.up_o U I.kind E).mono Uo
  ·obtain rfl:y=C:=by simpa using E
   exact a3.mono Uo
 have D:=ti hB (L:=c.out.map rP++[rP (row C)]) hm S (by rw[JK];simp;omega) (by
  rw[H.out,KB,KB]
  rfl)
 rw[show ((r.length+o.length:Nat):Int)=(((x.params.map λt=>[ah t]).length:Nat):Int)+(((c.args.map λt=>[ah t]).length:Nat):Int) by omega]at D d;cases q2:aP (aG mo ((((x.params.map λt=>[ah t]).length:Nat):Int)+(((c.args.map λt=>[ah t]).length:Nat):Int)) 0) (go++[C])with
 |error e=>
  have he:=iI q2;rw[q2]at D d;have d:.error e=w:=d;subst d;refine af D ?_;refine vy (p:=e≠0) ?_;exact aF
 |ok t=>
 have ht:=gv (qk B) hm S (by rw[<- q2,c1,c2,Int.natCast_add]);rw[q2]at D d;have d:(bp o t).bind (cR F 0 r.length)=w:=d;refine af D ?_;refine vn (p:=(0:Int)≠0) ?_ UO;have O:=th hB (ys:=o) (x:=t) ht.ok ht.len X Uo H.args rfl;cases q3:bp o t with
 |error e=>
  have he:=kS q3;rw[q3]at O d;have d:.error e=w:=d;subst d;refine af O ?_;refine vy (p:=e≠0) ?_;exact aF
 |ok u=>
 have hu:=lQ (qk B) (N:=N+r.length) (ht.mono Uo) (λk y E=>(H.up_a U I.kind E).mono Uo) q3;rw[q3]at O d;have d:cR F 0 r.length u=w:=d;refine af O ?_;refine vn (p:=(0:Int)≠0) ?_ UO;refine vi ?_;refine aB τok (σ:=Nat×Tr×Int) [(3,_)] [] (λq=>[(19,vP (ah (row q.2.1))),(20,vI q.2.2)]) (λ_=>[]) (λq=>q.1<=r.length/\q.2.2=(q.1:Int)-1/\Ft (QB B) (N+q.1) q.2.1/\cR F 0 q.1 q.2.1=w) (λq=>q.1) (r.length,u,(((x.params.map λt=>[ah t]).length:Nat):Int)-1) ⟨KJ _,Us,hu,d⟩ ?_
 clear d
 rintro⟨j,t,v⟩ ⟨hj,hv,ft,hr⟩;simp only at hj hv ft hr;refine aj<|ae (λg=>?_) (λg=>?_)
 ·have g:v≥0:=g
  obtain⟨j,rfl⟩:∃l,j=l+1:=⟨j-1,Uo⟩
  obtain rfl:v=(j:Int):=Uo
  simp only[cR]at hr;obtain⟨p,hp,_⟩:=az (l:=F) (k:=j);rw[show F.getD j (varX 0)=p by rw[QK,hp];rfl]at hr;have fp:=hq p (JQ hp);have fl:=fp.lift (qk B) (b:=(j:Int)) Uo Uo Uo;refine aA j (x:=row p) (by rw[JX,hp];rfl) ?_;refine af (kO fp Uo (b:=(j:Int)) Uo) ?_;refine vn (p:=(0:Int)≠0) ?_ UO;have hs:=nX (x:=t) (u:=aG p j 0) (v:=0) (N:=N+j) (ft.mono Uo) fl Uo Uo;cases q4:bh t (aG p j 0) 0 with
  |error e=>
   have he:=gY q4;rw[q4]at hs hr;have hr:.error e=w:=hr;subst hr;refine af hs ?_;refine vy (p:=e≠0) ?_;exact aF
  |ok z=>
   rw[q4]at hs hr;have fz:=gQ (qk B) (N:=N+j) (v:=0) (ft.mono Uo) fl Uo Uo Uo Uo q4;refine af hs ?_;refine vn (p:=(0:Int)≠0) ?_ UO;refine vi ?_;exact au (j,z,(j:Int)-1) ⟨Us,by simp only,fz.mono Us,hr⟩
 ·have g:¬ v≥0:=g
  obtain rfl:j=0:=Uo
  have hr:.ok t=w:=hr;subst hr;exact aF
end
theorem N1{Q:Nd ->Prop}(C:Qk Q){N cg:Int}(M:0<=N)(O:N<=90000)(hm:0<=cg/\cg<=1000){a:List Tr}(F:∀y∈a,Ft Q N y)(hl:a.length<=100){t:Tr}(ht:Ft Q (N+a.length+cg) t):
  VX prog 206 [ah (row t),bG (a.map row),pI cg] (match cR a cg a.length t with
   | .ok z=>.ok (ah (row z))
   | .error e=>.error (fd e)):=by
 generalize d:cR a cg a.length t=i;have S:=aq (λt=>[ah t]) (a.map row);have U:=aq row a;refine o7 31 [.tmp 6] τok func206 ?_;refine aj<|vi ?_;refine aB τok (σ:=Nat×Tr×Int) [(1,_),(2,_)] [] (λq=>[(0,vP (ah (row q.2.1))),(7,vI q.2.2)]) (λ_=>[]) (λq=>q.1<=a.length/\q.2.2=(q.1:Int)-1/\Ft Q (N+q.1+cg) q.2.1/\cR a cg q.1 q.2.1=i) (λq=>q.1) (a.length,t,((((a.map row).map λt=>[ah t]).length:Nat):Int)-1) ⟨KJ _,Us,ht,d⟩ ?_
 clear d
 rintro⟨j,t,v⟩ ⟨H,I,w,hr⟩;simp only at H I w hr;refine aj<|ae (λg=>?_) (λg=>?_)
 ·have g:v≥0:=g
  obtain⟨j,rfl⟩:∃l,j=l+1:=⟨j-1,Uo⟩
  obtain rfl:v=(j:Int):=Uo
  simp only[cR]at hr;obtain⟨p,o,_⟩:=az (l:=a) (k:=j);rw[show a.getD j (varX 0)=p by rw[QK,o];rfl]at hr;have D:=F p (JQ o);have E:=D.lift C (b:=(j:Int)) Uo Uo Uo;refine aA j (x:=row p) (by rw[JX,o];rfl) ?_;refine af (kO D Uo (b:=(j:Int)) Uo) ?_;refine af (fM _) ?_;have r:=nX (x:=t) (u:=aG p j 0) (v:=cg) (N:=N+j) (w.mono Uo) E Uo Uo;cases s:bh t (aG p j 0) cg with
  |error e=>
   have V:=gY s;rw[s]at r hr;have hr:.error e=i:=hr;subst hr;refine af r ?_;refine bV (jy _ (show e≠0 by omega)) ?_;exact rfl
  |ok z=>
   rw[s]at r hr;have L:=gQ C (N:=N+j) (v:=cg) (w.mono Uo) E Uo Uo Uo Uo s;refine af r ?_;refine af (fM _) ?_;refine vi ?_;exact au (j,z,(j:Int)-1) ⟨Us,by simp only,L.mono Us,hr⟩
 ·have g:¬ v≥0:=g
  obtain rfl:j=0:=Uo
  have hr:.ok t=i:=hr;subst hr;exact aF
def dW(B:ak)(n:Int):List PV:=[.int .i64 B.vars,.sl (B.orders.map orP),.sl (B.ents.map bI),.int .i64 B.nat,.sl (B.prims.map prP),pI n]
def dE{α:Type}(B:ak)(f:α ->PV)(r:Except Int (α×Nat)):Except (List PanicEntry) (List PV×PV):=match r with
 | .ok q=>.ok (dW B q.2,f q.1)
 | .error e=>.error (fd e)
def ia(x:Tr):PV:=ah (row x)
def GV(q:Int×List Atom):PV:=.tup [pI q.1,cw q.2]
def GX(z:Tr):PV:=.tup [ah (row (headT z)),bG ((argsT z).map row)]
section
variable{B:ak}{cx:Ctx}{rc:RcJ}{n:Nat}
def bS(B:ak)(cx:Ctx)(t:Tr)(n:Nat)(r:Except Int (Tr×Nat)):Prop:=ju prog 77 180 (dW B n) [aO (cx.map aE),ah (row t)] (dE B ia r)
variable(hI:BoI B)(hB:GoodB B)(hcx:CxOk B cx)(hcl:cx.length<=260)
include hI hB hcx hcl
theorem wC{x:Tr}(i:Ft (QB B) (cx.length:Int) x)(n:Nat):ju prog 135 180 (dW B n) [aO (cx.map aE),ah (row x)] (dE B GX (fx B cx x n)):=by
 have k:=aq aE cx;have b:=GF hI hB hcx hcl i (n:Int);generalize a:fx B cx x n=d;unfold fx at a;refine aX (r:=dE B GX d) 37 [.tmp 6,.tmp 7] τok func135 ?_;refine aj ?_
 by_cases j:256<cx.length
 ·rw[KX j]at a
  subst a;refine bV (GS Uo) ?_;exact rfl
 rw[KY j]at a;refine af (GR Uo) ?_;cases hr:eg B cx x (n:Int)with
 |error e=>
  rw[hr]at b a;subst a;refine af b ?_;refine vk ?_;refine bV (fB (sK hr)) ?_;exact rfl
 |ok q=>
  have l:=(vF hB hcx Uo i hr).1;rw[hr]at b a;subst a;refine af b ?_;refine vk ?_;refine af vH' ?_;refine af (vz l) ?_;exact eP9
theorem AU{x y:Tr}(j:Ft (QB B) (cx.length:Int) x)(k:Ft (QB B) (cx.length:Int) y)(n:Nat)(u:Bool):ju prog 170 180 (dW B n) [aO (cx.map aE),ah (row x),ah (row y),.bool u] (dE B PV.bool (gB B cx x y u n)):=by
 have l:=aq aE cx;have b:=NW hI hB hcx hcl j k (n:Int) u;generalize a:gB B cx x y u n=d;unfold gB at a;refine aX (r:=dE B PV.bool d) 40 [.tmp 10] τok func170 ?_;refine aj ?_
 by_cases i:256<cx.length
 ·rw[KX i]at a
  subst a;refine bV (GS Uo) ?_;exact rfl
 rw[KY i]at a;refine af (GR Uo) ?_;cases hr:lL B cx x y (n:Int) u with
 |error e=>
  rw[hr]at b a;subst a;refine af b ?_;refine vk ?_;refine bV (fB (sL B GC _ _ _ _ _ _ hr)) ?_;exact rfl
 |ok q=>
  rw[hr]at b a;subst a;refine af b ?_;refine vk ?_;refine af vH' ?_;exact eP9
variable(hr:cF B rc)
include hr
theorem pj{t:Tr}(ht:Ft (QB B) (cx.length:Int) t){n:Nat}(i:bS B cx t n (rc cx t n)):ju prog 131 180 (dW B n) [aO (cx.map aE),ah (row t)] (dE B GV (dD B rc cx t n)):=by
 generalize b:dD B rc cx t n=d;unfold dD at b;unfold bS at i;refine aX (r:=dE B GV d) 37 [.tmp 6,.tmp 7] τok func131 ?_;refine aj ?_;cases o:rc cx t n with
 |error e=>
  rw[o]at i b;have b:.error e=d:=b;subst b;refine cH i ?_;exact rfl
 |ok q=>
 obtain⟨y,m⟩:=q;have u:=hr.ft _ _ _ _ hcx hcl ht o;rw[o]at i b;have b:aQ (fx B cx y m) (λz n=>if (headT z).n.op≠2 \/0<(argsT z).length then .error 11 else .ok (((headT z).n.a,bq (headT z)),n))=d:=b;have k:=wC hI hB hcx hcl u m;refine ay i ?_;cases s:fx B cx y m with
 |error e=>
  rw[s]at k b;have b:.error e=d:=b;subst b;refine cH k ?_;exact rfl
 |ok q=>
 obtain⟨z,v⟩:=q;obtain⟨_,_,w⟩:=jB hB hcx u s;have l:=aC w.head;have C:=aq (λt=>[ah t]) ((argsT z).map row);have D:=aq row (argsT z);rw[s]at k b;have b:(if (headT z).n.op≠2 \/0<(argsT z).length then .error 11 else .ok (((headT z).n.a,bq (headT z)),v))=d:=b;refine ay k ?_;refine aM 0 (aN l) ?_;refine ae (λg=>?_) (λg=>?_)
 ·rw[KX (.inl g)]at b
  subst b;refine bV (fB UO) ?_;exact rfl
 have g:(headT z).n.op=2:=QY g;refine ae (λj=>?_) (λj=>?_)
 ·have j:((((argsT z).map row).map λt=>[ah t]).length:Int)>0:=j
  rw[KX (.inr Uo)]at b;subst b;refine bV (fB UO) ?_;exact rfl
 have j:¬ ((((argsT z).map row).map λt=>[ah t]).length:Int)>0:=j;rw[KY Uo]at b;subst b;refine aM 0 (aN l) ?_;refine af (ws l.ok l.len g) ?_;exact kP9
theorem tj{t ty:Tr}(ht:Ft (QB B) (cx.length:Int) t)(k:Ft (QB B) (cx.length:Int) ty){n:Nat}(i:bS B cx t n (rc cx t n)):ju prog 136 180 (dW B n) [aO (cx.map aE),ah (row t),ah (row ty)] (dE B (λ_=>.tup []) (dU B rc cx t ty n)):=by
 generalize a:dU B rc cx t ty n=d;unfold dU at a;unfold bS at i;refine aX (r:=dE B (λ_=>.tup []) d) 18 [] τok func136 ?_;refine aj ?_;cases l:rc cx t n with
 |error e=>
  rw[l]at i a;have a:.error e=d:=a;subst a;refine cH i ?_;exact rfl
 |ok q=>
 obtain⟨y,m⟩:=q;have s:=hr.ft _ _ _ _ hcx hcl ht l;rw[l]at i a;have a:aQ (gB B cx y ty true m) (λb n=>if b=true then .ok ((),n)else .error 13)=d:=a;have j:=AU hI hB hcx hcl s k m true;refine ay i ?_;cases o:gB B cx y ty true m with
 |error e=>
  rw[o]at j a;have a:.error e=d:=a;subst a;refine cH j ?_;exact rfl
 |ok q=>
  obtain⟨b,u⟩:=q;rw[o]at j a;refine ay j ?_;cases b with
  |true=>
   have a:.ok ((),u)=d:=a;subst a;exact eP9
  |false=>
   have a:.error 13=d:=a;subst a;refine bV (fB UO) ?_;exact rfl
end
def qC(B:ak)(rc:RcJ)(g:Nat):Prop:=∀(cx:Ctx) (k:Nat) (t:Tr) (n:Nat),CxOk B cx ->cx.length<=260 ->Ft (QB B) (cx.length:Int) t ->Mt k t ->k*5000+(row t).length<=g ->n<=100000 ->bS B cx t n (rc cx t n)
section
variable{B:ak}{cx:Ctx}{t:Tr}{n:Nat}{rc:RcJ}
variable(hI:BoI B)(hB:GoodB B)(hcx:CxOk B cx)(hcl:cx.length<=260)(ht:Ft (QB B) (cx.length:Int) t)
include hI hB hcx hcl ht
theorem N2(h1:t.n.op=1):bS B cx t n (.ok (aG (fR cx t.n.a).1 (t.n.a+1) 0,n)):=by
 obtain⟨d,a⟩:∃r,(.ok (aG (fR cx t.n.a).1 (t.n.a+1) 0,n):Except Int (Tr×Nat))=r:=⟨_,rfl⟩
 unfold bS;rw[a];have wt:=aC ht;have eC:=aq bdP (cx.map aE);have j:=aq aE cx;refine aX (r:=dE B ia d) 258 [.tmp 6] τok func77 ?_;refine aj<|aM 0 (aN wt) ?_;refine vy (p:=t.n.op=1) ?_ h1;have e:0<=t.n.a/\t.n.a<cx.length:=by
  obtain⟨q,s⟩:=t;obtain⟨k,l,_⟩:=ht.var_lt h1;exact⟨k,l⟩
 have i:=nH e.1 e.2;obtain⟨o,u⟩:=hcx _ _ i;refine vi ?_;refine vi ?_;refine vm (p:=bdP) (cx.length-1-t.n.a.toNat) (x:=aE (fR cx t.n.a)) (by rw[JX,i];rfl) ?_;refine vi ?_;refine af (kO o Uo (b:=t.n.a+1) Uo) ?_;refine af (fM _) ?_;refine vk ?_;subst a;exact eP9
theorem N3(h2:t.n.op=2):bS B cx t n (n9 t n):=by
 obtain⟨b,a⟩:∃r,n9 t n=r:=⟨_,rfl⟩
 unfold bS;rw[a];have wt:=aC ht;refine aX (r:=dE B ia b) 258 [.tmp 6] τok func77 ?_;refine aj<|aM 0 (aN wt) ?_;refine vn (p:=t.n.op=1) ?_;refine vy (p:=t.n.op=2) ?_ h2;have d:=sI ht h2;refine af (ws ht.ok ht.len h2) ?_;refine af (NU d) ?_;unfold n9 at a
 by_cases h:dC (bq t) 1=0
 ·rw[KY Uo]at a
  subst a;have:=(zQ d h).hi;rw[h];refine af vH' ?_;refine af (GU 1 Uo) ?_;exact eP9
 ·rw[KX h]at a
  subst a;refine bV (fB h) ?_;exact rfl
theorem N4(d:t.n.op=8):bS B cx t n (.ok (tr (ax B t.n.a).type,n)):=by
 obtain⟨b,a⟩:∃r,(.ok (tr (ax B t.n.a).type,n):Except Int (Tr×Nat))=r:=⟨_,rfl⟩
 unfold bS;rw[a];have wt:=aC ht;refine aX (r:=dE B ia b) 258 [.tmp 6] τok func77 ?_;refine aj<|aM 0 (aN wt) ?_;refine vn (p:=t.n.op=1) ?_;refine vn (p:=t.n.op=2) ?_;refine vy (p:=t.n.op=8) ?_ d;obtain⟨i,x,l,o,q,j,k,e⟩:=hB.dfn ht.node' d;refine cS i j ?_;refine vk ?_;subst a;refine⟨_,_,_,rfl,rfl,?_,rfl,rfl⟩;simp only[ia,k,e.type,iY e.ft.ok,gs']
 rfl
theorem N5(i:t.n.op=9):bS B cx t n (cU (gj B t.n.a) n):=by
 obtain⟨b,a⟩:∃r,cU (gj B t.n.a) n=r:=⟨_,rfl⟩
 unfold bS;rw[a];have wt:=aC ht;refine aX (r:=dE B ia b) 258 [.tmp 6] τok func77 ?_;refine aj<|aM 0 (aN wt) ?_;refine vn (p:=t.n.op=1) ?_;refine vn (p:=t.n.op=2) ?_;refine vn (p:=t.n.op=8) ?_;refine vy (p:=t.n.op=9) ?_ i;have j:=dn ht.ok.pl;have d:=NX hB (x5 ht.node' i j.2.2.1);cases q1:gj B t.n.a with
 |error e=>
  have k:=zU q1;rw[q1]at d a;have a:.error e=b:=a;subst a;refine af d ?_;refine bV (jy _ (show e≠0 by omega)) ?_;refine gW ?_;refine vk ?_;exact rfl
 |ok z=>
  rw[q1]at d a;have a:.ok (z,n)=b:=a;subst a;refine af d ?_;refine af (fM _) ?_;exact kP9
theorem N6(b:t.n.op=10):bS B cx t n (cU (hH B t.n.a t.n.b) n):=by
 obtain⟨d,a⟩:∃r,cU (hH B t.n.a t.n.b) n=r:=⟨_,rfl⟩
 unfold bS;rw[a];have wt:=aC ht;refine aX (r:=dE B ia d) 258 [.tmp 6] τok func77 ?_;refine aj<|aM 0 (aN wt) ?_;refine vn (p:=t.n.op=1) ?_;refine vn (p:=t.n.op=2) ?_;refine vn (p:=t.n.op=8) ?_;refine vn (p:=t.n.op=9) ?_;refine vy (p:=t.n.op=10) ?_ b;have j:=dn ht.ok.pl;have i:=NY hB (kA ht.node' (.inl b)) j.1 (uA ht.node' b);cases q1:hH B t.n.a t.n.b with
 |error e=>
  have k:=zV q1;rw[q1]at i a;have a:.error e=d:=a;subst a;refine af i ?_;refine bV (jy _ (show e≠0 by omega)) ?_;refine gW ?_;refine vk ?_;exact rfl
 |ok z=>
  rw[q1]at i a;have a:.ok (z,n)=d:=a;subst a;refine af i ?_;refine af (fM _) ?_;exact kP9
variable(hr:cF B rc)
include hr
theorem N7(h4:t.n.op=4)(hn:n<=100000)(C:∀n,n<=100000 ->bS B cx (kidD t 0) n (rc cx (kidD t 0) n))(D:cx.length<=256 ->∀n,n<=100000 ->bS B (cx++[(kidD t 0,none)]) (kidD t 1) n (rc (cx++[(kidD t 0,none)]) (kidD t 1) n)):bS B cx t n (oa B rc cx t n):=by
 obtain⟨b,a⟩:∃r,oa B rc cx t n=r:=⟨_,rfl⟩
 unfold bS;rw[a];have wt:=aC ht;have S:=aq aE cx;refine aX (r:=dE B ia b) 258 [.tmp 6] τok func77 ?_;refine aj<|aM 0 (aN wt) ?_;refine vn (p:=t.n.op=1) ?_;refine vn (p:=t.n.op=2) ?_;refine vn (p:=t.n.op=8) ?_;refine vn (p:=t.n.op=9) ?_;refine vn (p:=t.n.op=10) ?_;refine af (iJ ht) ?_;refine vy (p:=t.n.op=4) ?_ h4;obtain⟨Z,s,U⟩:=eV ht (.inl h4);unfold oa at a;have u:=pj hI hB hcx hcl hr s (C n hn);refine aA 0 (aK wt) ?_;cases w:dD B rc cx (kidD t 0) n with
 |error e=>
  rw[w]at u a;have a:.error e=b:=a;subst a;refine cH u ?_;exact rfl
 |ok p=>
 obtain⟨⟨V,d⟩,E⟩:=p;obtain⟨c1,F,_⟩:=fA hB hr w;obtain⟨_,W,H⟩:=jD hB hr hcx s w;simp only at F W H;rw[w]at u a;refine ay u ?_;have i:=hcx.snoc s (v:=none) λx I=>by cases I
 have j:Ft (QB B) ((cx++[(kidD t 0,none)]).length:Int) (kidD t 1):=by rw[bQ];exact U.mono Uo
 have z:=pj hI hB i (by rw[bQ];omega) hr j (D Uo E Uo);have a:aQ (dD B rc (cx++[(kidD t 0,none)]) (kidD t 1) E) (λq n=>if cI d q.2≠0 then .error (cI d q.2)else .ok (eW q.1 (dB d q.2),n))=b:=a;refine aA 0 (aK wt) ?_;refine af (ow hcx Uo s (o:=none) λx I=>by cases I) ?_;refine aA 1 (aK wt) ?_;cases L:dD B rc (cx++[(kidD t 0,none)]) (kidD t 1) E with
 |error e=>
  rw[L]at z a;have a:.error e=b:=a;subst a;refine cH z ?_;refine gW ?_;refine vk ?_;exact rfl
 |ok p=>
 obtain⟨⟨O,k⟩,X⟩:=p;obtain⟨_,Y,M⟩:=jD hB hr i j L;simp only at Y M;rw[L]at z a;have a:(if cI d k≠0 then .error (cI d k)else .ok (eW O (dB d k),X))=b:=a;refine ay z ?_;refine vk ?_;refine af (AR H M) ?_
 by_cases h:cI d k=0
 ·rw[KY Uo]at a
  subst a;have:=(zR H M h).hi;rw[h];refine af vH' ?_;refine af (GU O (l:=dB d k) Uo) ?_;exact eP9
 ·rw[KX h]at a
  subst a;refine bV (fB h) ?_;exact rfl
theorem N8(M:t.n.op=5)(hn:n<=100000)(u:∀n,n<=100000 ->bS B cx (kidD t 0) n (rc cx (kidD t 0) n))(w:cx.length<=256 ->∀n,n<=100000 ->bS B (cx++[(kidD t 0,none)]) (kidD t 1) n (rc (cx++[(kidD t 0,none)]) (kidD t 1) n)):bS B cx t n (od B rc cx t n):=by
 obtain⟨b,a⟩:∃r,od B rc cx t n=r:=⟨_,rfl⟩
 unfold bS;rw[a];have wt:=aC ht;have S:=aq aE cx;refine aX (r:=dE B ia b) 258 [.tmp 6] τok func77 ?_;refine aj<|aM 0 (aN wt) ?_;refine vn (p:=t.n.op=1) ?_;refine vn (p:=t.n.op=2) ?_;refine vn (p:=t.n.op=8) ?_;refine vn (p:=t.n.op=9) ?_;refine vn (p:=t.n.op=10) ?_;refine af (iJ ht) ?_;refine vn (p:=t.n.op=4) ?_;refine vy (p:=t.n.op=5) ?_ M;obtain⟨kl,d,U⟩:=eV ht (.inr M);unfold od at a;have l:=pj hI hB hcx hcl hr d (u n hn);refine aA 0 (aK wt) ?_;cases q:dD B rc cx (kidD t 0) n with
 |error e=>
  rw[q]at l a;have a:.error e=b:=a;subst a;refine cH l ?_;exact rfl
 |ok p=>
 obtain⟨⟨V,W⟩,C⟩:=p;obtain⟨c1,D,_⟩:=fA hB hr q;obtain⟨_,X,Y⟩:=jD hB hr hcx d q;simp only at D X Y;rw[q]at l a;refine ay l ?_;have i:=hcx.snoc d (v:=none) λx E=>by cases E
 have F:Ft (QB B) ((cx++[(kidD t 0,none)]).length:Int) (kidD t 1):=by rw[bQ];exact U.mono Uo
 have j:=w Uo C Uo;unfold bS at j;have a:aQ (rc (cx++[(kidD t 0,none)]) (kidD t 1) C) (λz n=>cU (bp [kidD t 0] z) n)=b:=a;have W:=aq (λt=>[ah t]) ((kidsT t).map row);have l2:=aq row (kidsT t);refine bO 0 1 ?_ (λy H=>by
  obtain⟨_,_,rfl⟩:=List.mem_map.1 H
  rfl)
 have Z:((((kidsT t).map row).map λt=>[ah t]).take 1).drop 0=([kidD t 0].map row).map rP:=by
  rw[List.drop_zero,<- List.map_take,<- List.map_take,dP (cA wt (k:=0)).1]
  rfl
 rw[Z];refine aA 0 (aK wt) ?_;refine af (ow hcx Uo d (o:=none) λx E=>by cases E) ?_;refine aA 1 (aK wt) ?_;cases I:rc (cx++[(kidD t 0,none)]) (kidD t 1) C with
 |error e=>
  rw[I]at j a;have a:.error e=b:=a;subst a;refine cH j ?_;refine gW ?_;refine vk ?_;exact rfl
 |ok p=>
 obtain⟨y,O⟩:=p;have L:=hr.ft _ _ _ _ i (by rw[bQ];omega) F I;simp only at L;rw[I]at j a;have a:cU (bp [kidD t 0] y) O=b:=a;refine ay j ?_;have s:=GP (x:=y) L.ok L.len (ys:=[kidD t 0]) (λy H=>by
  obtain rfl:y=kidD t 0:=by simpa using H
  exact⟨d.ok,d.len⟩) Ud
 cases q1:bp [kidD t 0] y with
 |error e=>
  have he:=kS q1;rw[q1]at s a;have a:.error e=b:=a;subst a;refine af s ?_;refine bV (jy _ (show e≠0 by omega)) ?_;refine gW ?_;refine vk ?_;exact rfl
 |ok z=>
  rw[q1]at s a;have a:.ok (z,O)=b:=a;subst a;refine af s ?_;refine af (fM _) ?_;exact kP9
theorem N9(I:t.n.op=6)(hn:n<=100000)(o:∀n,n<=100000 ->bS B cx (kidD t 0) n (rc cx (kidD t 0) n))(s:∀n,n<=100000 ->bS B cx (kidD t 1) n (rc cx (kidD t 1) n)):bS B cx t n (oe B rc cx t n):=by
 obtain⟨b,a⟩:∃r,oe B rc cx t n=r:=⟨_,rfl⟩
 unfold bS;rw[a];have wt:=aC ht;have U:=aq aE cx;refine aX (r:=dE B ia b) 258 [.tmp 6] τok func77 ?_;refine aj<|aM 0 (aN wt) ?_;refine vn (p:=t.n.op=1) ?_;refine vn (p:=t.n.op=2) ?_;refine vn (p:=t.n.op=8) ?_;refine vn (p:=t.n.op=9) ?_;refine vn (p:=t.n.op=10) ?_;refine af (iJ ht) ?_;refine vn (p:=t.n.op=4) ?_;refine vn (p:=t.n.op=5) ?_;refine vy (p:=t.n.op=6) ?_ I;obtain⟨Z,V,L⟩:=sG ht I;unfold oe at a;refine aA 0 (aK wt) ?_;have d:=o n hn;unfold bS at d;cases j:rc cx (kidD t 0) n with
 |error e=>
  rw[j]at d a;have a:.error e=b:=a;subst a;refine cH d ?_;exact rfl
 |ok q=>
 obtain⟨y,m⟩:=q;have w:=hr.ft _ _ _ _ hcx hcl V j;have W:=hr.le _ _ _ _ j;simp only at w W;rw[j]at a d;have hW:=wC hI hB hcx hcl w m;have a:aQ (fx B cx y m) (λz n=>if (headT z).n.op≠4 \/0<(argsT z).length then .error 12 else
  aQ (dU B rc cx (kidD t 1) (kidD (headT z) 0) n) λ_ n=>cU (bh (kidD (headT z) 1) (kidD t 1) 0) n)=b:=a
 refine ay d ?_;cases C:fx B cx y m with
 |error e=>
  rw[C]at a hW;have a:.error e=b:=a;subst a;refine cH hW ?_;exact rfl
 |ok q=>
 obtain⟨z,D⟩:=q;obtain⟨_,E,M⟩:=jB hB hcx w C;simp only at M E;have F:=M.head;have H:=aC F;have l1:=aq (λt=>[ah t]) ((argsT z).map row);have l2:=aq row (argsT z);rw[C]at a hW;have a:(if (headT z).n.op≠4 \/0<(argsT z).length then .error 12 else
  aQ (dU B rc cx (kidD t 1) (kidD (headT z) 0) D) λ_ n=>cU (bh (kidD (headT z) 1) (kidD t 1) 0) n)=b:=a
 refine ay hW ?_;refine aM 0 (aN H) ?_;refine ae (λg=>?_) (λg=>?_)
 ·rw[KX (.inl g)]at a
  subst a;refine bV (fB UO) ?_;exact rfl
 have g:(headT z).n.op=4:=QY g;refine ae (λi=>?_) (λi=>?_)
 ·have i:((((argsT z).map row).map λt=>[ah t]).length:Int)>0:=i
  rw[KX (.inr Uo)]at a;subst a;refine bV (fB UO) ?_;exact rfl
 have i:¬ ((((argsT z).map row).map λt=>[ah t]).length:Int)>0:=i;rw[KY Uo]at a;refine af (iJ F) ?_;obtain⟨zl,X,Y⟩:=eV F (.inl g);refine aA 1 (aK wt) ?_;refine aA 0 (aK H) ?_;have k:=tj hI hB hcx hcl hr L X (s D Uo);cases O:dU B rc cx (kidD t 1) (kidD (headT z) 0) D with
 |error e=>
  rw[O]at a k;have a:.error e=b:=a;subst a;refine cH k ?_;refine vk ?_;exact rfl
 |ok q=>
 obtain⟨_,S⟩:=q;rw[O]at a k;have a:cU (bh (kidD (headT z) 1) (kidD t 1) 0) S=b:=a;refine ay k ?_;refine vk ?_;refine aA 1 (aK H) ?_;refine aA 1 (aK wt) ?_;have l:=nX (x:=kidD (headT z) 1) (u:=kidD t 1) (v:=0) (N:=(cx.length:Int)) (Y.mono Uo) L Uo Uo;cases q1:bh (kidD (headT z) 1) (kidD t 1) 0 with
 |error e=>
  have he:=gY q1;rw[q1]at l a;have a:.error e=b:=a;subst a;refine af l ?_;refine bV (jy _ (show e≠0 by omega)) ?_;refine gW ?_;refine vk ?_;exact rfl
 |ok z=>
  rw[q1]at l a;have a:.ok (z,S)=b:=a;subst a;refine af l ?_;refine af (fM _) ?_;exact kP9
end
section
variable{B:ak}{cx:Ctx}{t:Tr}{n g:Nat}{rc:RcJ}
variable(hI:BoI B)(hB:GoodB B)(hr:cF B rc)
section
variable(hcx:CxOk B cx)(hcl:cx.length<=260)(ht:Ft (QB B) (cx.length:Int) t)
include hI hB hr hcx hcl ht
theorem AW(l:t.n.op=12)(hn:n<=100000)(z:∀i,i<t.n.b.toNat ->∀n,n<=100000 ->bS B cx (kidD t (2*i)) n (rc cx (kidD t (2*i)) n))(C:cx.length<=256 ->∀i,i<t.n.b.toNat ->∀n,n<=100000 ->bS B (cx++bv t) (kidD t (2*i+1)) n (rc (cx++bv t) (kidD t (2*i+1)) n)):
  ju prog 139 180 (dW B n) [aO (cx.map aE),ah (row t),bG ((kidsT t).map row)] (dE B ia (lT B rc cx t n)):=by
 obtain⟨l1,l2,l3,l4,l5⟩:=dZ ht.ok l;have a1:=gu ht.ok l;obtain⟨u,V⟩:∃k,t.n.b.toNat=k:=⟨_,rfl⟩
 have W:t.n.b=(u:Int):=Uo
 have wt:=aC ht;have D:=qp t;generalize d:lT B rc cx t n=s;unfold lT at d;rw[V]at d z C D;obtain⟨KK,E⟩:∃f:Unit ->Nat ->Except Int (Tr×Nat),f=λ_ n=>if gg B t≠0 then .error (gg B t)else aQ (mW B rc (cx++bv t) t u u 0 n) λ_ n=>.ok (kidD t (2*t.n.a.toNat),n):=⟨_,rfl⟩
 rw[<- E]at d;refine aX (r:=dE B ia s) 84 [.tmp 8] τok func139 ?_;refine aj<|aM 0 (aN wt) ?_;refine aB τok (σ:=Nat×Nat) [(0,_),(1,_),(2,_),(3,_),(9,_),(18,_)] [] (λq=>[(10,vP (aO ((cx++(bv t).take q.1).map aE))),(19,vI q.1)]) (λq=>[(0,.st 1 180 ((dW B q.2).map .p))]) (λq=>q.1<=u/\q.2<=n/\(0<q.1 ->cx.length<=256)/\aQ (n8 B rc cx t (u-q.1) q.1 q.2) KK=s) (λq=>u-q.1) (0,n) ⟨KV _,KJ _,λh=>absurd h (Nat.lt_irrefl _),d⟩ ?_ (x1:=⟨by rw[List.take_zero,JD];rfl,rfl,trivial⟩)
 clear d
 rintro⟨i,m⟩ ⟨hi,hm,O,a⟩;simp only at hi hm O a;refine aj<|ae (λg=>?_) (λg=>?_)
 ·have g:(i:Int)<t.n.b:=g
  rw[show u-i=(u-(i+1))+1 by omega]at a;simp only[n8]at a;obtain⟨_,_,f0,_⟩:=iL ht l (i:=i) Uo;have S:=pj hI hB hcx hcl hr f0 (z i Uo m Uo);refine vi ?_;refine aA (2*i) (aK wt) ?_;cases v:dD B rc cx (kidD t (2*i)) m with
  |error e=>
   rw[v]at S a;have a:.error e=s:=a;subst a;refine cH S ?_;exact rfl
  |ok q=>
  obtain⟨q1,F⟩:=q;obtain⟨c1,w,_⟩:=fA hB hr v;simp only at w;rw[v]at S a;refine ay S ?_;refine vi ?_;refine aA (2*i) (aK wt) ?_;refine af (kO f0 Uo (b:=(i:Int)) Uo) ?_;refine af (fM _) ?_;have H:=f0.lift (qk B) (b:=(i:Int)) Uo Uo Uo;have e5:((bv t).take i).length=i:=by rw[VJ];omega
  have e6:(cx++(bv t).take i).length=cx.length+i:=by rw[JK,e5]
  have I:CxOk B (cx++(bv t).take i):=λk q X=>by
   refine pb hcx Uo ht l k q ?_
   by_cases hk:k<(cx++(bv t).take i).length
   ·rw[show cx++bv t=(cx++(bv t).take i)++(bv t).drop i by rw[List.append_assoc,List.take_append_drop],QH hk]
    exact X
   ·rw[QF Uo]at X
    cases X
  refine af (ow I Uo (o:=none) (H.mono Uo) λx hx=>by cases hx) ?_;refine vi ?_;exact au (i+1,F) ⟨Us,Us,λ_=>c1,a⟩ (x:=⟨KG (λc:Ctx=>some (vP (aO (c.map aE)))) (by rw[List.append_assoc,Mv (f:=t) (i:=i) Uo]),rfl,trivial⟩)
 have g:¬ (i:Int)<t.n.b:=g;obtain rfl:i=u:=Uo
 have O:=O Uo;rw[Nat.sub_self]at a;have a:KK () m=s:=a;rw[E]at a;simp only at a;have L:=pb hcx Uo ht l;have a0:(cx++bv t).length=cx.length+i:=by rw[JK,D]
 rw[JG Uo];refine af (NV hI hB ht l) ?_
 by_cases Y:gg B t=0
 rotate_left
 ·rw[KX Y]at a
  subst a;refine bV (fB Y) ?_;exact rfl
 rw[KY Uo]at a;rw[Y];refine af vH' ?_;refine aB τok (σ:=Nat×Nat) [(0,_),(2,_),(3,_),(9,_),(10,_),(52,_)] [] (λq=>[(53,vI q.1)]) (λq=>[(0,.st 1 180 ((dW B q.2).map .p))]) (λq=>q.1<=i/\q.2<=n/\aQ (mW B rc (cx++bv t) t i (i-q.1) q.1 q.2) (λ_ n=>.ok (kidD t (2*t.n.a.toNat),n))=s) (λq=>i-q.1) (0,m) ⟨KV _,hm,a⟩ ?_
 clear a
 rintro⟨j,F⟩ ⟨hj,w,a⟩;simp only at hj w a;refine aj<|ae (λM=>?_) (λM=>?_)
 ·have M:(j:Int)<t.n.b:=M
  rw[show i-j=(i-(j+1))+1 by omega]at a;simp only[mW]at a;obtain⟨_,_,f0,f1⟩:=iL ht l (i:=j) Uo;have H:=f0.lift (qk B) (b:=(i:Int)) Uo Uo Uo;refine vi ?_;refine vi ?_;refine aA (2*j+1) (aK wt) ?_;refine vi ?_;refine aA (2*j) (aK wt) ?_;refine af (kO f0 Uo (b:=t.n.b) Uo) ?_;refine af (fM _) ?_;have f1:Ft (QB B) ((cx++bv t).length:Int) (kidD t (2*j+1)):=f1.mono Uo;have H:Ft (QB B) ((cx++bv t).length:Int) (aG (kidD t (2*j)) i 0):=H.mono Uo;have U:=tj hI hB L Uo hr f1 H (C O j Uo F Uo);rw[W];cases v:dU B rc (cx++bv t) (kidD t (2*j+1)) (aG (kidD t (2*j)) i 0) F with
  |error e=>
   rw[v]at U a;have a:.error e=s:=a;subst a;refine cH U ?_;refine vk ?_;exact rfl
  |ok q=>
   obtain⟨_,m2⟩:=q;have Z:=(jC hr v).2;simp only at Z;rw[v]at U a;refine ay U ?_;refine vk ?_;refine vi ?_;refine au (j+1,m2) ⟨Us,Us,a⟩
 ·have M:¬ (j:Int)<t.n.b:=M
  obtain rfl:j=i:=Uo
  rw[Nat.sub_self]at a;have a:.ok (kidD t (2*t.n.a.toNat),F)=s:=a;subst a;refine aM 0 (aN wt) ?_;refine vi ?_;refine aA (2*t.n.a.toNat) (aK wt) ?_;exact eP9
end
include hI hB hr
theorem Oa(hgo:qC B rc g)(hn:n<=100000){a:Int}(ha:bF B B.ents.length a=true)(hg:a.toNat*5000+4096<=g):ju prog 177 180 (dW B n) [pI a] (dE B PV.bool (jZ B rc a n)):=by
 obtain⟨i,x,s,u,qi,rfl,_,M,X,E⟩:=hB.fam ha (KJ _);obtain⟨O,e2,e3⟩:=E.ps_eq M;have hg:i*5000+4096<=g:=by simpa using hg
 generalize d:jZ B rc (i:Int) n=z;unfold jZ at d;rw[O,X]at d;have a1:=E.lp;have a2:=E.lc;have l1:=aq bA x.ctors;have l2:=aq (λt=>[ah t]) x.params;have l3:=KG List.length E.params;rw[KF]at l3;refine aX (r:=dE B PV.bool z) 67 [.tmp 4] τok func177 ?_;refine aj<|cS i M ?_;refine ae (λS=>?_) (λS=>?_)
 ·have S:((x.ctors.map bA).length:Int)=0:=S
  rw[KX Uo]at d;subst d;exact eP9
 have S:¬ ((x.ctors.map bA).length:Int)=0:=S;rw[KY Uo]at d;refine ae (λF=>?_) (λF=>?_)
 ·have F:((x.ctors.map bA).length:Int)>1:=F
  rw[KX Uo]at d;subst d;exact eP9
 have F:¬ ((x.ctors.map bA).length:Int)>1:=F;rw[KY Uo]at d;obtain⟨c,Y,_⟩:=az (l:=x.ctors) (k:=0);obtain⟨v,go,L⟩:=E.ct 0 c Y;obtain⟨Z,e5,e6⟩:=L.ag_eq M Y;have Z:jY B (i:Int) 0=v:=Z;rw[Z]at d;have a3:=L.la;have l4:=aq (λt=>[ah t]) c.args;have l5:=KG List.length L.args;rw[KF]at l5;have C:∀(k:Nat) y,u[k]?=some y ->Ft (QB B) (k:Int) y:=λk y w=>E.up_p hB M w;have D:∀j,CxOk B (cV (u++v.take j)):=λj=>z7 λk y w=>by
  by_cases hk:k<u.length
  ·rw[QH hk]at w
   exact C k y w
  ·rw[QU Uo]at w
   rw[List.getElem?_take]at w;split at w
   ·have:=L.up_a M E.kind w
    exact this.mono Uo
   ·cases w
 have U:∀j,CxOk B (cV (u.take j)):=λj=>z7 λk y w=>by
  rw[List.getElem?_take]at w;split at w
  ·exact C k y w
  ·cases w
 refine dK 6 1000 181 2 rfl rfl<|nT 6 1000 ?_;refine aB τok (σ:=Nat) [(0,_),(5,_),(30,_),(31,_)] [(0,_),(5,_)] (λj=>[(6,vP (aO ((cV (u.take j)).map aE))),(32,vI j)]) (λ_=>[]) (λj=>j<=u.length) (λj=>u.length-j) 0 (KV _) ?_;intro j hj;have e5:(u.take j).length=j:=by rw[VJ];omega
 refine aj<|ae (λg=>?_) (λg=>?_)
 ·have g:(j:Int)<((x.params.map λt=>[ah t]).length:Int):=g
  obtain⟨p,I,_⟩:=az (l:=u) (k:=j);refine aA j (x:=row p) (by rw[E.params,JX,I];rfl) ?_;refine af (ow (U j) (by rw[sP,e5];omega) (t:=p) (o:=none) (by rw[sP,e5];exact C j p I) λx hx=>by cases hx) ?_;refine vi ?_;exact au (j+1) (by show j+1<=_;omega) (x:=⟨KG (λc:Ctx=>some (vP (aO (c.map aE)))) (by rw[dP I,vO]),rfl,trivial⟩)
 have g:¬ (j:Int)<((x.params.map λt=>[ah t]).length:Int):=g;obtain rfl:j=u.length:=Uo
 rw[List.take_length];refine ee 0 Y ?_;refine aB τok (σ:=Nat×Nat) [(0,_),(46,_),(47,_)] [] (λq=>[(6,vP (aO ((cV (u++v.take q.1)).map aE))),(48,vI q.1)]) (λq=>[(0,.st 1 180 ((dW B q.2).map .p))]) (λq=>q.1<=v.length/\q.2<=n/\mV B rc (cV (u++v.take q.1)) (v.drop q.1) q.2=z) (λq=>v.length-q.1) (0,n) ⟨KV _,KJ _,by simpa using d⟩ ?_ (x1:=⟨by rw[List.take_zero,JD];rfl,rfl,trivial⟩)
 clear d
 rintro⟨j,m⟩ ⟨hj,hm,b⟩;simp only at hj hm b;refine aj<|ae (λg=>?_) (λg=>?_);rotate_left
 ·have g:¬ (j:Int)<((c.args.map λt=>[ah t]).length:Int):=g
  obtain rfl:j=v.length:=Uo
  rw[List.drop_length]at b;have b:.ok (true,m)=z:=b;subst b;exact eP9
 have g:(j:Int)<((c.args.map λt=>[ah t]).length:Int):=g;obtain⟨p,I,hd⟩:=az (l:=v) (k:=j);rw[hd]at b;simp only[mV]at b;have V:(cV (u++v.take j)).length=u.length+j:=by rw[sP];simp;omega
 have H:Ft (QB B) ((cV (u++v.take j)).length:Int) p:=by rw[V];exact L.up_a M E.kind I
 have W:=pj hI hB (D j) Uo hr H (hgo _ i _ m (D j) Uo H (FG (L.fa j p I)) (by have:=H.len;omega) Uo);refine aA j (x:=row p) (by rw[L.args,JX,I];rfl) ?_;cases O:dD B rc (cV (u++v.take j)) p m with
 |error e=>
  rw[O]at W b;have b:.error e=z:=b;subst b;refine cH W ?_;exact rfl
 |ok q=>
 obtain⟨⟨kd,lv⟩,m1⟩:=q;obtain⟨_,a0,_⟩:=fA hB hr O;simp only at a0;rw[O]at W b;have b:(if kd≠0 then .ok (false,m1)else mV B rc (cV (u++v.take j)++[(p,none)]) (v.drop (j+1)) m1)=z:=b;refine ay W ?_;refine ae (λF=>?_) (λF=>?_)
 ·rw[KX F]at b
  subst b;exact eP9
 rw[KY F]at b;refine af (ow (D j) Uo (t:=p) (o:=none) H λx hx=>by cases hx) ?_;refine vi ?_;have ex:cV (u++v.take (j+1))=cV (u++v.take j)++[(p,none)]:=by rw[dP I,<- List.append_assoc,vO]
 exact au (j+1,m1) ⟨Us,Us,by simp only;rw[ex];exact b⟩ (x:=⟨KG (λc:Ctx=>some (vP (aO (c.map aE)))) ex.symm,rfl,trivial⟩)
end
end Go.Q
