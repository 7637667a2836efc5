import Derived.Test.YtfjfpkkpfbadoaaGreatMf10
set_option linter.all false
set_option maxRecDepth 100000
set_option maxHeartbeats 4000000
open Go.Proofs Go.Proofs.Tryz Cd Go.Wx Lv Tm
namespace Go.Q
section
variable(f:Int ->Nd ->Tr)
mutual
def mT:Tr ->Int ->Int ->Tr
 | .mk n ks,d,nb=>if n.op=1 then f d n else .mk n (mK ks n nb 0 d)
def mK:List Tr ->Nd ->Int ->Int ->Int ->List Tr
 |[],_,_,_,_=>[]
 |x::r,n,nb,k,d=>mT x (d+arC n nb k) n.b::mK r n nb (k+1) d
end
end
theorem MG{n:Nd}(h1:n.op=1)(b:aw n=true):0<=n.a/\n.a<=1048576/\n.b=0:=by
 have a:aI n.a 0 1048576=true/\n.b=0:=by simpa[aw,h1]using b
 have:=dI.1 a.1;exact⟨this.1,this.2,a.2⟩
section
variable{f g f3:Int ->Nd ->Tr}{h:Int ->Nd ->Option Tr}
theorem sR{n:Nd}{ks:List Tr}{d nb:Int}(h1:n.op=1):mT f (.mk n ks) d nb=f d n:=by simp[mT,h1]
theorem pf{n:Nd}{ks:List Tr}{d nb:Int}(h1:n.op≠1):mT f (.mk n ks) d nb= .mk n (mK f ks n nb 0 d):=by simp[mT,h1]
mutual
theorem xS':∀(x:Tr) (s:Md) (d nb:Int),okT cnt nx x s ->(∀q∈varsT x d nb,∀n:Nd,n.op=1 ->aw n=true ->n.a=q.1 ->h q.2 n=some (f q.2 n)) ->gT h x d nb=some (mT f x d nb)
 | .mk n ks,s,d,nb,b,H=>by
  have c:=fC' (.mk n ks) s b n (by simp[row]);obtain⟨l,i⟩:=b
  by_cases a:n.op=1
  ·simp only[gT,mT,KX a]
   exact H (n.a,d) (by simp[varsT,a]) n a c rfl
  ·simp only[gT,mT,KY a]
   rw[Fb' ks n s nb 0 d 0 i λq j=>H q (by simpa[varsT,a]using j)]
theorem Fb':∀(ks:List Tr) (n:Nd) (s:Md) (nb k d:Int) (j:Nat),bH cnt nx ks n s j ->(∀q∈varsK ks n nb k d,∀n:Nd,n.op=1 ->aw n=true ->n.a=q.1 ->h q.2 n=some (f q.2 n)) ->gK h ks n nb k d=some (mK f ks n nb k d)
 |[],n,s,nb,k,d,j,_,_=>rfl
 |x::r,n,s,nb,k,d,j,b,H=>by
  obtain⟨c,hr⟩:=b;simp only[gK,mK];rw[xS' x (nx s n j) _ _ c λq a=>H q (by simp[varsK,a]),Fb' r n s nb (k+1) d (j+1) hr λq a=>H q (by simp[varsK,a])]
end
variable{e:Int}
mutual
theorem va':∀(x:Tr) (s:Md) (d nb:Int),okT cnt nx x s ->(∀q∈varsT x d nb,∀n:Nd,n.op=1 ->aw n=true ->n.a=q.1 ->f (q.2+e) n=f3 q.2 n) ->mT f x (d+e) nb=mT f3 x d nb
 | .mk n ks,s,d,nb,b,H=>by
  have c:=fC' (.mk n ks) s b n (by simp[row]);obtain⟨l,i⟩:=b
  by_cases a:n.op=1
  ·rw[sR a,sR a]
   exact H (n.a,d) (by simp[varsT,a]) n a c rfl
  ·rw[pf a,pf a,zF' ks n s nb 0 d 0 i λq j=>H q (by simpa[varsT,a]using j)]
theorem zF':∀(ks:List Tr) (n:Nd) (s:Md) (nb k d:Int) (j:Nat),bH cnt nx ks n s j ->(∀q∈varsK ks n nb k d,∀n:Nd,n.op=1 ->aw n=true ->n.a=q.1 ->f (q.2+e) n=f3 q.2 n) ->mK f ks n nb k (d+e)=mK f3 ks n nb k d
 |[],n,s,nb,k,d,j,_,_=>rfl
 |x::r,n,s,nb,k,d,j,b,H=>by
  obtain⟨c,hr⟩:=b;simp only[mK];rw[show d+e+arC n nb k=d+arC n nb k+e by omega,va' x (nx s n j) _ _ c λq a=>H q (by simp[varsK,a]),zF' r n s nb (k+1) d (j+1) hr λq a=>H q (by simp[varsK,a])]
end
mutual
theorem vb':∀(x:Tr) (s:Md) (d nb:Int),okT cnt nx x s ->(∀q∈varsT x d nb,∀n:Nd,n.op=1 ->aw n=true ->n.a=q.1 ->f (q.2+e) n= .mk n []) ->mT f x (d+e) nb=x
 | .mk n ks,s,d,nb,b,H=>by
  have c:=fC' (.mk n ks) s b n (by simp[row]);obtain⟨i,j⟩:=b
  by_cases a:n.op=1
  ·have:ks=[]:=List.length_eq_zero_iff.1 (pG i a)
   subst this;rw[sR a];exact H (n.a,d) (by simp[varsT,a]) n a c rfl
  ·rw[pf a,vc' ks n s nb 0 d 0 j λq l=>H q (by simpa[varsT,a]using l)]
theorem vc':∀(ks:List Tr) (n:Nd) (s:Md) (nb k d:Int) (j:Nat),bH cnt nx ks n s j ->(∀q∈varsK ks n nb k d,∀n:Nd,n.op=1 ->aw n=true ->n.a=q.1 ->f (q.2+e) n= .mk n []) ->mK f ks n nb k (d+e)=ks
 |[],n,s,nb,k,d,j,_,_=>rfl
 |x::r,n,s,nb,k,d,j,b,H=>by
  obtain⟨c,hr⟩:=b;simp only[mK];rw[show d+e+arC n nb k=d+arC n nb k+e by omega,vb' x (nx s n j) _ _ c λq a=>H q (by simp[varsK,a]),vc' r n s nb (k+1) d (j+1) hr λq a=>H q (by simp[varsK,a])]
end
theorem Ae{x:Tr}(c:x.n.op≠13)(d nb a:Int):mT f x d nb=mT f x d a:=by
 obtain⟨n,b⟩:=x;have c:n.op≠13:=c;have i:∀(b:List Tr) (k:Int),mK f b n nb k d=mK f b n a k d:=λb=>by
  induction b with
  |nil=>intro k;rfl
  |cons y r j=>intro k;simp only[mK,mr c,j]
 simp only[mT,i]
end
def MH(d:Int)(n:Nd):Nd:={n with a:=if d<=n.a then n.a+1 else n.a}
def MI(d:Int)(n:Nd):Tr:=.mk (MH d n) []
def up(k:Int)(x:Tr):Tr:=mT MI x k 0
section
variable{x:Tr}{k:Int}
def Sm(x:Tr):Prop:=∀q∈varsT x 0 0,q.1<=400000/\0<=q.2/\q.2<=20000
end
end Go.Q
namespace Go.Q
def vK(n:Nd)(d:Int):List Tr ->Nat ->List (Int×Int)
 |[],_=>[]
 |y::r,i=>varsT y (d+kb n i) 0++vK n d r (i+1)
def iw(f:Int ->Nd ->Tr)(n:Nd)(d:Int):List Tr ->Nat ->List Tr
 |[],_=>[]
 |y::r,i=>mT f y (d+kb n i) 0::iw f n d r (i+1)
theorem Af{f:Int ->Nd ->Tr}{n:Nd}{d:Int}:∀(l:List Tr) (i:Nat),(iw f n d l i).length=l.length
 |[],_=>rfl
 |y::r,i=>by simp[iw,Af r]
section
variable{x:Tr}{f:Int ->Nd ->Tr}{d:Int}
theorem Ag{n:Nd}{ks:List Tr}(l:Ok .tm (.mk n ks))(a:n.op=12):∀y∈ks,Ok .fn y:=λy o=>by
 obtain⟨q,b,p⟩:=l.kids;obtain⟨j,c⟩:=JH o;have i:=iW ks 0 j y b c;rw[show nx Md.tm n (0+j)= .fn by simp[nx,a]]at i;exact⟨i,dD' ks j y p c⟩
theorem FN{n:Nd}{ks:List Tr}(l:Ok .tm (.mk n ks))(h2:n.op≠2)(a:n.op≠12):∀y∈ks,Ok .tm y:=λy o=>by
 obtain⟨q,b,p⟩:=l.kids;obtain⟨j,c⟩:=JH o;have i:=iW ks 0 j y b c;rw[show nx Md.tm n (0+j)= .tm by simp[nx,h2,a]]at i;exact⟨i,dD' ks j y p c⟩
theorem vR{n:Nd}{ks:List Tr}(c:Ok .tm (.mk n ks))(h2:n.op=2):∀y∈ks,∃m,y= .mk m []/\m.op=3:=λy i=>by
 obtain⟨o,b,p⟩:=c.kids;obtain⟨j,l⟩:=JH i;have a:=iW ks 0 j y b l;rw[show nx Md.tm n (0+j)= .am by simp[nx,h2]]at a;obtain⟨m,q⟩:=y;have a:=a.1;simp only[cnt]at a;split at a
 ·rename_i h
  exact⟨m,by rw[List.length_eq_zero_iff.1 (JB a).symm],h.1⟩
 ·cases a
theorem FO{n:Nd}(a:n.op=12):∀(ks:List Tr) (j:Int) (i:Nat),(∀y∈ks,Ok .fn y) ->i%2=0 ->varsK ks n 0 j d=vK n d (ks.flatMap (·.ks)) i
 |[],j,i,_,_=>rfl
 |y::r,j,i,p,hi=>by
  obtain⟨g,ty,bo,rfl,b,_,c,l⟩:=(p y Ud).fn;have q:varsT (.mk g [ty,bo]) (d+arC n 0 j) n.b=varsT ty d 0++varsT bo (d+n.b) 0:=by
   rw[show d+arC n 0 j=d by simp[arC,bi,a]];simp only[varsT,varsK,KY (show ¬ g.op=1 by omega),JD];rw[um c.n13 _ _ 0,um l.n13 _ _ 0,show d+arC g n.b 0=d by simp[arC,b],show d+arC g n.b (0+1)=d+n.b by simp[arC,b]]
  have o:(Tr.mk g [ty,bo]).ks=[ty,bo]:=rfl;simp only[varsK,q,List.flatMap_cons,o,List.cons_append,List.nil_append,vK];rw[FO a r (j+1) (i+1+1) (λz s=>p z (by simp[s])) Uo];have t:kb n i=0:=by simp[kb,a];omega
  have u:kb n (i+1)=n.b:=by simp[kb,a];omega
  rw[t,u];simp
theorem FP{n:Nd}(a:n.op≠12)(b:n.op≠13):∀(ks:List Tr) (i:Nat),(∀y∈ks,Ok .tm y) ->varsK ks n 0 i d=vK n d ks i
 |[],i,_=>rfl
 |y::r,i,c=>by
  have:=FP a b r (i+1) λz j=>c z (by simp[j]);simp only[varsK,vK];rw[show (i:Int)+1=((i+1:Nat):Int) by omega,this,um (c y Ud).n13 _ _ 0];simp[kb,a,arC,b]
theorem Ah(i:Ok .tm x)(h1:x.n.op≠1):varsT x d 0=vK x.n d (kidsT x) 0:=by
 obtain⟨n,b⟩:=x;obtain⟨u,q,p⟩:=i.tm;have h1:n.op≠1:=h1;have e:varsT (.mk n b) d 0=varsK b n 0 0 d:=by simp[varsT,h1]
 rw[e]
 by_cases o:n.op=2
 ·have c:kidsT (.mk n b)=[]:=by simp[kidsT,o]
  rw[c];have:∀(l:List Tr) (j:Int),(∀y∈l,∃m,y= .mk m []/\m.op=3) ->varsK l n 0 j d=[]:=by
   intro l
   induction l with
   |nil=>intros;rfl
   |cons y r s=>
    intro j h;obtain⟨m,rfl,q⟩:=h y Ud;simp only[varsK,varsT,KY (show ¬ m.op=1 by omega),List.nil_append];exact s _ λz t=>h z (by simp[t])
  rw[this b 0 (vR i o)]
  rfl
 by_cases a:n.op=12
 ·have c:kidsT (.mk n b)=b.flatMap (·.ks):=by simp[kidsT,a]
  rw[c];exact FO a b 0 0 (Ag i a) rfl
 ·have c:kidsT (.mk n b)=b:=by simp[kidsT,o,a]
  rw[c];exact FP a p b 0 (FN i o a)
theorem FQ{n:Nd}(c:n.op=12):∀(ks:List Tr) (j:Int) (i:Nat),(∀y∈ks,Ok .fn y) ->i%2=0 ->(mK f ks n 0 j d).flatMap (·.ks)=iw f n d (ks.flatMap (·.ks)) i/\(mK f ks n 0 j d).map (·.n)=ks.map (·.n)
 |[],j,i,_,_=>⟨rfl,rfl⟩
 |y::r,j,i,s,hi=>by
  obtain⟨g,ty,bo,rfl,l,_,o,p⟩:=(s y Ud).fn;obtain⟨t,u⟩:=FQ c r (j+1) (i+1+1) (λz v=>s z (by simp[v])) Uo;have w:mT f (.mk g [ty,bo]) (d+arC n 0 j) n.b= .mk g [mT f ty d 0,mT f bo (d+n.b) 0]:=by
   rw[pf Uo,show d+arC n 0 j=d by simp[arC,bi,c]];simp only[mK];rw[Ae o.n13 _ _ 0,Ae p.n13 _ _ 0,show d+arC g n.b 0=d by simp[arC,l],show d+arC g n.b (0+1)=d+n.b by simp[arC,l]]
  have A:kb n i=0:=by simp[kb,c];omega
  have C:kb n (i+1)=n.b:=by simp[kb,c];omega
  have q:∀a b:Tr,(Tr.mk g [a,b]).ks=[a,b]:=λ_ _=>rfl;have D:∀a b:Tr,(Tr.mk g [a,b]).n=g:=λ_ _=>rfl;simp only[mK,List.flatMap_cons,List.map_cons,w,q,D,t,u,iw,List.cons_append,List.nil_append,A,C,Int.add_zero,and_self]
theorem FR{n:Nd}(a:n.op≠12)(b:n.op≠13):∀(ks:List Tr) (i:Nat),(∀y∈ks,Ok .tm y) ->mK f ks n 0 i d=iw f n d ks i
 |[],i,_=>rfl
 |y::r,i,c=>by
  have:=FR a b r (i+1) λz j=>c z (by simp[j]);simp only[mK,iw];rw[show (i:Int)+1=((i+1:Nat):Int) by omega,this,Ae (c y Ud).n13 _ _ 0];simp[kb,a,arC,b]
theorem Ai(h1:x.n.op≠1):(mT f x d 0).n=x.n:=by
 obtain⟨n,a⟩:=x;rw[pf (show n.op≠1 from h1)]
 rfl
theorem MJ(p:Ok .tm x)(h1:x.n.op≠1):kidsT (mT f x d 0)=iw f x.n d (kidsT x) 0/\atmsT (mT f x d 0)=atmsT x/\funsT (mT f x d 0)=funsT x:=by
 obtain⟨n,q⟩:=x;obtain⟨C,t,s⟩:=p.tm;have h1:n.op≠1:=h1;rw[pf h1]
 by_cases i:n.op=2
 ·have b:∀l,kidsT (.mk n l)=[]:=λl=>by simp[kidsT,i]
  have o:∀l,atmsT (.mk n l)=l.map (·.n):=λl=>KX i;have c:∀l,funsT (.mk n l)=[]:=λl=>KY (show ¬ n.op=12 by omega);rw[b,b,o,o,c,c];refine⟨rfl,?_,rfl⟩;have:∀(l:List Tr) (j:Int),(∀y∈l,∃m,y= .mk m []/\m.op=3) ->(mK f l n 0 j d).map (·.n)=l.map (·.n):=by
   intro l
   induction l with
   |nil=>intros;rfl
   |cons y r u=>
    intro j h;obtain⟨m,rfl,t⟩:=h y Ud;simp only[mK,List.map_cons];rw[pf Uo,u _ λz v=>h z (by simp[v])]
    rfl
  exact this q 0 (vR p i)
 have o:∀l,atmsT (.mk n l)=[]:=λl=>KY i;rw[o,o]
 by_cases a:n.op=12
 ·have b:∀l,kidsT (.mk n l)=l.flatMap (·.ks):=λl=>by simp[kidsT,a]
  have c:∀l,funsT (.mk n l)=l.map (·.n):=λl=>KX a;obtain⟨w,A⟩:=FQ (f:=f) (d:=d) a q 0 0 (Ag p a) rfl;rw[b,b,c,c];exact⟨w,rfl,A⟩
 ·have b:∀l,kidsT (.mk n l)=l:=λl=>by simp[kidsT,i,a]
  have c:∀l,funsT (.mk n l)=[]:=λl=>KY a;rw[b,b,c,c];exact⟨FR a s q 0 (FN p i a),rfl,rfl⟩
theorem MK(a:Ok .tm x)(h1:x.n.op≠1):bB (mT f x d 0)= .agg (fL x.n ((iw f x.n d (kidsT x) 0).map trP) ((atmsT x).map ndP) ((funsT x).map ndP)):=by
 obtain⟨b,c,i⟩:=MJ (f:=f) (d:=d) a h1;show PV.agg (fL _ _ _ _)=_;rw[b,c,i,Ai h1]
theorem Aj{n:Nd}{y:Tr}:∀(l:List Tr) (i:Nat),iw f n d (l++[y]) i=iw f n d l i++[mT f y (d+kb n (i+l.length)) 0]
 |[],i=>by simp[iw]
 |z::r,i=>by
  simp only[List.cons_append,iw,Aj r (i+1),JV];rw[show i+1+r.length=i+(r.length+1) by omega]
end
theorem lW(t:List Nd)(h:t.length<=1000000):VC prog 73 [ah t] (pI (fF t)):=by
 have n:=aq ndP t;refine vf 23 [.tmp 2] τok func73 ?_;refine ae (λg=>?_) (λg=>?_)
 ·exact aF (h3:=by unfold fF;rw[KX Uo];rfl)
 have hr:=EZ' _ t (KJ _) Uo;have a:=CE t;rw[vQ Uo,List.drop_zero]at a;have b:¬ t.length>4096:=Uo
 unfold hY at hr;cases c:kV t with
 |none=>
  rw[c]at hr a;refine af hr ?_;exact aF (h3:=by unfold fF;rw[KY b,KY λq=>by simpa using a.2 q];rfl)
 |some q=>
  obtain⟨x,r⟩:=q;obtain⟨i,o⟩:=Ab c;have j:=KG List.length i;rw[JK]at j;rw[c]at hr a;simp only[Option.map_some,QZ]at hr a;refine af hr ?_;refine ae (λl=>?_) (λl=>?_)
  ·exact aF (h3:=by unfold fF;rw[KY b,KY λq=>by have:=a.2 q;omega];rfl)
  ·exact aF (h3:=by unfold fF;rw[KY b,KX (a.1 Uo)];rfl)
theorem mZ{x:Tr}(a:Wf x):fF (row x)=0:=kx a.ok a.len
theorem vS{t:List Nd}(h:fF t=0):∃x,Wf x/\t=row x:=by
 unfold fF at h;split at h
 ·cases h
 ·split at h
  ·rename_i i a
   obtain⟨x,b⟩:=Option.isSome_iff_exists.1 a;obtain⟨rfl,c⟩:=CB b;exact⟨x,⟨c,Uo⟩,rfl⟩
  ·cases h
theorem iO{x:Tr}(a:Wf x):VC prog 42 [ah (row x)] (.tup [bB x,.bool true]):=by
 have b:=lW (row x) (by have:=a.len;omega);rw[mZ a]at b;have hr:=EZ' _ (row x) (KJ _) (by have:=a.len;omega);have:=Aa a.ok [];rw[JD]at this;unfold hY at hr;rw[this]at hr;refine vf 18 [.cell 2 60,.tmp 3] τok func42 ?_;refine af b ?_;refine vn ?_;refine af hr ?_;exact aF
theorem ji{x:Tr}(a:Wf x):VC prog 85 [ah (row x)] (bG ((kidsT x).map row)):=by
 have o:=aq trP (kidsT x);have n:=gO a.ok;refine cN 29 [.tmp 2] τok func85 ?_;refine aj<|af (iO a) ?_;refine dK 5 1000 39 1 rfl rfl<|aB τok (σ:=Nat) [(3,_)] [(3,_)] (λi=>[(5,.c (.row 1000)),(6,vI i)]) (λi=>[(1000,.rw 39 1 (((kidsT x).take i).map λy=>[ah (row y)]))]) (λi=>i<=(kidsT x).length) (λi=>(kidsT x).length-i) 0 (KV _) ?_;rintro i p;refine aj<|ae (λg=>?_) (λg=>?_)
 ·obtain⟨y,b,q⟩:=az (l:=kidsT x) (k:=i)
  have j:=a.kid b;refine vt i b ?_;refine af (lJ 4096 Uo y j j.len) ?_;refine bg ?_;refine vi ?_;exact au (i+1) (by show i+1<=_;omega) (sw 1000 27) (y':=⟨KG (λl=>some (SE.rw _ _ l)) (by rw[QQ,b];simp[dp];rfl),trivial⟩)
 ·exact aF (h3:=by rw[JG Uo];exact KG PV.sl (by rw[List.map_map];rfl))
theorem vT{x y:Operand}{p q:Nd}{k:PV ->Prop}(j:k (.bool (!decide (p=q)))):nM prog .neq 47 x y (.c (.p (.agg (ndP p)))) (.c (.p (.agg (ndP q)))) k:=by
 refine⟨_,λC ρ va z w l n=>?_,j⟩;have rd:∀{p:Nd} {v:Value},RA C ρ (.c (.p (.agg (ndP p)))) v ->v=jM p:=λ{p v} h=>by
  have h:RV C (.agg (ndP p)) v:=h;cases h with
  |agg A o r i=>
   match o,r with
   |[a,b,c],_=>
    have s:=i 0 _ _ rfl rfl;have t:=i 1 _ _ rfl rfl;have u:=i 2 _ _ rfl rfl;cases s;cases t;cases u
    rfl
 rw[rd l,rd n];exact⟨_,.bool _,Fc x y p q w⟩
theorem qv{a b:List Nd}(ha:a.length<=1000000000)(hb:b.length<=1000000000):VC prog 13 [ah a,ah b] (.bool (decide (a=b))):=by
 have s:=aq ndP a;have t:=aq ndP b;have o:a≠b ->PV.bool false= .bool (decide (a=b)):=λh=>by rw[KH h]
 refine vf 26 [.tmp 4] τok func13 ?_;refine ae (λg=>?_) (λg=>?_)
 ·exact⟨_,_,rfl,rfl,o λh=>by subst h;omega⟩
 refine vl τok (σ:=Nat) [(0,_),(1,_)] (λi=>[(5,vI i)]) (λi=>i<=a.length/\a.take i=b.take i) (λi=>a.length-i) 0 ⟨KV _,Ud⟩ ?_;rintro i ⟨u,j⟩;refine ae (λg=>?_) (λg=>?_)
 ·obtain⟨p,n,v⟩:=az (l:=a) (k:=i)
  obtain⟨q,c,r⟩:=az (l:=b) (k:=i);refine vm i n ?_;refine vm i c ?_;refine vT ?_
  by_cases h:p=q
  ·rw[KU h]
   refine vk ?_;refine vi ?_;exact au (i+1) ⟨Uo,by rw[QQ,QQ,j,n,c,h]⟩
  ·rw[KH h]
   exact vk ⟨_,_,rfl,rfl,o λe=>h (by subst e;rw[n]at c;exact JB c)⟩
 ·exact aF (h3:=by
   rw[JG Uo,JG Uo]at j;rw[KU j]
   rfl)
theorem vU{a:List Nd}(ha:a.length<=1000000):VC prog 30 [ah a] (ah a):=by
 refine vf 6 [.tmp 2] τok func30 ?_;refine va ?_ (gX _);exact aF
theorem vV(l:List Int)(v:Nat)(x y:Int):(l.map iP).set v ((iP x).set 0 (pI y))=(l.set v y).map iP:=by rw[List.map_set];rfl
theorem om{d:List Int}{v:Nat}(h:v<d.length):d[v]?=some (gt d v):=by
 unfold gt;rw[QK,List.getElem?_eq_getElem h]
 rfl
def ML(r:Option (List Int)):PV:=match r with
 |some d=>.tup [.sl (d.map iP),.bool true]
 |none=>.tup [.sl [],.bool false]
theorem FS{vars:Int}{n:Nat}(T:(n:Int)=vars+1)(U:n<=17){os:List aV}(V:Lv.Good n os)(hl:os.length<=64){low:Nat}(s:low<n):VC prog 70 [pI vars,.sl (os.map orP),pI low] (ML (kz n os low)):=by
 have eO:=aq orP os;have ini:=rq os s;refine vf 107 [.tmp 6,.tmp 7] τok func70 ?_;refine vi ?_;refine D0 n ?_ T.symm T.symm;refine aB τok (σ:=Nat×List Int) [(0,_),(1,_),(2,_),(6,_),(7,_),(8,_)] [] (λq=>[(9,vI q.1)]) (λq=>[(17,.rw 3 1 (q.2.map iP))]) (λq=>q.1<=n/\q.2.length=n/\∀j,j<q.1 ->q.2[j]?=some non) (λq=>n-q.1) (0,List.replicate n 0) ⟨KV _,Ud,λj A=>absurd A Ud⟩ ?_ (y1:=⟨KG (λl=>some (SE.rw _ _ l)) (by rw[List.map_replicate];rfl),trivial⟩);rintro⟨v,l⟩ ⟨L,C,a⟩;simp only at L C a;refine aj<|ae (λg=>?_) (λg=>?_)
 ·simp only at g
  have W:=om (d:=l) (v:=v) Uo;refine vm v W ?_;refine ef W<|vi ?_;refine au (v+1,l.set v non) ⟨Us,by simp[C],λj A=>?_⟩ (y':=⟨KG (λl=>some (SE.rw _ _ l)) (vV l v _ _),trivial⟩);simp only at A ⊢;rw[List.getElem?_set]
  by_cases e:v=j
  ·rw[KX e,KX Uo]
  ·rw[KY e]
   exact a j Uo
 simp only at g;have M:l=List.replicate n non:=by
  refine List.ext_getElem? λj=>?_
  by_cases A:j<n
  ·rw[a j Uo,List.getElem?_replicate,KX A]
  ·rw[QF Uo,QF Uk]
 subst M;refine vm low (om (by simpa using s)) ?_;refine ef (om (by simpa using s))<|aB τok (σ:=Nat×List Int) [(0,_),(1,_),(2,_),(6,_),(7,_),(8,_)] [] (λq=>[(10,vI q.1)]) (λq=>[(17,.rw 3 1 (q.2.map iP))]) (λq=>q.1<=n+1/\Inv n os low (64000*q.1) q.2/\kz n os low=mw n os (n+1-q.1) q.2) (λq=>n+1-q.1) (0,(List.replicate n non).set low 0) ⟨KV _,by simpa using ini.1,rfl⟩ ?_ (y1:=⟨KG (λl=>some (SE.rw _ _ l)) (vV _ low _ _),trivial⟩);rintro⟨r,d⟩ ⟨L,C,a⟩;simp only at L C a;refine aj<|vi ?_;refine ae (λg=>?_) (λg=>?_)
 ·simp only at g
  obtain⟨c,Z⟩:∃c,n+1-r=c+1:=⟨n-r,Uo⟩
  rw[Z]at a;simp only[mw]at a;have hz:=xQ C Uo;refine aB τok (σ:=Nat) [(0,_),(1,_),(2,_),(6,_),(7,_),(8,_),(10,_)] [] (λv=>[(11,.c (.p (.bool (aT bJ v (d,false)).2))),(12,vI v)]) (λv=>[(17,.rw 3 1 ((aT bJ v (d,false)).1.map iP))]) (λv=>v<=n) (λv=>n-v) 0 (KV _) ?_;rintro v k1;obtain⟨X,_⟩:=hz v k1;have a0:=X.len;refine aj<|ae (λk2=>?_) (λk2=>?_)
  ·have x0:=om (d:=(aT bJ v (d,false)).1) (v:=0) Uo
   have u:=om (d:=(aT bJ v (d,false)).1) (v:=v) Uo;have e:aT bJ (v+1) (d,false)=bJ v (aT bJ v (d,false)):=rfl;have w:¬ (gt (aT bJ v (d,false)).1 0≠non/\gt (aT bJ v (d,false)).1 v<gt (aT bJ v (d,false)).1 0) ->bJ v (aT bJ v (d,false))=aT bJ v (d,false):=λh=>KY h;refine vm 0 x0 ?_;refine ef x0<|ae (λD=>?_) (λD=>?_)
   ·refine vm v u ?_
    refine ef u<|vm 0 x0 ?_;refine ef x0<|ae (λz=>?_) (λz=>?_)
    ·have t:bJ v (aT bJ v (d,false))=((aT bJ v (d,false)).1.set v (gt (aT bJ v (d,false)).1 0),true):=KX ⟨D,z⟩
     refine vk ?_;refine vm 0 x0 ?_;refine ef x0<|vm v u ?_;refine ef u<|vi ?_;exact au (v+1) (by show v+1<=n;omega) (x:=⟨by rw[e,t];rfl,rfl,trivial⟩) (y':=⟨KG (λl=>some (SE.rw _ _ l)) (by rw[e,t];exact vV _ _ _ _),trivial⟩)
    ·refine vk ?_
     refine vi ?_;exact au (v+1) (by show v+1<=n;omega) (x:=⟨by rw[e,w λq=>z q.2];rfl,rfl,trivial⟩) (y':=⟨by rw[e,w λq=>z q.2];rfl,trivial⟩)
   ·refine vk ?_
    refine vi ?_;exact au (v+1) (by show v+1<=n;omega) (x:=⟨by rw[e,w λq=>D q.1];rfl,rfl,trivial⟩) (y':=⟨by rw[e,w λq=>D q.1];rfl,trivial⟩)
  have O:v=n:=Uo
  subst O;refine aB τok (σ:=Nat) [(0,_),(1,_),(2,_),(6,_),(7,_),(8,_),(10,_)] [] (λi=>[(11,.c (.p (.bool ((os.take i).foldl cC (aT bJ v (d,false))).2))),(13,vI i)]) (λi=>[(17,.rw 3 1 (((os.take i).foldl cC (aT bJ v (d,false))).1.map iP))]) (λi=>i<=os.length) (λi=>os.length-i) 0 (KV _) ?_;rintro i D;have P:=xR V (os.take i) (64000*r) (aT bJ v (d,false)) (λo E=>List.mem_of_mem_take E) X (by rw[VJ];omega);obtain⟨b,_⟩:=P;have R:=b.len;rw[VJ]at b;refine aj<|ae (λz=>?_) (λz=>?_)
  ·obtain⟨o,E,hd⟩:=az (l:=os) (k:=i)
   have S:=V o (JQ E);unfold Rg at S;have e:(os.take (i+1)).foldl cC (aT bJ v (d,false))=cC ((os.take i).foldl cC (aT bJ v (d,false))) o:=by
    rw[QQ,E,Option.toList,List.foldl_append]
    rfl
   have Y:=b.bd o.low.toNat Uo;have x0:=om (d:=((os.take i).foldl cC (aT bJ v (d,false))).1) (v:=o.low.toNat) Uo;have u:=om (d:=((os.take i).foldl cC (aT bJ v (d,false))).1) (v:=o.high.toNat) Uo;have w:¬ (gt ((os.take i).foldl cC (aT bJ v (d,false))).1 o.low.toNat≠non/\gt ((os.take i).foldl cC (aT bJ v (d,false))).1 o.high.toNat<gt ((os.take i).foldl cC (aT bJ v (d,false))).1 o.low.toNat+o.add) ->cC ((os.take i).foldl cC (aT bJ v (d,false))) o=((os.take i).foldl cC (aT bJ v (d,false))):=λh=>KY h;refine vm i E ?_;refine vm o.low.toNat x0 ?_;refine ef x0<|ae (λF=>?_) (λF=>?_)
   ·have Y:=Y.resolve_left F
    refine vm o.high.toNat u ?_;refine ef u<|vm o.low.toNat x0 ?_;refine ef x0<|vi ?_;refine ae (λI=>?_) (λI=>?_)
    ·have t:cC ((os.take i).foldl cC (aT bJ v (d,false))) o=(((os.take i).foldl cC (aT bJ v (d,false))).1.set o.high.toNat (gt ((os.take i).foldl cC (aT bJ v (d,false))).1 o.low.toNat+o.add),true):=KX ⟨F,I⟩
     refine vk ?_;refine vm o.low.toNat x0 ?_;refine ef x0<|vi ?_;refine vm o.high.toNat u ?_;refine ef u<|vk ?_;refine vi ?_;exact au (i+1) (by show i+1<=_;omega) (x:=⟨by rw[e,t];rfl,rfl,trivial⟩) (y':=⟨KG (λl=>some (SE.rw _ _ l)) (by rw[e,t];exact vV _ _ _ _),trivial⟩)
    ·refine vk ?_
     refine vi ?_;exact au (i+1) (by show i+1<=_;omega) (x:=⟨by rw[e,w λq=>I q.2];rfl,rfl,trivial⟩) (y':=⟨by rw[e,w λq=>I q.2];rfl,trivial⟩)
   ·refine vk ?_
    refine vi ?_;exact au (i+1) (by show i+1<=_;omega) (x:=⟨by rw[e,w λq=>F q.1];rfl,rfl,trivial⟩) (y':=⟨by rw[e,w λq=>F q.1];rfl,trivial⟩)
  ·rw[JG Uo]at b R
   have er:cd v os d=os.foldl cC (aT bJ v (d,false)):=rfl;have K:(os.take i).foldl cC (aT bJ v (d,false))=cd v os d:=by rw[JG Uo];rfl
   rw[<- er]at b;refine br (λH=>?_) (λH=>?_)
   ·rw[K]at H
    rw[KY (by simpa using H)]at a;exact aF (h3:=by rw[a,<- K];rfl)
   ·rw[K]at H
    rw[KX (by simpa using H)]at a;refine vi ?_;exact au (r+1,(cd v os d).1) ⟨Us,b.mono Us,by rw[a,show v+1-(r+1)=c by omega]⟩ (y':=⟨by rw[<- K];rfl,trivial⟩)
 ·simp only at g
  rw[show n+1-r=0 by omega]at a;exact aF (h3:=by rw[a];rfl)
def j5(l:List Atom)(i:Nat):Int:=if i=0 then -1 else ((l[i-1]?).map (·.var)).getD 0
theorem sS{l:List Atom}(hl:l.length<=1000000)(vars:Int):VC prog 96 [cw l,pI vars] (.bool (cL l vars)):=by
 have F:=aq atP l;have n:(vars<0 \/16<vars \/l.length<1 \/4<l.length) ->PV.bool false= .bool (cL l vars):=λh=>by unfold cL;rw[KX h]
 refine vf 75 [.tmp 4] τok func96 ?_;refine ae (λo=>?_) (λo=>?_)
 ·exact⟨_,_,rfl,rfl,n (.inl o)⟩
 refine ae (λp=>?_) (λp=>?_)
 ·exact⟨_,_,rfl,rfl,n (.inr (.inl p))⟩
 refine ae (λr=>?_) (λr=>?_)
 ·exact⟨_,_,rfl,rfl,n Uo⟩
 refine ae (λs=>?_) (λs=>?_)
 ·exact⟨_,_,rfl,rfl,n Uo⟩
 have t:cL l vars=fQ vars l (-1):=by unfold cL;rw[KY Uo]
 rw[t];refine vl τok (σ:=Nat) [(0,_),(1,_)] (λi=>[(5,vI i)]) (λi=>i<=l.length/\ -1<=j5 l i/\fQ vars l (-1)=fQ vars (l.drop i) (j5 l i)) (λi=>l.length-i) 0 ⟨KV _,by simp[j5],rfl⟩ ?_;rintro i ⟨H,I,c⟩;refine ae (λg=>?_) (λg=>?_)
 ·obtain⟨x,j,u⟩:=az (l:=l) (k:=i)
  rw[u]at c;simp only[fQ]at c;have a:(x.var<=j5 l i \/vars<x.var \/x.add<0 \/1000<x.add) ->PV.bool false= .bool (fQ vars l (-1)):=λh=>by rw[c,KX h]
  refine vm i j ?_;refine ae (λv=>?_) (λv=>?_)
  ·exact⟨_,_,rfl,rfl,a Uo⟩
  refine vm i j ?_;refine ae (λw=>?_) (λw=>?_)
  ·exact⟨_,_,rfl,rfl,a Uo⟩
  refine vm i j ?_;refine ae (λz=>?_) (λz=>?_)
  ·exact⟨_,_,rfl,rfl,a Uo⟩
  refine vm i j ?_;refine ae (λA=>?_) (λA=>?_)
  ·exact⟨_,_,rfl,rfl,a Uo⟩
  have nx:j5 l (i+1)=x.var:=by unfold j5;rw[KY Uo,Nat.add_sub_cancel,j];rfl
  have b:j5 l i<x.var ->fQ vars l (-1)=fQ vars (l.drop (i+1)) (j5 l (i+1)):=λh=>by rw[c,KY Uo,nx]
  refine ae (λC=>?_) (λC=>?_)
  ·obtain⟨y,q⟩:∃y,l[i-1]?=some y:=⟨_,gE⟩
   have D:j5 l i=y.var:=by unfold j5;rw[KY Uo,q];rfl
   refine vm i j ?_;refine vi ?_;refine vm (i-1) q ?_;refine ae (λE=>?_) (λE=>?_)
   ·refine vk ?_
    exact⟨_,_,rfl,rfl,a Uo⟩
   ·refine vk ?_
    refine vi ?_;exact au (i+1) ⟨Uo,Uo,b Uo⟩
  ·have D:j5 l i= -1:=by unfold j5;rw[KX Uo]
   refine vk ?_;refine vi ?_;exact au (i+1) ⟨Uo,Uo,b Uo⟩
 ·rw[JY Uo]at c
  exact aF (h3:=by rw[c];rfl)
theorem FT{vars:Int}{o:aV}:da vars o=true↔(o.low<0 \/vars<o.low \/o.high<0 \/vars<o.high \/o.add< -1000 \/1000<o.add):=by
 unfold da;exact decide_eq_true_iff
theorem FU{vars:Int}{os:List aV}(hl:os.length<=1000000):VC prog 40 [pI vars,.sl (os.map orP)] (pI (iC vars os)):=by
 have O:=aq orP os;refine vf 73 [.tmp 4] τok func40 ?_;refine ae (λw=>?_) (λw=>?_)
 ·exact aF (h3:=by unfold iC;rw[KX (.inl w)];rfl)
 refine ae (λz=>?_) (λz=>?_)
 ·exact aF (h3:=by unfold iC;rw[KX (.inr z)];rfl)
 refine ae (λD=>?_) (λD=>?_)
 ·exact aF (h3:=by unfold iC;rw[KY Uo,KX Uo];rfl)
 have E:iC vars os=if os.any (da vars)then 1 else if (List.range (vars.toNat+1)).all (λv=>(kz (vars.toNat+1) os v).isSome)then 0 else 7:=by unfold iC;rw[KY Uo,KY Uo]
 rw[E];refine vl τok (σ:=Nat) [(0,_),(1,_),(4,_)] (λi=>[(5,vI i)]) (λi=>i<=os.length/\∀o∈os.take i,da vars o=false) (λi=>os.length-i) 0 ⟨KV _,Ud⟩ ?_;rintro i ⟨P,s⟩;refine ae (λg=>?_) (λg=>?_)
 ·obtain⟨o,c,R⟩:=az (l:=os) (k:=i)
  have a:(o.low<0 \/vars<o.low \/o.high<0 \/vars<o.high \/o.add< -1000 \/1000<o.add) ->pI 1=pI (if os.any (da vars)then 1 else if (List.range (vars.toNat+1)).all (λv=>(kz (vars.toNat+1) os v).isSome)then 0 else 7):=λh=>by
   rw[KX (List.any_eq_true.2 ⟨o,JQ c,FT.2 h⟩)]
  refine vm i c ?_;refine ae (λA=>?_) (λA=>?_)
  ·exact⟨_,_,rfl,rfl,a Uo⟩
  refine ae (λq=>?_) (λq=>?_)
  ·exact⟨_,_,rfl,rfl,a Uo⟩
  refine ae (λt=>?_) (λt=>?_)
  ·exact⟨_,_,rfl,rfl,a Uo⟩
  refine ae (λF=>?_) (λF=>?_)
  ·exact⟨_,_,rfl,rfl,a Uo⟩
  refine ae (λH=>?_) (λH=>?_)
  ·exact⟨_,_,rfl,rfl,a Uo⟩
  refine ae (λI=>?_) (λI=>?_)
  ·exact⟨_,_,rfl,rfl,a Uo⟩
  refine vi ?_;refine au (i+1) ⟨Uo,λp C=>?_⟩;rw[QQ,c,Option.toList]at C;rcases List.mem_append.1 C with h|h
  ·exact s p h
  ·obtain rfl:=List.mem_singleton.1 h
   cases K:da vars p with
   |false=>rfl
   |true=>have:=FT.1 K;omega
 rw[JG Uo]at s;have b:os.any (da vars)=false:=by
  rw[List.any_eq_false];exact λo c=>by simp[s o c]
 rw[b];have L:=uz Uo b;refine vl τok (σ:=Nat) [(0,_),(1,_),(4,_)] (λv=>[(7,vI v)]) (λv=>v<=vars.toNat+1/\∀u,u<v ->(kz (vars.toNat+1) os u).isSome=true) (λv=>vars.toNat+1-v) 0 ⟨KV _,λu r=>absurd r Uo⟩ ?_;rintro v ⟨A,q⟩;refine ae (λt=>?_) (λt=>?_)
 ·have M:=FS (vars:=vars) (n:=vars.toNat+1) Uo Uo L Uo (low:=v) Uo
  refine af M ?_;cases j:kz (vars.toNat+1) os v with
  |none=>
   exact aF (h3:=by
    rw[KY UO,KY]
    ·rfl
    ·intro h
     have:=List.all_eq_true.1 h v (List.mem_range.2 Uo);rw[j]at this;cases this)
  |some d=>
   refine vi ?_;refine au (v+1) ⟨Uo,λu r=>?_⟩
   by_cases e:u=v
   ·rw[e,j];rfl
   ·exact q u Uo
 ·exact aF (h3:=by
   rw[KY UO,KX]
   ·rfl
   ·exact List.all_eq_true.2 λu r=>q u (by have:=List.mem_range.1 r;omega))
theorem check_of'{vars:Int}{os:List aV}:(∃g,fc vars os= .ok g/\iC vars os=0) \/∃n,fc vars os= .error n/\iC vars os=n/\n≠0:=by
 have a:=Dq vars os;cases b:fc vars os with
 |ok g=>rw[b]at a;exact .inl ⟨g,rfl,a⟩
 |error n=>
  rw[b]at a;exact .inr ⟨n,rfl,a,by rcases closedF_err b with ⟨_,h⟩|⟨_,_,h⟩|⟨_,_,_,h⟩|⟨_,_,_,h,_⟩<;>omega⟩
theorem Ak{vars:Int}{os:List aV}{a b:List Atom}(X:os.length<=1000000)(ha:a.length<=1000000)(hb:b.length<=1000000):VC prog 52 [pI vars,.sl (os.map orP),cw a,cw b] (.bool (gb vars os a b)):=by
 have eA:=aq atP a;have eB:=aq atP b;have M:=FU (vars:=vars) X;have O:=sS ha vars;have P:=sS hb vars;refine vf 86 [.tmp 8] τok func52 ?_;refine af M ?_;rcases check_of' (vars:=vars) (os:=os)with ⟨g,K,Y⟩|⟨n,K,Y,hn⟩
 ·have A:gb vars os a b=(cL a vars && cL b vars && a.all λx=>b.any (dx g x)):=by unfold gb;rw[K]
  obtain⟨C,Z,a0,r,D⟩:=Dg K;have o:=uz Z D;refine vn ?_;refine bN O (λE=>?_) (λE=>?_)
  ·refine bN P (λL=>?_) (λL=>?_)
   ·rw[A,E,L]
    have aa:=jO E;have ab:=jO L;refine vl τok (σ:=Nat) [(0,_),(1,_),(2,_),(3,_)] (λi=>[(9,vI i)]) (λi=>i<=a.length/\∀x∈a.take i,b.any (dx g x)=true) (λi=>a.length-i) 0 ⟨KV _,Ud⟩ ?_;rintro i ⟨g1,R⟩;refine ae (λk1=>?_) (λk1=>?_)
    ·obtain⟨x,F,hd⟩:=az (l:=a) (k:=i)
     obtain⟨x1,x2,x3,x4⟩:=aa.2 x (JQ F);have s:x.var.toNat<vars.toNat+1:=Uo
     obtain⟨d,u⟩:=Do Uo o r C s;obtain⟨dl,dv⟩:=I3 Uo o r C s u;have ini:=rq os s;have S:=(uy o r _ 0 _ d ini.1 Uo u).1.bd;have U:=FS (vars:=vars) (n:=vars.toNat+1) Uo Uo o r s;rw[u,show ((x.var.toNat:Nat):Int)=x.var by omega]at U;refine vm i F ?_;refine af U ?_;refine vl τok (σ:=Nat) [(0,_),(1,_),(2,_),(3,_),(9,_),(10,_)] (λj=>[(12,.c (.p (.bool ((b.take j).any (dx g x))))),(13,vI j)]) (λj=>j<=b.length) (λj=>b.length-j) 0 (KV _) ?_;rintro j k2;refine ae (λk3=>?_) (λk3=>?_)
     ·obtain⟨y,H,hd⟩:=az (l:=b) (k:=j)
      obtain⟨y1,y2,y3,y4⟩:=ab.2 y (JQ H);have I:=om (d:=d) (v:=y.var.toNat) Uo;have w:(b.take (j+1)).any (dx g x)=((b.take j).any (dx g x)||dx g x y):=by
       rw[QQ,H,Option.toList,List.any_append];simp
      have ev:=λ(_:Unit)=>dv y.var.toNat Uo;have V:=S y.var.toNat Uo;rw[show ((x.var.toNat:Nat):Int)=x.var by omega,show ((y.var.toNat:Nat):Int)=y.var by omega]at ev;refine vm j H ?_;refine vm y.var.toNat I ?_;refine ae (λq=>?_) (λq=>?_)
      ·have V:=V.resolve_left q
       obtain⟨p,T,a1,_⟩:=(ev ()).resolve_left λh=>q h.2
       clear ev
       have t:dx g x y=decide (x.add-y.add<=p):=by unfold dx;rw[T]
       refine vm i F ?_;refine vm j H ?_;refine vm y.var.toNat I ?_;refine vm j H ?_;refine vi ?_;refine ae (λk5=>?_) (λk5=>?_)
       ·refine vk ?_
        refine vi ?_;exact au (j+1) (by show j+1<=_;omega) (x:=⟨by rw[w,t,KU Uo,Bool.or_true];rfl,rfl,trivial⟩)
       ·refine vk ?_
        refine vi ?_;exact au (j+1) (by show j+1<=_;omega) (x:=⟨by rw[w,t,KH Uo,Bool.or_false];rfl,rfl,trivial⟩)
      ·have t:dx g x y=false:=by
        rcases ev ()with ⟨h,_⟩|⟨p,h,h2,h3⟩
        ·unfold dx;rw[h]
        ·exact absurd h2 (by rw[show gt d y.var.toNat=non from QY q];exact λe=>h3 e.symm)
       refine vk ?_;refine vi ?_;exact au (j+1) (by show j+1<=_;omega) (x:=⟨by rw[w,t,Bool.or_false];rfl,rfl,trivial⟩)
     ·have w:(b.take j).any (dx g x)=b.any (dx g x):=by rw[JG Uo]
      refine br (λq=>?_) (λq=>?_)
      ·have q:b.any (dx g x)=false:=by rw[<- w];simpa using q
       exact aF (h3:=by
        have:(a.all λx=>b.any (dx g x))=false:=by
         rw[List.all_eq_false];exact⟨x,JQ F,by rw[q];decide⟩
        rw[this]
        rfl)
      ·have q:b.any (dx g x)=true:=by rw[<- w];simpa using q
       refine vi ?_;refine au (i+1) ⟨Uo,λz W=>?_⟩;rw[QQ,F,Option.toList]at W;rcases List.mem_append.1 W with h|h
       ·exact R z h
       ·obtain rfl:=List.mem_singleton.1 h
        exact q
    ·rw[JG Uo]at R
     exact aF (h3:=by
      have:(a.all λx=>b.any (dx g x))=true:=List.all_eq_true.2 R;rw[this]
      rfl)
   ·exact aF (h3:=by rw[A,E,L];rfl)
  ·exact aF (h3:=by rw[A,E];rfl)
 ·have A:gb vars os a b=false:=by unfold gb;rw[K]
  refine vy ?_;exact aF (h3:=by rw[A];rfl)
def jE(l:List Int):PV:=.sl (l.map iP)
def qw(B:ak)(pl:List Int):PV:=.agg [.int .i64 B.vars,.sl (B.orders.map orP),.sl (B.ents.map bI),.int .i64 B.nat,.sl (B.prims.map prP),jE pl]
theorem br_int:Br2 wG' iP I64:=⟨λ_=>rfl,λx b C c i h=>by
 match c,i with
 |[a],_=>exact⟨by rw[fK (h 0 _ a rfl rfl)],b⟩,λ_ _ _ h=>h.2⟩
theorem MM{f:FuncId}{t:List PV}{l:List Int}(n:dO prog f)(h:∀(w:World) (C:Mem) (vs:List Value),Sub C w ->db C t vs ->Calls prog f vs.toArray w λe w'=>∃v,e= .returned v/\Own wG' 250 w.heap.size w' v l/\Kp [] w w'):VO prog f t 250 1 (l.map iP):=.of ⟨n,λw C vs hS E=>by
 refine(h w C vs hS E).mono λe w' ⟨u,F,A,k⟩=>?_;obtain⟨r,q1,D⟩:=A.row;refine⟨u,C,r,F,by rw[KF];exact q1,λx c=>by obtain⟨_,_,rfl⟩:=List.mem_map.1 c;rfl,by rw[KF];exact D.length,λi P x H c=>?_,⟨hS.tr k,λ_ _ _ h=>h,λb o v h=>.inl ⟨o,v,h⟩,k⟩,λg I b o z K=>?_⟩
 ·rw[JX]at c
  obtain⟨y,L,rfl⟩:=Option.map_eq_some_iff.1 c;obtain⟨M,a,rfl,_⟩:=D.get L;rw[H]at a;obtain rfl:=JB a;refine⟨rfl,λj p q s O=>?_⟩
  match j,s,O with
  |0,rfl,rfl=>exact⟨rfl,.int _ _⟩
  |j+1,s,_=>cases s
 ·have:=A.block g (by rw[<- nJ q1];exact I)
  have:=(hS b o z K).lt;omega⟩
section
variable{Q:Nd ->Prop}{N:Int}{x y:Tr}{m:List Int}
theorem qx{pl:List Int}(hm:Mk pl m)(a:pl.length<=1000):∀v∈m,I64 v:=λv b=>by
 rcases hm v b with rfl|rfl|rfl|⟨j,c,rfl⟩<;>exact⟨Uo,Uo⟩
theorem qy(hm:∀v∈m,I64 v)(hl:m.length<=1000000):VO prog 227 [jE m] 250 1 (m.map iP):=MM ⟨_,func227,rfl,UO⟩ λw C o hS b=>by
 obtain⟨v,rfl,i⟩:=EI b;obtain⟨a,c,rfl,j,p⟩:=br_int.sl ⟨Uo,hm⟩ i;exact(Mb hS m a c j hl).2.mono λe q ⟨⟨u,l,n⟩,k⟩=>⟨u,l,n,k⟩
theorem Am{v:Int}(b:0<=v)(hl:m.length<=1000000):VC prog 249 [jE m,pI v] (pI (bW m v)):=by
 have c:=aq iP m;refine vf 17 [.tmp 4] τok func249 ?_;unfold bW;refine ae (λg=>?_) (λg=>?_)
 ·have g:v≥((m.map iP).length:Int):=g
  rw[KX Uo];exact aF
 ·have g:¬ v≥((m.map iP).length:Int):=g
  rw[KY Uo];obtain⟨u,a,_⟩:=az (l:=m) (k:=m.length-1-v.toNat);refine vi ?_;refine vi ?_;refine vm (p:=iP) (m.length-1-v.toNat) a ?_ Uo;rw[QK,a];exact aF
theorem vW(a:Ft Q N x):VC prog 226 [ah (row x)] (.tup [ah (row (headT x)),bG ((argsT x).map row)]):=LH a.ok a.len
theorem MN(b:Ft Q N x)(hl:m.length<=1000000):VC prog 250 [ah (row x),jE m] (.bool (jz x m)):=by
 have i:=aC b.head;have j:=dn b.head.ok.pl;unfold jz;refine vf 26 [.tmp 4] τok func250 ?_;refine af (vW b) ?_;refine aM 0 (aN i) ?_;refine ae (λg=>?_) (λg=>?_)
 ·rw[KU (p:=(headT x).n.op=1) g,Bool.true_and]
  refine aM 0 (aN i) ?_;refine af (Am (m:=m) (v:=(headT x).n.a) j.2.2.1 hl) ?_;refine ae (λc=>?_) (λc=>?_)
  ·rw[KU (p:=bW m (headT x).n.a=2) c]
   exact aF
  ·rw[KH (p:=bW m (headT x).n.a=2) c]
   exact aF
 ·rw[KH (p:=(headT x).n.op=1) g,Bool.false_and]
  exact aF
end
def sT(B:ak)(pl:List Int)(g:Nat)(rc:RcF):Prop:=∀(N:Int) (x:Tr) (m:List Int),Ft (QB B) N x ->Mk pl m ->m.length+4*(row x).length<=100000 ->(row x).length<=g ->VC prog 228 [qw B pl,ah (row x),jE m] (.bool (rc x m))
section
variable{B:ak}{pl:List Int}{g:Nat}{rc:RcF}{N:Int}{m:List Int}
theorem An(q:sT B pl g rc){ys:List Tr}{L:List (List PV)}(r:L=(ys.map row).map rP)(o:∀y∈ys,Ft (QB B) N y/\m.length+4*(row y).length<=100000/\(row y).length<=g)(hl:ys.length<=100000)(hm:Mk pl m):VC prog 248 [qw B pl,jE m,.sl L] (.bool (ys.all λy=>rc y m)):=by
 subst r;generalize b:(ys.all λy=>rc y m)=c;have t:=aq rP (ys.map row);have u:=aq row ys;refine cN 21 [.tmp 6] τok func248 ?_;refine aj<|aB τok (σ:=Nat) [(1,_),(3,_),(9,_),(10,_)] [(3,_)] (λi=>[(11,vI i)]) (λ_=>[]) (λi=>i<=ys.length/\((ys.drop i).all λy=>rc y m)=c) (λi=>ys.length-i) 0 ⟨KV _,b⟩ ?_
 clear b
 rintro i ⟨v,a⟩;refine aj<|ae (λj=>?_) (λj=>?_)
 ·have j:(i:Int)<(((ys.map row).map rP).length:Int):=j
  obtain⟨y,p,s⟩:=az (l:=ys) (k:=i);rw[s,List.all_cons]at a;obtain⟨f1,f2,f3⟩:=o y (JQ p);have n:=q N y m f1 hm f2 f3;refine aA i (x:=row y) (by rw[JX,p];rfl) ?_;cases hr:rc y m with
  |false=>
   rw[hr]at n a;have a:false=c:=a;subst a;refine af n ?_;exact aF
  |true=>
   rw[hr]at n;rw[hr,Bool.true_and]at a;refine af n ?_;refine vi ?_;exact au (i+1) ⟨Uo,a⟩
 ·have j:¬ (i:Int)<(((ys.map row).map rP).length:Int):=j
  rw[List.drop_of_length_le Uo]at a;have a:true=c:=a;subst a;exact aF
end
theorem kW{α β:Type}(f:α ->β)(l:List α)(x:α):(l++[x]).map f=l.map f++[f x]:=Ud
section
variable{B:ak}{pl:List Int}{g:Nat}{rc:RcF}{N:Int}{m:List Int}{x:Tr}
theorem Ao(D:sT B pl g rc)(j:Ft (QB B) N x)(z:pl.length<=1000)(hm:Mk pl m)(i:m.length+4*(row x).length<=100000)(u:(row x).length<=g)(n:Nat)(A:n<=1000):VC prog 262 [qw B pl,ah (row x),pI n,jE m] (.bool (gA rc n x m)):=by
 generalize r:gA rc n x m=t;refine cN 42 [.tmp 8] τok func262 ?_;refine aj<|gV (qy (qx hm z) Uo) ?_;refine aB τok (σ:=Nat×Int×Tr×List Int) [(4,_)] [(4,_)] (λq=>[(1,vP (ah (row q.2.2.1))),(2,vI q.1),(3,.c (.row 1000))]) (λq=>[(1000,.rw 250 1 (q.2.2.2.map iP))]) (λq=>q.1<=1000/\Ft (QB B) q.2.1 q.2.2.1/\Mk pl q.2.2.2/\q.2.2.2.length+4*(row q.2.2.1).length<=100000/\(row q.2.2.1).length<=g/\gA rc q.1 q.2.2.1 q.2.2.2=t) (λq=>q.1) (n,N,x,m) ⟨A,j,hm,i,u,r⟩ ?_ (f:=sw 1000 11)
 clear r j hm i u
 rintro⟨n,N,x,m⟩ ⟨A,j,hm,i,u,b⟩;simp only at A j hm i u b;have E:=aC j;have s:gA rc n x m=rc x m ->VC prog 228 [qw B pl,ah (row x),jE m] (.bool t):=λh=>by
  rw[<- b,h];exact D N x m j hm i u
 dsimp only
 refine aj<|ae (λv=>?_) (λv=>?_)
 ·have v:(n:Int)>0:=v
  obtain⟨k,rfl⟩:∃k,n=k+1:=⟨n-1,Uo⟩
  refine aM 0 (aN E) ?_;refine ae (λo=>?_) (λo=>?_)
  ·have o:x.n.op=5:=o
   simp only[gA,KX o]at b;obtain⟨_,f0,f1⟩:=eV j (.inr o);obtain⟨r1,r2,_⟩:=nW j.ok (.inr o);have C:=KG List.length r2;simp only[JK,JV]at C;have w:=D N (kidD x 0) m f0 hm Uo Uo;refine af (endP j (a:=[x.n]) (y:=kidD x 0) (q:=row (kidD x 1)) r1 f0.ok rfl) ?_;refine bO 1 (1+(row (kidD x 0)).length) ?_ (cT _) (h4:=by rw[KF];omega);rw[dL (p:=1) (n:=1+(row (kidD x 0)).length) r1 rfl rfl];cases hr:rc (kidD x 0) m with
   |false=>
    rw[hr]at w b;have b:false=t:=b;subst b;refine nR w ?_;exact kA9
   |true=>
    rw[hr]at w;rw[hr,Bool.true_and]at b;refine nR w ?_;refine vk ?_;refine bg ?_ (hb:=Uk);refine bO (1+(row (kidD x 0)).length) (row x).length ?_ (cT _) (h1:=rfl) (h2:=by rw[KF]) (h3:=Uo) (h4:=by rw[KF];omega);rw[dL (a:=x.n::row (kidD x 0)) (y:=kidD x 1) (q:=[]) (by rw[JD];exact r2) (by rw[JV];omega) (by rw[JV];omega)];refine vi ?_;refine au (k,N+1,kidD x 1,m++[2]) ⟨Us,f1,hm.snoc Uo,by simp only[JK,List.length_singleton];omega,Us,b⟩ (sw 1000 34) (x:=⟨rfl,KG (λn:Int=>some (vI n)) Us,rfl,trivial⟩) (y':=⟨KG (λl=>some (SE.rw _ _ l)) (kW iP m 2).symm,trivial⟩)
  ·have o:¬ x.n.op=5:=o
   refine af (s (by simp only[gA,KY o])) ?_;exact aF
 ·have v:¬ (n:Int)>0:=v
  obtain rfl:n=0:=Uo
  refine af (s rfl) ?_;exact aF
theorem MO(F:sT B pl g rc)(o:Ft (QB B) N x)(D:pl.length<=1000)(hm:Mk pl m)(j:m.length+4*(row x).length<=100000)(w:(row x).length<=g)(p:Nat)(L:p<=1000):VC prog 208 [qw B pl,ah (row x),pI p,jE m] (.bool (iq rc (p+1) x m)):=by
 generalize u:iq rc (p+1) x m=s;refine cN 47 [.tmp 8] τok func208 ?_;refine aj<|gV (qy (qx hm D) Uo) ?_;refine aB τok (σ:=Nat×Int×Tr×List Int) [(2,_),(4,_)] [(4,_)] (λq=>[(1,vP (ah (row q.2.2.1))),(3,.c (.row 1000)),(9,vI q.1)]) (λq=>[(1000,.rw 250 1 (q.2.2.2.map iP))]) (λq=>q.1<=p+1/\Ft (QB B) q.2.1 q.2.2.1/\Mk pl q.2.2.2/\q.2.2.2.length+4*(row q.2.2.1).length<=100000/\(row q.2.2.1).length<=g/\iq rc (p+1-q.1) q.2.2.1 q.2.2.2=s) (λq=>p+1-q.1) (0,N,x,m) ⟨KV _,o,hm,j,w,u⟩ ?_ (f:=sw 1000 13)
 clear u o hm j w
 rintro⟨i,N,x,m⟩ ⟨I,o,hm,j,w,b⟩;simp only at I o hm j w b;have K:=aC o
 dsimp only
 refine aj<|ae (λz=>?_) (λz=>?_)
 ·have z:(i:Int)<=(p:Int):=z
  obtain⟨r,hr⟩:∃r,p+1-i=r+1:=⟨p-i,Uo⟩
  rw[hr]at b;simp only[iq]at b;refine aM 0 (aN K) ?_;refine ae (λt=>?_) (λt=>?_)
  ·have t:x.n.op≠5:=t
   rw[KH t]at b;have b:false=s:=b;subst b;exact aF
  have t:x.n.op=5:=Decidable.not_not.1 t;rw[KU t,Bool.true_and]at b;obtain⟨_,f0,f1⟩:=eV o (.inr t);obtain⟨r1,r2,_⟩:=nW o.ok (.inr t);have E:=KG List.length r2;simp only[JK,JV]at E;have C:=F N (kidD x 0) m f0 hm Uo Uo;refine af (endP o (a:=[x.n]) (y:=kidD x 0) (q:=row (kidD x 1)) r1 f0.ok rfl) ?_;refine bO 1 (1+(row (kidD x 0)).length) ?_ (cT _) (h4:=by rw[KF];omega);rw[dL (p:=1) (n:=1+(row (kidD x 0)).length) r1 rfl rfl];cases v:rc (kidD x 0) m with
  |false=>
   rw[v]at C b;have b:false=s:=b;subst b;refine nR C ?_;exact kA9
  |true=>
   rw[v]at C;rw[v,Bool.true_and]at b;refine nR C ?_;refine vk ?_;refine ae (λA=>?_) (λA=>?_)
   ·have A:(i:Int)=(p:Int):=A
    rw[KX Uo]at b;refine bg ?_ (hb:=Uk);refine bO (1+(row (kidD x 0)).length) (row x).length ?_ (cT _) (h1:=rfl) (h2:=by rw[KF]) (h3:=Uo) (h4:=by rw[KF];omega);rw[dL (a:=x.n::row (kidD x 0)) (y:=kidD x 1) (q:=[]) (by rw[JD];exact r2) (by rw[JV];omega) (by rw[JV];omega)];refine vi ?_;refine au (i+1,N+1,kidD x 1,m++[1]) ⟨Us,f1,hm.snoc Uo,by simp only[JK,List.length_singleton];omega,Us,by simp only;rw[show p+1-(i+1)=r by omega];exact b⟩ (sw 1000 39) (hm:=by show p+1-(i+1)<p+1-i;omega) (y':=⟨KG (λl=>some (SE.rw _ _ l)) (kW iP m 1).symm,trivial⟩)
   ·have A:¬ (i:Int)=(p:Int):=A
    rw[KY Uo]at b;refine bg ?_ (hb:=Uk);refine bO (1+(row (kidD x 0)).length) (row x).length ?_ (cT _) (h1:=rfl) (h2:=by rw[KF]) (h3:=Uo) (h4:=by rw[KF];omega);rw[dL (a:=x.n::row (kidD x 0)) (y:=kidD x 1) (q:=[]) (by rw[JD];exact r2) (by rw[JV];omega) (by rw[JV];omega)];refine vi ?_;refine au (i+1,N+1,kidD x 1,m++[0]) ⟨Us,f1,hm.snoc Uo,by simp only[JK,List.length_singleton];omega,Us,by simp only;rw[show p+1-(i+1)=r by omega];exact b⟩ (sw 1000 39) (hm:=by show p+1-(i+1)<p+1-i;omega) (y':=⟨KG (λl=>some (SE.rw _ _ l)) (kW iP m 0).symm,trivial⟩)
 ·have z:¬ (i:Int)<=(p:Int):=z
  rw[show p+1-i=0 by omega]at b;have H:=F N x m o hm j w;rw[show rc x m=s from b]at H;refine af H ?_;exact aF
theorem MP(j:Ft (QB B) N x)(p:Nat)(A:p<=1000):VC prog 207 [ah (row x),pI p] (.bool (dB' p x)):=by
 generalize l:dB' p x=o;refine cN 36 [.tmp 4] τok func207 ?_;refine aj<|aB τok (σ:=Nat×Int×Tr) [(1,_)] [] (λq=>[(0,vP (ah (row q.2.2))),(5,vI q.1)]) (λ_=>[]) (λq=>q.1<=p/\Ft (QB B) q.2.1 q.2.2/\dB' (p-q.1) q.2.2=o) (λq=>(row q.2.2).length) (0,N,x) ⟨KV _,j,l⟩ ?_
 clear l j
 rintro⟨i,N,x⟩ ⟨v,j,b⟩;simp only at v j b;have w:=aC j
 dsimp only
 refine aj<|aM 0 (aN w) ?_;refine ae (λc=>?_) (λc=>?_)
 ·have c:x.n.op=4:=c
  obtain⟨_,f0,f1⟩:=eV j (.inl c);obtain⟨r1,r2,_⟩:=nW j.ok (.inl c);have t:=KG List.length r2;simp only[JK,JV]at t;have z:=aC f0.head;refine af (endP j (a:=[x.n]) (y:=kidD x 0) (q:=row (kidD x 1)) r1 f0.ok rfl) ?_;refine ae (λs=>?_) (λs=>?_)
  ·have s:(i:Int)=(p:Int):=s
   rw[show p-i=0 by omega]at b;simp only[dB']at b;rw[KU c,Bool.true_and]at b;refine bO 1 (1+(row (kidD x 0)).length) ?_ (cT _) (h4:=by rw[KF];omega);rw[dL (p:=1) (n:=1+(row (kidD x 0)).length) r1 rfl rfl];refine af (vW f0) ?_;refine aM 0 (aN z) ?_;refine ae (λu=>?_) (λu=>?_)
   ·rw[KU (p:=(headT (kidD x 0)).n.op=9) u]at b
    subst b;exact aF
   ·rw[KH (p:=(headT (kidD x 0)).n.op=9) u]at b
    subst b;exact aF
  ·have s:¬ (i:Int)=(p:Int):=s
   obtain⟨r,hr⟩:∃r,p-i=r+1:=⟨p-i-1,Uo⟩
   rw[hr]at b;simp only[dB']at b;rw[KU c,Bool.true_and]at b;refine bO (1+(row (kidD x 0)).length) (row x).length ?_ (cT _) (h1:=rfl) (h2:=by rw[KF]) (h3:=Uo) (h4:=by rw[KF];omega);rw[dL (a:=x.n::row (kidD x 0)) (y:=kidD x 1) (q:=[]) (by rw[JD];exact r2) (by rw[JV];omega) (by rw[JV];omega)];refine vi ?_;exact au (i+1,N+1,kidD x 1) ⟨Us,f1,by simp only;rw[show p-(i+1)=r by omega];exact b⟩ (hm:=by show (row (kidD x 1)).length<(row x).length;omega)
 ·have c:¬ x.n.op=4:=c
  have:o=false:=by
   rw[<- b];cases p-i<;>simp[dB',c]
  subst this;exact aF
end
section
variable{B:ak}{pl:List Int}{g:Nat}{rc:RcF}{N:Int}{m:List Int}{x:Tr}
theorem MQ(hB:GoodB B)(S:sT B pl g rc)(H:pl.length<=1000)(C:Ft (QB B) N x)(z:x.n.op=11)(hm:Mk pl m)(a5:m.length+4*(row x).length<=100000)(hg:(row x).length<=g+1):VC prog 251 [qw B pl,ah (row x),jE m] (.bool (lM B rc x m)):=by
 have W:=aC C;obtain⟨X,A,a6,a4⟩:=gP C.ok z;obtain⟨i,e,s',ps,qi,hi,a7,he,M,hF⟩:=hB.fam (kA C.node' (.inr z)) (KJ _);have I:∀k,k<x.ks.length ->Ft (QB B) N (kidD x k)/\(row (kidD x k)).length<(row x).length:=λk A=>by
  have:=C.kidN k (by rw[X];exact A) (b:=0) (by simp[kb,bi,z]);rw[Int.add_zero]at this;exact⟨this,(cA W (by rw[X];exact A)).2.2⟩
 have K:∀k,k<x.ks.length ->row x=(x.n::rows (x.ks.take k))++(row (kidD x k)++rows (x.ks.drop (k+1)))/\(rows (x.ks.take (k+1))).length=(rows (x.ks.take k)).length+(row (kidD x k)).length/\(x.n::rows (x.ks.take k)).length+(row (kidD x k)).length<=(row x).length:=λk A=>by
  obtain⟨_,_,r1,r2⟩:=Fk C.ok z A;refine⟨r1,r2,?_⟩;have:=KG List.length r1;simp only[JK]at this;omega
 obtain⟨f0,l0⟩:=I 0 Uo;obtain⟨f1,l1⟩:=I 1 Uo;obtain⟨r0,q0,m0⟩:=K 0 Uo;obtain⟨r1,q1,m1⟩:=K 1 Uo;have z0:(rows (x.ks.take 0)).length=0:=by simp[rows]
 rw[JV]at m0 m1;have q0:(rows (x.ks.take 1)).length=(rows (x.ks.take 0)).length+(row (kidD x 0)).length:=q0;have q1:(rows (x.ks.take 2)).length=(rows (x.ks.take 1)).length+(row (kidD x 1)).length:=q1;have Y:(rows (x.ks.take 2)).length=(row (kidD x 0)).length+(row (kidD x 1)).length:=Uo
 have a8:=C.len;have a9:=f1.nargs;have wh:=aC f1.head;have Z:=dn f1.head.ok.pl;have eA:=aq rP ((argsT (kidD x 1)).map row);have a':=aq row (argsT (kidD x 1));have eC:=aq bA e.ctors;obtain⟨nb,b0⟩:∃k:Nat,x.n.b=(k:Int):=⟨x.n.b.toNat,Uo⟩
 generalize o:lM B rc x m=w;unfold lM at o;refine cN 108 [.tmp 6] τok func251 ?_;refine aD<|aD<|af (endP C (y:=kidD x 0) r0 f0.ok (by rw[JV];omega)) ?_;refine aD<|af (endP C (y:=kidD x 1) r1 f1.ok (by rw[JV,JV];omega)) ?_;refine aD<|bO 1 ((x.n::rows (x.ks.take 0)).length+(row (kidD x 0)).length) ?_ (cT _) (h3:=by rw[JV];omega) (h4:=by rw[KF,JV];omega);rw[dL r0 (by rw[JV];omega) rfl];refine bO (1+(row (kidD x 0)).length) ((x.n::rows (x.ks.take 1)).length+(row (kidD x 1)).length) ?_ (cT _) (h1:=by rw[JV];omega) (h3:=by rw[JV];omega) (h4:=by rw[KF,JV];omega);rw[dL r1 (by rw[JV];omega) rfl];have s:=An S (ys:=[kidD x 0,kidD x 1]) (L:=[[ah (row (kidD x 0))],[ah (row (kidD x 1))]]) rfl (N:=N) (λy hy=>by
  rcases List.mem_cons.1 hy with rfl|hy
  ·exact⟨f0,Uo,Uo⟩
  ·obtain rfl:=List.mem_singleton.1 hy
   exact⟨f1,Uo,Uo⟩) Ud hm
 have O:([kidD x 0,kidD x 1].all λy=>rc y m)=(rc (kidD x 0) m && rc (kidD x 1) m):=Ud
 rw[O]at s;cases ha:(rc (kidD x 0) m && rc (kidD x 1) m)with
 |false=>
  rw[ha]at s o;have o:false=w:=o;subst o;refine af s ?_;exact kA9
 |true=>
 rw[ha]at s;rw[ha,Bool.true_and]at o;refine af s ?_;refine vk ?_;refine aD<|bO (1+(row (kidD x 0)).length) ((x.n::rows (x.ks.take 1)).length+(row (kidD x 1)).length) ?_ (cT _) (h1:=by rw[JV];omega) (h3:=by rw[JV];omega) (h4:=by rw[KF,JV];omega);rw[dL r1 (by rw[JV];omega) rfl];refine af (vW f1) ?_;refine aD<|dd τok (σ:=Int) [(1,_),(2,_),(3,_),(8,_),(10,_)] [(3,_)] (λv=>[(11,vI v)]) (λ_=>[]) (λv=>v=if (headT (kidD x 1)).n.op=1 then bW m (headT (kidD x 1)).n.a else 0) ?_ ?_
 ·refine aM 0 (aN wh) ?_
  refine ae (λr=>?_) (λr=>?_)
  ·have r:(headT (kidD x 1)).n.op=1:=r
   refine aM 0 (aN wh) ?_;refine af (Am (m:=m) Z.2.2.1 Uo) ?_;exact au _ (KX r).symm
  ·have r:¬ (headT (kidD x 1)).n.op=1:=r
   exact au 0 (KY r).symm
 intro v hv;refine dd τok (σ:=Bool) [(1,_),(2,_),(3,_),(8,_)] [(3,_)] (λb=>[(12,vP (.bool b))]) (λ_=>[]) (λb=>b=pc (kidD x 1) m) ?_ ?_
 ·have T:pc (kidD x 1) m=(decide (v=2)||(decide (v=1) && decide ((argsT (kidD x 1)).length=0))):=by rw[hv];rfl
  refine ae (λr=>?_) (λr=>?_)
  ·exact au true (by rw[T,KU (p:=v=2) r];rfl)
  refine ae (λD=>?_) (λD=>?_)
  ·refine ae (λP=>?_) (λP=>?_)
   ·have P:((((argsT (kidD x 1)).map row).map rP).length:Int)=0:=P
    exact au true (by rw[T,KH (p:=v=2) r,KU (p:=v=1) D,KU Uo];rfl)
   ·have P:¬ ((((argsT (kidD x 1)).map row).map rP).length:Int)=0:=P
    exact au false (by rw[T,KH (p:=v=2) r,KU (p:=v=1) D,KH Uo];rfl)
  ·exact au false (by rw[T,KH (p:=v=2) r,KH (p:=v=1) D];rfl)
 intro E a0;rw[<- a0,X,hi]at o;rw[hi]at M;refine aj<|aM 0 (aN W) ?_;refine cS i he ?_;refine vk ?_;refine aM 0 (aN W) ?_;refine aB τok (σ:=Nat) [(1,_),(2,_),(3,_),(12,_),(13,_),(77,_)] [(3,_)] (λk=>[(8,vI ((1+(rows (x.ks.take (2+k))).length:Nat):Int)),(78,vI k)]) (λ_=>[]) (λk=>k<=nb/\mU B rc i E m k (x.ks.drop (2+k))=w) (λk=>nb-k) 0 ⟨KV _,o⟩ ?_ (x1:=⟨KG (λn:Int=>some (vI n)) (by rw[JV,Y];omega),rfl,trivial⟩)
 clear o
 rintro k ⟨b1,j⟩;refine aj<|ae (λr=>?_) (λr=>?_)
 ·have r:(k:Int)<x.n.b:=r
  obtain⟨U,kL⟩:=I (2+k) Uo;obtain⟨V,kl,km⟩:=K (2+k) Uo;rw[JV]at km;have F:=(Fk C.ok z (k:=2+k) Uo).1;have a1:x.ks.drop (2+k)=kidD x (2+k)::x.ks.drop (2+k+1):=by
   rw[List.drop_eq_getElem_cons Uo];rw[gE]at F;rw[JB F]
  rw[a1]at j;simp only[mU,M]at j;refine af (endP C (y:=kidD x (2+k)) V U.ok (by rw[JV];omega)) ?_;cases E with
  |false=>
   rw[Bool.false_and,KY UO]at j;refine bO (1+(rows (x.ks.take (2+k))).length) ((x.n::rows (x.ks.take (2+k))).length+(row (kidD x (2+k))).length) ?_ (cT _) (h1:=rfl) (h3:=by rw[JV];omega) (h4:=by rw[KF,JV];omega);rw[dL V (by rw[JV];omega) rfl];have u:=Ao S U H hm Uo Uo 0 Uo;cases q:gA rc 0 (kidD x (2+k)) m with
   |false=>
    rw[q]at u j;have j:false=w:=j;subst j;refine af u ?_;exact kA9
   |true=>
    rw[q]at u;rw[q,Bool.true_and]at j;refine af u ?_;refine vk ?_;refine vi ?_;exact au (k+1) ⟨Uo,by rw[show 2+(k+1)=2+k+1 by omega];exact j⟩ (x:=⟨KG (λn:Int=>some (vI n)) (by rw[show 2+(k+1)=2+k+1 by omega,kl,JV];omega),rfl,trivial⟩)
  |true=>
   rw[Bool.true_and]at j;refine ae (λD=>?_) (λD=>?_)
   ·have D:(k:Int)<((e.ctors.map bA).length:Int):=D
    rw[KX (KU Uo)]at j;obtain⟨c,hc,_⟩:=az (l:=e.ctors) (k:=k);have a2:e.ctors.getD k default=c:=by rw[QK,hc];rfl
    rw[a2]at j;obtain⟨ga,go,R⟩:=hF.ct k c hc;have b2:c.args.length<=16:=by rw[R.args,KF];exact R.la
    have a3:=aq (λt=>[ah t]) c.args;rw[<- a3]at j;refine ee k hc ?_;refine bO (1+(rows (x.ks.take (2+k))).length) ((x.n::rows (x.ks.take (2+k))).length+(row (kidD x (2+k))).length) ?_ (cT _) (h1:=rfl) (h3:=by rw[JV];omega) (h4:=by rw[KF,JV];omega);rw[dL V (by rw[JV];omega) rfl];have u:=Ao S U H hm Uo Uo (c.args.map λt=>[ah t]).length Uo;cases q:gA rc (c.args.map λt=>[ah t]).length (kidD x (2+k)) m with
    |false=>
     rw[q]at u j;have j:false=w:=j;subst j;refine af u ?_;exact kA9
    |true=>
     rw[q]at u;rw[q,Bool.true_and]at j;refine af u ?_;refine vk ?_;refine vi ?_;exact au (k+1) ⟨Uo,by rw[show 2+(k+1)=2+k+1 by omega];exact j⟩ (x:=⟨KG (λn:Int=>some (vI n)) (by rw[show 2+(k+1)=2+k+1 by omega,kl,JV];omega),rfl,trivial⟩)
   ·have D:¬ (k:Int)<((e.ctors.map bA).length:Int):=D
    rw[KY (by simpa using (by omega:¬ k<e.ctors.length))]at j;refine bO (1+(rows (x.ks.take (2+k))).length) ((x.n::rows (x.ks.take (2+k))).length+(row (kidD x (2+k))).length) ?_ (cT _) (h1:=rfl) (h3:=by rw[JV];omega) (h4:=by rw[KF,JV];omega);rw[dL V (by rw[JV];omega) rfl];have u:=Ao S U H hm Uo Uo 0 Uo;cases q:gA rc 0 (kidD x (2+k)) m with
    |false=>
     rw[q]at u j;have j:false=w:=j;subst j;refine af u ?_;exact kA9
    |true=>
     rw[q]at u;rw[q,Bool.true_and]at j;refine af u ?_;refine vk ?_;refine vi ?_;exact au (k+1) ⟨Uo,by rw[show 2+(k+1)=2+k+1 by omega];exact j⟩ (x:=⟨KG (λn:Int=>some (vI n)) (by rw[show 2+(k+1)=2+k+1 by omega,kl,JV];omega),rfl,trivial⟩)
 ·have r:¬ (k:Int)<x.n.b:=r
  rw[JY Uo]at j;have j:true=w:=j;subst j;exact aF
end
theorem MR(m:List Int)(k:Nat):m.map iP++List.replicate k [PV.int .i64 0]=(m++List.replicate k 0).map iP:=by
 rw[KB,List.map_replicate]
 rfl
section
variable{B:ak}{pl:List Int}
theorem MS(hB:GoodB B)(a0:∀p∈pl,0<=p/\p<=15)(a5:pl.length<=100):∀g,sT B pl g (fj B pl g):=by
 intro g
 induction g with
 |zero=>
  intro N x m _ _ _ h;have:=aR x;omega
 |succ g I=>
 intro N x m T v a8 hg;have u:=T.head;have wh:=aC u;have hn:=T.nargs;have a9:=T.len;have U:=dn u.ok.pl;have eA:=aq (λt=>[ah t]) ((argsT x).map row);have a':=aq row (argsT x);have eP:=aq iP pl;have b0:=aR (headT x);have E:∀y∈argsT x,Ft (QB B) N y/\m.length+4*(row y).length<=100000/\(row y).length<=g:=λy S=>by
  have:=eI' S;exact⟨T.args y S,Uo,Uo⟩
 generalize b:fj B pl (g+1) x m=s;simp only[fj]at b
 generalize a6:fj B pl g=rc at *
 refine cN 156 [.tmp 6] τok func228 ?_;refine aj ?_;have r:=An I (ys:=argsT x) rfl E Uo v;refine af (vW T) ?_;cases ha:((argsT x).all λy=>rc y m)with
 |false=>
  rw[ha]at r b;have b:false=s:=b;subst b;refine af r ?_;exact aF
 |true=>
 rw[ha]at r;rw[ha,Bool.true_and]at b;refine af r ?_;refine aM 0 (aN wh) ?_
 generalize b1:headT x=h at *
 refine ae (λP=>?_) (λP=>?_)
 ·have P:h.n.op=1:=P
  rw[KX P]at b;refine af (Am (m:=m) U.2.2.1 Uo) ?_;refine ae (λD=>?_) (λD=>?_)
  ·rw[KX D]at b
   subst b;exact aF
  ·rw[KY D]at b
   obtain⟨j,hj,ej⟩:=(v.of U.2.2.1).resolve_left D;rw[ej,show ((100:Int)+j-100).toNat=j by omega]at b;obtain⟨p,hp,_⟩:=az (l:=pl) (k:=j) hj;obtain⟨p0,b2⟩:=a0 p (JQ hp);rw[QK,hp]at b;have b:(decide (p<(argsT x).length) && jz (fJ x p) m)=s:=b;rw[ej];refine vi ?_;refine vm (p:=iP) j hp ?_ Uo;refine ae (λw=>?_) (λw=>?_)
   ·have w:((((argsT x).map row).map λt=>[ah t]).length:Int)>p:=w
    rw[KU Uo,Bool.true_and]at b;obtain⟨z,V,_⟩:=az (l:=argsT x) (k:=p.toNat);have e:fJ x p=z:=by simp[fJ,V]
    rw[e]at b;have hl:=MN (m:=m) (E z (JQ V)).1 Uo;rw[b]at hl;refine aA p.toNat (x:=row z) (by rw[JX,V];rfl) ?_;refine af hl ?_;exact aF
   ·have w:¬ ((((argsT x).map row).map λt=>[ah t]).length:Int)>p:=w
    rw[KH Uo]at b;have b:false=s:=b;subst b;exact aF
 have P:¬ h.n.op=1:=P;rw[KY P]at b;refine ae (λD=>?_) (λD=>?_)
 ·have D:h.n.op=11:=D
  rw[KX D]at b;have hM:=MQ hB I Uo u D v Uo Uo;rw[b]at hM;refine af hM ?_;exact aF
 have D:¬ h.n.op=11:=D;rw[KY D]at b;refine ae (λw=>?_) (λw=>?_)
 ·have w:h.n.op=4:=w
  rw[KX (.inl w)]at b;obtain⟨_,f0,f1⟩:=eV u (.inl w);obtain⟨r1,r2,_⟩:=nW u.ok (.inl w);have F:=KG List.length r2;simp only[JK,JV]at F;have A:=I N (kidD h 0) m f0 v Uo Uo;have C:=I (N+1) (kidD h 1) (m++[0]) f1 (v.snoc (.inl rfl)) (by rw[JK,List.length_singleton];omega) Uo;unfold jE at C;rw[kW]at C;refine af (endP u (a:=[h.n]) (y:=kidD h 0) (q:=row (kidD h 1)) r1 f0.ok rfl) ?_;refine bO 1 (1+(row (kidD h 0)).length) ?_ (cT _) (h4:=by rw[KF];omega);rw[dL (p:=1) (n:=1+(row (kidD h 0)).length) r1 rfl rfl];cases hr:rc (kidD h 0) m with
  |false=>
   rw[hr]at A b;have b:false=s:=b;subst b;refine af A ?_;exact kA9
  |true=>
   rw[hr]at A;rw[hr,Bool.true_and]at b;rw[b]at C;refine af A ?_;refine bO (1+(row (kidD h 0)).length) (row h).length ?_ (cT _) (h1:=rfl) (h2:=by rw[KF]) (h3:=Uo) (h4:=by rw[KF];omega);rw[dL (a:=h.n::row (kidD h 0)) (y:=kidD h 1) (q:=[]) (by rw[JD];exact r2) (by rw[JV];omega) (by rw[JV];omega)];refine gV (qy (qx v Uo) Uo) ?_;refine bg ?_ (hb:=Uk);refine af C ?_;exact kA9
 have w:¬ h.n.op=4:=w;refine ae (λO=>?_) (λO=>?_)
 ·have O:h.n.op=5:=O
  rw[KX (.inr O)]at b;obtain⟨_,f0,f1⟩:=eV u (.inr O);obtain⟨r1,r2,_⟩:=nW u.ok (.inr O);have F:=KG List.length r2;simp only[JK,JV]at F;have A:=I N (kidD h 0) m f0 v Uo Uo;have C:=I (N+1) (kidD h 1) (m++[0]) f1 (v.snoc (.inl rfl)) (by rw[JK,List.length_singleton];omega) Uo;unfold jE at C;rw[kW]at C;refine af (endP u (a:=[h.n]) (y:=kidD h 0) (q:=row (kidD h 1)) r1 f0.ok rfl) ?_;refine bO 1 (1+(row (kidD h 0)).length) ?_ (cT _) (h4:=by rw[KF];omega);rw[dL (p:=1) (n:=1+(row (kidD h 0)).length) r1 rfl rfl];cases hr:rc (kidD h 0) m with
  |false=>
   rw[hr]at A b;have b:false=s:=b;subst b;refine af A ?_;exact kA9
  |true=>
   rw[hr]at A;rw[hr,Bool.true_and]at b;rw[b]at C;refine af A ?_;refine bO (1+(row (kidD h 0)).length) (row h).length ?_ (cT _) (h1:=rfl) (h2:=by rw[KF]) (h3:=Uo) (h4:=by rw[KF];omega);rw[dL (a:=h.n::row (kidD h 0)) (y:=kidD h 1) (q:=[]) (by rw[JD];exact r2) (by rw[JV];omega) (by rw[JV];omega)];refine gV (qy (qx v Uo) Uo) ?_;refine bg ?_ (hb:=Uk);refine af C ?_;exact kA9
 have O:¬ h.n.op=5:=O;rw[KY Uo]at b;refine ae (λM=>?_) (λM=>?_)
 ·have M:h.n.op=7:=M
  rw[KX M]at b;obtain⟨k3,f0,f1,f2⟩:=o9 u M;obtain⟨_,_,_,r1,r2,Y⟩:=ql u.ok M;have F:=KG List.length Y;simp only[JK,JV]at F;have Z:=I (N+1) (kidD h 2) (m++[0]) f2 (v.snoc (.inl rfl)) (by rw[JK,List.length_singleton];omega) Uo;unfold jE at Z;rw[kW]at Z;have r:=An I (ys:=[kidD h 0,kidD h 1]) (L:=[[ah (row (kidD h 0))],[ah (row (kidD h 1))]]) rfl (N:=N) (λy S=>by
   rcases List.mem_cons.1 S with rfl|S
   ·exact⟨f0,Uo,Uo⟩
   ·obtain rfl:=List.mem_singleton.1 S
    exact⟨f1,Uo,Uo⟩) Ud v
  have W:([kidD h 0,kidD h 1].all λy=>rc y m)=(rc (kidD h 0) m && rc (kidD h 1) m):=Ud
  rw[W]at r;refine af (endP u (a:=[h.n]) (y:=kidD h 0) (q:=row (kidD h 1)++row (kidD h 2)) r1 f0.ok rfl) ?_;refine af (endP u (a:=h.n::row (kidD h 0)) (y:=kidD h 1) (q:=row (kidD h 2)) r2 f1.ok Uk) ?_;refine bO 1 (1+(row (kidD h 0)).length) ?_ (cT _) (h4:=by rw[KF];omega);rw[dL (p:=1) (n:=1+(row (kidD h 0)).length) r1 rfl rfl];refine bO (1+(row (kidD h 0)).length) ((h.n::row (kidD h 0)).length+(row (kidD h 1)).length) ?_ (cT _) (h1:=rfl) (h3:=by rw[JV];omega) (h4:=by rw[KF,JV];omega);rw[dL r2 (by rw[JV];omega) rfl];cases hr:(rc (kidD h 0) m && rc (kidD h 1) m)with
  |false=>
   rw[hr]at r b;have b:false=s:=b;subst b;refine af r ?_;exact kA9
  |true=>
   rw[hr]at r;rw[hr,Bool.true_and]at b;rw[b]at Z;refine af r ?_;refine bO ((h.n::row (kidD h 0)).length+(row (kidD h 1)).length) (row h).length ?_ (cT _) (h1:=rfl) (h2:=by rw[KF]) (h3:=by rw[JV];omega) (h4:=by rw[KF];omega);rw[dL (a:=h.n::(row (kidD h 0)++row (kidD h 1))) (y:=kidD h 2) (q:=[]) (by rw[JD];exact Y) (by rw[JV,JV,JK];omega) (by rw[JV,JK];omega)];refine gV (qy (qx v Uo) Uo) ?_;refine bg ?_ (hb:=Uk);refine af Z ?_;exact kA9
 have M:¬ h.n.op=7:=M;rw[KY M]at b;refine ae (λH=>?_) (λH=>?_)
 ·have H:h.n.op=12:=H
  rw[KX H]at b;obtain⟨l1,l2,l3,l4,l5⟩:=dZ u.ok H;have b3:=gu u.ok H;obtain⟨K,a1⟩:∃k,h.n.b.toNat=k:=⟨_,rfl⟩
  have b4:h.n.b=(K:Int):=Uo
  rw[a1]at b;have V:=v.zeros K;refine gV (qy (qx v Uo) Uo) ?_;refine K0 K ?_;refine vk ?_;refine aB τok (σ:=Nat) [(2,_),(3,_),(7,_),(125,_)] [(3,_)] (λi=>[(15,vI ((1+(rows (h.ks.take i)).length:Nat):Int)),(16,.c (.row 1000)),(126,vI i)]) (λi=>[(1000,.rw 250 1 ((m++List.replicate K 0).map iP))]) (λi=>i<=K/\lN rc m (m++List.replicate K 0) ((kidsT h).drop (2*i))=s) (λi=>K-i) 0 ⟨KV _,b⟩ ?_ (f:=sw 1000 123) (x1:=⟨KG (λn:Int=>some (vI n)) (by simp[rows]),rfl,rfl,trivial⟩) (y1:=⟨KG (λl=>some (SE.rw _ _ l)) (MR m K),trivial⟩)
  clear b
  rintro i ⟨hi,o⟩
  dsimp only
  refine aj<|ae (λX=>?_) (λX=>?_)
  ·have X:(i:Int)<h.n.b:=X
   obtain⟨f,hf,a2,a3,b5,b6,b7,b8,a7,r1,r2,Y,r4⟩:=vG u.ok H (i:=i) Uo;obtain⟨_,_,f0,f1⟩:=iL u H (i:=i) Uo;have a4:=KG List.length r1;simp only[JK,JV,JU]at a4;rw[r4]at o;simp only[lN]at o;have A:=I N (kidD h (2*i)) m f0 v Uo Uo;have C:=I (N+h.n.b) (kidD h (2*i+1)) (m++List.replicate K 0) f1 V (by rw[JK,List.length_replicate];omega) Uo;have e1:(h.n::(rows (h.ks.take i)++[f.n])).length=1+(rows (h.ks.take i)).length+1:=Uk
   have e2:(h.n::(rows (h.ks.take i)++(f.n::row (kidD h (2*i))))).length=1+(rows (h.ks.take i)).length+1+(row (kidD h (2*i))).length:=Uk
   refine vi ?_;refine af (endP u (y:=kidD h (2*i)) r1 a2 (by rw[e1];omega)) ?_;refine af (endP u (y:=kidD h (2*i+1)) r2 a3 (by rw[e1,e2])) ?_;refine vi ?_;refine bO (1+(rows (h.ks.take i)).length+1) ((h.n::(rows (h.ks.take i)++[f.n])).length+(row (kidD h (2*i))).length) ?_ (cT _) (h1:=Uo) (h2:=rfl) (h3:=Uo) (h4:=by rw[KF];omega);rw[dL r1 e1.symm rfl];cases hr:rc (kidD h (2*i)) m with
   |false=>
    rw[hr]at A o;have o:false=s:=o;subst o;refine nR A ?_;exact kA9
   |true=>
   rw[hr]at A;rw[hr,Bool.true_and]at o;refine nR A ?_;refine bO ((h.n::(rows (h.ks.take i)++[f.n])).length+(row (kidD h (2*i))).length) ((h.n::(rows (h.ks.take i)++(f.n::row (kidD h (2*i))))).length+(row (kidD h (2*i+1))).length) ?_ (cT _) (h1:=rfl) (h2:=rfl) (h3:=Uo) (h4:=by rw[KF];omega);rw[dL r2 Uo rfl];cases R:rc (kidD h (2*i+1)) (m++List.replicate K 0)with
   |false=>
    rw[R]at C o;have o:false=s:=o;subst o;refine nR C ?_;exact kA9
   |true=>
   rw[R]at C;rw[R,Bool.true_and]at o;refine nR C ?_;refine vk ?_;refine vi ?_;exact au (i+1) ⟨Uo,o⟩ (x:=⟨KG (λn:Int=>some (vI n)) (by rw[Y];omega),rfl,rfl,trivial⟩)
  ·have X:¬ (i:Int)<h.n.b:=X
   rw[JY Uo]at o;have o:true=s:=o;subst o;exact aF
 ·have H:¬ h.n.op=12:=H
  rw[KY H]at b;subst b;exact aF
end
theorem oq{x:Tr}(b:Ok .tm x)(i:Nat):0<=kb x.n i/\kb x.n i<=4:=by
 obtain⟨n,c⟩:=x;obtain⟨a,_,_⟩:=b.tm;show 0<=kb n i/\kb n i<=4;unfold kb;split
 ·rename_i h
  have:aI n.b 1 4=true:=by simp[aw,h]at a;exact a.1
  have:=dI.1 this;split<;>omega
 ·have:=xt n i
  omega
def pg(q:Int×Int)(m:Int):Int:=max (max (q.1-q.2) (-1)) m
def dM(l:List (Int×Int)):Int:=l.foldr pg (-1)
theorem nO':∀l,-1<=dM l
 |[]=>by simp[dM]
 |q::r=>by
  have:=nO' r;simp only[dM,List.foldr_cons,pg]at this ⊢;omega
theorem vg':∀(l m:List (Int×Int)),dM (l++m)=max (dM l) (dM m)
 |[],m=>by have:=nO' m;simp only[dM,List.nil_append,List.foldr_nil]at this ⊢;omega
 |q::r,m=>by
  have:=vg' r m;simp only[dM,List.cons_append,List.foldr_cons,pg]at this ⊢;omega
theorem MT{l:List (Int×Int)}{b:Int}(hb:-1<=b)(h:∀q∈l,q.1-q.2<=b):dM l<=b:=by
 induction l with
 |nil=>exact hb
 |cons q r a=>
  have c:=a λz i=>h z (by simp[i]);have j:=h q Ud;simp only[dM,List.foldr_cons,pg]at c ⊢;omega
theorem MU{l:List (Int×Int)}{n:Int}:(dM l<0 \/dM l<n)↔l.all (λq=>decide (q.1-q.2<max n 0))=true:=by
 rw[List.all_eq_true]
 induction l with
 |nil=>simp[dM]
 |cons q r a=>
  have b:=nO' r;simp only[JJ,forall_eq_or_imp,decide_eq_true_eq]at a ⊢;rw[<- a];simp only[dM,List.foldr_cons,pg]at b ⊢;omega
def Dp(d:Int)(x:Tr):Prop:=0<=d/\d+4*(row x).length<=1000000000
theorem Dp.kid{d:Int}{x:Tr}(h:Dp d x)(a:Ok .tm x){i:Nat}{y:Tr}(b:(kidsT x)[i]?=some y):Dp (d+kb x.n i) y:=by
 have:=ij a b;have:=oq a i;unfold Dp at h ⊢;omega
theorem vX{x:Tr}(b:Ok .tm x){d:Int}(a:Dp d x):∀q∈varsT x d 0,d<=q.2/\q.2<=1000000000/\0<=q.1/\q.1<=1048576:=λq c=>by
 have:=fj' x .tm d 0 b.1 a.1 Uo Uo q c;have:=a.2;omega
theorem kX{x:Tr}(a:Ok .tm x)(h1:x.n.op=1):kidsT x=[]/\atmsT x=[]/\funsT x=[]/\x= .mk x.n []/\x.n.b=0/\0<=x.n.a/\x.n.a<=1048576:=by
 obtain⟨n,c⟩:=x;have h1:n.op=1:=h1;have b:=List.length_eq_zero_iff.1 (pG a.kids.1 h1);subst b;have:=MG h1 a.tm.1;exact⟨by simp[kidsT],KY (by rw[show (Tr.mk n []).n=n from rfl];omega),KY (by rw[show (Tr.mk n []).n=n from rfl];omega),rfl,this.2.2,this.1,this.2.1⟩
theorem vY{x:Tr}(h1:x.n.op=1)(d:Int):varsT x d 0=[(x.n.a,d)]:=by
 obtain⟨n,a⟩:=x;exact KX h1
theorem fT(n:Nd)(i:Nat):kb ⟨n.op,n.a,n.b⟩ i=kb n i:=rfl
theorem FV(N:Nat)(H:N<=1000000):∀(x:Tr) (d:Int),Wf x ->Dp d x ->(row x).length<=N ->VC prog 97 [bB x,pI d] (pI (dM (varsT x d 0))):=by
 induction N with
 |zero=>
  intro x d _ _ h;have:=aR x;omega
 |succ N u=>
  intro x d a p I;have v:=gO a.ok;have K:=aq trP (kidsT x);have r:=p;unfold Dp at r;refine vf 39 [.tmp 4] τok func97 ?_;refine ae (λn=>?_) (λn=>?_)
  ·have L:=kX a.ok n
   refine vi ?_;exact aF (h3:=by rw[vY n];simp only[dM,List.foldr_cons,List.foldr_nil,pg];exact KG pI Uo)
  ·have c:=Ah (d:=d) a.ok n
   rw[c];have j:=vX a.ok p;rw[c]at j;have w:=nO' (vK x.n d (kidsT x) 0);have z:=MT (l:=vK x.n d (kidsT x) 0) (b:=1048576) Uo λq A=>by have:=j q A;omega
   refine aB τok (σ:=Nat×Int) [(1,_),(2,_)] [(2,_)] (λq=>[(5,vI q.2),(6,vI q.1)]) (λ_=>[]) (λq=>q.1<=(kidsT x).length/\ -1<=q.2/\max q.2 (dM (vK x.n d ((kidsT x).drop q.1) q.1))=dM (vK x.n d (kidsT x) 0)) (λq=>(kidsT x).length-q.1) (0,-1) ⟨KV _,UO,by have:=nO' (vK x.n d (kidsT x) 0);simp only[List.drop_zero];omega⟩ ?_;rintro⟨i,m⟩ ⟨C,D,s⟩;simp only at C D s;refine aj<|ae (λg=>?_) (λg=>?_)
   ·obtain⟨y,o,t⟩:=az (l:=kidsT x) (k:=i)
    have E:=ij a.ok o;have F:=oq a.ok i;rw[t,vK,vg']at s;refine vt i o ?_;refine af (qf _ _ _ i Uo) ?_;refine vi ?_ (by simp only[fT];omega) (by simp only[fT];omega);refine af (u Uo y _ (a.kid o) (p.kid a.ok o) Uo) ?_;refine vk ?_;refine vi ?_;exact au (i+1,max m (dM (varsT y (d+kb x.n i) 0))) ⟨Us,Us,Us⟩
   ·rw[JY Uo]at s
    have:dM (vK x.n d [] i)= -1:=rfl;exact⟨_,_,rfl,rfl,KG pI Us⟩
theorem MW{x:Tr}(a:Wf x)(n:Int):VC prog 117 [ah (row x),pI n] (.bool (ku x n)):=by
 have j:=FV 4096 Uo x 0 a ⟨Uo,by have:=a.len;omega⟩ a.len;have b:=MU (l:=varsT x 0 0) (n:=n);have e:(dM (varsT x 0 0)<0 \/dM (varsT x 0 0)<n) ->PV.bool true= .bool (ku x n):=λh=>KG PV.bool (b.1 h).symm;have o:¬ (dM (varsT x 0 0)<0 \/dM (varsT x 0 0)<n) ->PV.bool false= .bool (ku x n):=λh=>by
  cases p:ku x n with
  |false=>rfl
  |true=>exact absurd (b.2 p) h
 refine vf 25 [.tmp 4] τok func117 ?_;refine af (iO a) ?_;refine af j ?_;refine ae (λc=>?_) (λc=>?_)
 ·exact⟨_,_,rfl,rfl,e (.inl c)⟩
 ·refine ae (λi=>?_) (λi=>?_)
  ·exact⟨_,_,rfl,rfl,e (.inr i)⟩
  ·exact⟨_,_,rfl,rfl,o Uo⟩
def hiF(by_:Int)(q:Int×Int)(m:Int):Int:=max (if q.2<=q.1 then q.1+by_ else -1) m
def gD(by_:Int)(l:List (Int×Int)):Int:=l.foldr (hiF by_) (-1)
theorem Ap{b:Int}:∀l,-1<=gD b l
 |[]=>by simp[gD]
 |q::r=>by
  have:=Ap (b:=b) r;simp only[gD,List.foldr_cons,hiF]at this ⊢;omega
theorem FW{b:Int}:∀(l m:List (Int×Int)),gD b (l++m)=max (gD b l) (gD b m)
 |[],m=>by have:=Ap (b:=b) m;simp only[gD,List.nil_append,List.foldr_nil]at this ⊢;omega
 |q::r,m=>by
  have:=FW (b:=b) r m;simp only[gD,List.cons_append,List.foldr_cons,hiF]at this ⊢;omega
theorem sU{b c:Int}{l:List (Int×Int)}(hc:-1<=c)(h:∀q∈l,q.2<=q.1 ->q.1+b<=c):gD b l<=c:=by
 induction l with
 |nil=>exact hc
 |cons q r a=>
  have i:=a λz j=>h z (by simp[j]);have n:=h q Ud;simp only[gD,List.foldr_cons,hiF]at i ⊢;split<;>omega
theorem sW(b:Int)(hb:0<=b/\b<=1000000000)(N:Nat)(F:N<=1000000):∀(x:Tr) (d:Int),Wf x ->Dp d x ->(row x).length<=N ->VC prog 99 [bB x,pI b,pI d] (pI (gD b (varsT x d 0))):=by
 induction N with
 |zero=>
  intro x d _ _ h;have:=aR x;omega
 |succ N v=>
  intro x d a o H;have w:=gO a.ok;have I:=aq trP (kidsT x);have p:=o;unfold Dp at p;refine vf 46 [.tmp 6] τok func99 ?_;refine ae (λc=>?_) (λc=>?_)
  ·have K:=kX a.ok c
   refine ae (λr=>?_) (λr=>?_)
   ·refine vi ?_
    exact aF (h3:=by rw[vY c];simp only[gD,List.foldr_cons,List.foldr_nil,hiF,KX r];exact KG pI Uo)
   ·exact aF (h3:=by rw[vY c];simp only[gD,List.foldr_cons,List.foldr_nil,hiF,KY r];exact KG pI Uo)
  ·have j:=Ah (d:=d) a.ok c
   rw[j];have s:=vX a.ok o;rw[j]at s;have z:=Ap (b:=b) (vK x.n d (kidsT x) 0);refine aB τok (σ:=Nat×Int) [(1,_),(2,_),(3,_)] [(3,_)] (λq=>[(7,vI q.2),(8,vI q.1)]) (λ_=>[]) (λq=>q.1<=(kidsT x).length/\ -1<=q.2/\max q.2 (gD b (vK x.n d ((kidsT x).drop q.1) q.1))=gD b (vK x.n d (kidsT x) 0)) (λq=>(kidsT x).length-q.1) (0,-1) ⟨KV _,UO,by simp only[List.drop_zero];omega⟩ ?_;rintro⟨i,m⟩ ⟨A,C,t⟩;simp only at A C t;refine aj<|ae (λg=>?_) (λg=>?_)
   ·obtain⟨y,n,u⟩:=az (l:=kidsT x) (k:=i)
    have D:=ij a.ok n;have E:=oq a.ok i;rw[u,vK,FW]at t;refine vt i n ?_;refine af (qf _ _ _ i Uo) ?_;refine vi ?_ (by simp only[fT];omega) (by simp only[fT];omega);refine af (v Uo y _ (a.kid n) (o.kid a.ok n) Uo) ?_;refine vk ?_;refine vi ?_;exact au (i+1,max m (gD b (varsT y (d+kb x.n i) 0))) ⟨Us,Us,Us⟩
   ·rw[JY Uo]at t
    have:gD b (vK x.n d [] i)= -1:=rfl;exact⟨_,_,rfl,rfl,KG pI Us⟩
def cW(l:List (Int×Int)):Nat:=(l.filter λq=>decide (q.1=q.2)).length
def m8(v:Int)(q:Int×Int)(m:Int):Int:=if q.1=q.2 then max (q.2-v) m else m
def dV(v:Int)(l:List (Int×Int)):Int:=l.foldr (m8 v) 0
theorem vZ{q:Int×Int}{l:List (Int×Int)}:cW (q::l)=(if q.1=q.2 then 1 else 0)+cW l:=by
 unfold cW;rw[List.filter_cons]
 by_cases h:q.1=q.2
 ·rw[KX (KU h),KX h,JV];omega
 ·rw[KY (by simpa using h),KY h];omega
theorem MX(l m:List (Int×Int)):cW (l++m)=cW l+cW m:=by
 unfold cW;rw[List.filter_append,JK]
theorem ph{v:Int}:∀l,0<=dV v l
 |[]=>by simp[dV]
 |q::r=>by
  have:=ph (v:=v) r;simp only[dV,List.foldr_cons,m8]at this ⊢;split<;>omega
theorem FX{v:Int}:∀(l m:List (Int×Int)),dV v (l++m)=max (dV v l) (dV v m)
 |[],m=>by have:=ph (v:=v) m;simp only[dV,List.nil_append,List.foldr_nil]at this ⊢;omega
 |q::r,m=>by
  have:=FX (v:=v) r m;simp only[dV,List.cons_append,List.foldr_cons,m8]at this ⊢;split<;>omega
theorem FY{v k:Int}(j:0<=k):∀l:List (Int×Int),(∀q∈l,v+k<=q.2) ->dV v l=if 0<cW l then dV (v+k) l+k else 0
 |[],_=>rfl
 |q::r,h=>by
  have b:=FY j r λz c=>h z (by simp[c]);have s:=h q Ud;have n:=ph (v:=v+k) r;rw[vZ];simp only[dV,List.foldr_cons,m8]at b n ⊢;have o:∀l:List (Int×Int),¬ 0<cW l ->l.foldr (m8 (v+k)) 0=0:=by
   intro l
   induction l with
   |nil=>intro _;rfl
   |cons z l p=>
    intro h;rw[vZ]at h;split at h
    ·omega
    ·rename_i c
     simp only[List.foldr_cons,m8,KY c];exact p Uo
  by_cases a:q.1=q.2
  ·rw[KX a,KX a,KX a,b,KX (show 0<1+cW r by omega)]
   by_cases i:0<cW r
   ·rw[KX i]
    omega
   ·rw[KY i,o r i]
    omega
  ·rw[KY a,KY a,KY a,b]
   simp
theorem Aq{v c:Int}{l:List (Int×Int)}(hc:0<=c)(h:∀q∈l,q.2-v<=c):dV v l<=c:=by
 induction l with
 |nil=>exact hc
 |cons q r a=>
  have b:=a λz i=>h z (by simp[i]);have j:=h q Ud;simp only[dV,List.foldr_cons,m8]at b ⊢;split<;>omega
theorem Ar(l:List (Int×Int)):cW l<=l.length:=List.length_filter_le _ _
theorem FZ(N:Nat)(Z:N<=1000000):∀(x:Tr) (d:Int),Wf x ->Dp d x ->(row x).length<=N ->VC prog 101 [bB x,pI d] (.tup [pI (cW (varsT x d 0)),pI (dV d (varsT x d 0))]):=by
 induction N with
 |zero=>
  intro x d _ _ h;have:=aR x;omega
 |succ N P=>
  intro x d j C hl;have R:=gO j.ok;have eK:=aq trP (kidsT x);have D:=C;unfold Dp at D;have fin:∀{a b M O:Int},a=M ->b=O ->PV.tup [pI a,pI b]= .tup [pI M,pI O]:=λr o=>by rw[r,o]
  refine vf 56 [.tmp 4,.tmp 5] τok func101 ?_;refine ae (λr=>?_) (λr=>?_)
  ·have hv:=kX j.ok r
   rw[vY r];refine ae (λo=>?_) (λo=>?_)
   ·exact⟨_,_,rfl,rfl,fin (by rw[vZ,KX o];rfl) (by simp only[dV,List.foldr_cons,List.foldr_nil,m8,KX o];omega)⟩
   ·exact⟨_,_,rfl,rfl,fin (by rw[vZ,KY o];rfl) (by simp only[dV,List.foldr_cons,List.foldr_nil,m8,KY o])⟩
  ·have E:=Ah (d:=d) j.ok r
   have s:=gL' x d 0;have t:=vX j.ok C;have S:=Ar (varsT x d 0);have hw:=j.len;rw[E]at s t S ⊢;have T:=ph (v:=d) (vK x.n d (kidsT x) 0);have U:=Aq (v:=d) (l:=vK x.n d (kidsT x) 0) (c:=1000000000) Uo λq F=>by have:=t q F;omega
   refine aB τok (σ:=Nat×Int×Int) [(1,_),(2,_)] [(2,_)] (λq=>[(6,vI q.2.1),(7,vI q.2.2),(8,vI q.1)]) (λ_=>[]) (λq=>q.1<=(kidsT x).length/\0<=q.2.1/\0<=q.2.2/\q.2.1+cW (vK x.n d ((kidsT x).drop q.1) q.1)=cW (vK x.n d (kidsT x) 0)/\max q.2.2 (dV d (vK x.n d ((kidsT x).drop q.1) q.1))=dV d (vK x.n d (kidsT x) 0)) (λq=>(kidsT x).length-q.1) (0,0,0) ⟨KV _,UO,UO,by simp only[List.drop_zero];omega,by simp only[List.drop_zero];omega⟩ ?_;rintro⟨i,n,m⟩ ⟨V,W,X,H,u⟩;simp only at V W X H u;refine aj<|ae (λg=>?_) (λg=>?_)
   ·obtain⟨y,w,z⟩:=az (l:=kidsT x) (k:=i)
    have Y:=ij j.ok w;have I:=oq j.ok i;have A:=C.kid j.ok w;have K:=vX (j.kid w).ok A;have L:=FY I.1 (varsT y (d+kb x.n i) 0) λq F=>(K q F).1;have h0:=ph (v:=d+kb x.n i) (varsT y (d+kb x.n i) 0);rw[z,vK,MX]at H;rw[z,vK,FX,L]at u;refine af (qf _ _ _ i Uo) ?_;refine vt i w ?_;refine vi ?_ (by simp only[fT];omega) (by simp only[fT];omega);refine af (P Uo y _ (j.kid w) A Uo) ?_;refine ae (λp=>?_) (λp=>?_)
    ·have p:0<cW (varsT y (d+kb x.n i) 0):=by rw[fT]at p;omega
     rw[KX p]at u;refine vi ?_ (by simp only[fT];omega) (by simp only[fT];omega);refine vi ?_ (by simp only[fT];omega) (by simp only[fT];omega);refine vi ?_;exact au (i+1,n+cW (varsT y (d+kb x.n i) 0),max m (dV (d+kb x.n i) (varsT y (d+kb x.n i) 0)+kb x.n i)) ⟨Us,Us,Us,Us,Us⟩
    ·have p:¬ 0<cW (varsT y (d+kb x.n i) 0):=by rw[fT]at p;omega
     rw[KY p]at u;refine vi ?_ (by simp only[fT];omega) (by simp only[fT];omega);refine vi ?_;exact au (i+1,n+cW (varsT y (d+kb x.n i) 0),m) ⟨Us,Us,Us,Us,Us⟩
   ·rw[JY Uo]at H u
    have e1:cW (vK x.n d [] i)=0:=rfl;have e2:dV d (vK x.n d [] i)=0:=rfl;exact⟨_,_,rfl,rfl,fin Us Us⟩
def fU(b:Int)(d:Int)(n:Nd):Tr:=.mk {n with a:=if d<=n.a then n.a+b else n.a} []
theorem MY{x:Tr}(c:Ok .tm x)(i:dR x){b:Int}(hb:b<=500000):aG x b 0=mT (fU b) x 0 0:=by
 have a:=ms c i (by_:=b) (fr:=0) hb;unfold ln at a;rw[xS' (h:=fE b 0) (f:=fU b) x .tm 0 0 c.1 λq l n a p r=>by
   have o:=i q l;unfold fE fU
   by_cases j:q.2<=n.a
   ·rw[KX Uo,KY Uo,KX j]
   ·rw[KY Uo,KY j]]at a
 exact(JB a).symm
def sX(u:Tr)(v:Int)(d:Int)(n:Nd):Tr:=if n.a=v+d then kw u (v+d)else if v+d<n.a/\0<n.a then .mk {n with a:=n.a-1} []else .mk n []
theorem MZ{x u:Tr}(b:Ok .tm x)(v:Int):fH x u v=mT (sX u v) x 0 0:=by
 have a:=pJ (u:=u) b v;rw[xS' (h:=fG u v) (f:=sX u v) x .tm 0 0 b.1 λq c n a i j=>by
   unfold fG sX;split
   ·rfl
   ·split<;>rfl]at a
 exact(JB a).symm
def M0{α β:Type}(f:α ->β)(m:Except Int α):Except Int β:=match m with
 | .error e=>.error e
 | .ok x=>.ok (f x)
theorem F0{x:Tr}{f:Int ->Nd ->Tr}{d:Int}(b:Ok .tm x)(h:x.n.op≠1 \/mT f x d 0=x):PV.agg (fL x.n ((iw f x.n d (kidsT x) 0).map trP) ((atmsT x).map ndP) ((funsT x).map ndP))=bB (mT f x d 0):=by
 by_cases a:x.n.op=1
 ·rcases h with h|h
  ·exact absurd a h
  ·rw[h,(kX b a).1,(kX b a).2.1,(kX b a).2.2.1]
   show _=PV.agg (fL _ _ _ _);rw[(kX b a).1,(kX b a).2.1,(kX b a).2.2.1]
   rfl
 ·exact(MK b a).symm
theorem F1(a b:Int):bB (.mk ⟨1,a,b⟩ [])= .agg [pI 1,pI a,pI b,.sl [],.sl [],.sl []]:=rfl
theorem sY(b:Int)(hb:0<=b/\b<=1000000000)(N:Nat)(K:N<=1000000):∀(x:Tr) (d:Int),Wf x ->Dp d x ->(row x).length<=N ->VC prog 100 [bB x,pI b,pI d] (bB (mT (fU b) x d 0)):=by
 induction N with
 |zero=>
  intro x d _ _ h;have:=aR x;omega
 |succ N w=>
  intro x d a s L;have z:=gO a.ok;have A:=aq trP (kidsT x);have o:=s;unfold Dp at o;refine vf 60 [.cell 6 60] τok func100 ?_;refine ae (λc=>?_) (λc=>?_)
  ·have C:=kX a.ok c
   obtain⟨t,M,O,u,D,P,R⟩:=C;have v:mT (fU b) x d 0=fU b d x.n:=by rw[u];exact sR c
   refine ae (λq=>?_) (λq=>?_)
   ·refine vi ?_
    exact aF (h3:=by
     have e:fU b d x.n= .mk ⟨1,x.n.a+b,0⟩ []:=by unfold fU;rw[KX q,c,D]
     rw[v,e,F1]
     rfl)
   ·refine aB τok (σ:=Unit) [(1,_),(2,_),(3,_),(6,_),(7,_)] [(3,_),(6,_),(7,_)] (λ_=>[(8,vI 0)]) (λ_=>[]) (λ_=>True) (λ_=>0) () trivial ?_
    rintro _ _;refine aj<|vn ?_ (by rw[A,t];simp);exact aF (h3:=by
     have e:fU b d x.n=x:=by unfold fU;rw[KY q];exact u.symm
     rw[v,e];show _=PV.agg (fL _ _ _ _);rw[t]
     rfl)
  ·refine kJ 7 3 1000 60 6 rfl rfl rfl UO ?_
   refine aB τok (σ:=Nat) [(1,_),(2,_),(3,_),(6,_),(7,_)] [(3,_),(6,_)] (λi=>[(8,vI i)]) (λi=>[(7,.st 0 60 [.p (pI x.n.op),.p (pI x.n.a),.p (pI x.n.b),.row 1000,.p (.sl ((atmsT x).map ndP)),.p (.sl ((funsT x).map ndP))]),(1000,.rw 60 6 ((iw (fU b) x.n d ((kidsT x).take i) 0).map trP))]) (λi=>i<=(kidsT x).length) (λi=>(kidsT x).length-i) 0 (KV _) ?_;rintro i E;refine aj<|ae (λg=>?_) (λg=>?_)
   ·obtain⟨y,j,F⟩:=az (l:=kidsT x) (k:=i)
    have H:=ij a.ok j;have I:=oq a.ok i;have r:=Af (f:=fU b) (n:=x.n) (d:=d) ((kidsT x).take i) 0;rw[VJ]at r;refine vt i j ?_;refine af (qf _ _ _ i Uo) ?_;refine vi ?_ (by rw[fT];omega) (by rw[fT];omega);refine af (w Uo y _ (a.kid j) (s.kid a.ok j) Uo) ?_;refine bg ?_;refine vk ?_;refine vi ?_;refine au (i+1) (by show i+1<=_;omega) (sw 1000 57) (y':=⟨rfl,KG (λl=>some (SE.rw _ _ l)) ?_,trivial⟩);rw[QQ,j,Option.toList,Aj,KB,VJ,KW,Nat.min_eq_left E];exact KG (_++[·]) (kK _).symm
   ·rw[JG Uo]
    exact⟨_,_,rfl,rfl,F0 a.ok (.inl c)⟩
def kY(u:Tr)(d:Int)(n:Nd):Tr:=if n.a=d then mT (fU d) u 0 0 else if d<n.a then .mk {n with a:=n.a-1} []else .mk n []
theorem sZ(u:Tr)(o:Wf u)(N:Nat)(I:N<=1000000):∀(x:Tr) (d:Int),Wf x ->Dp d x ->(row x).length<=N ->VC prog 102 [bB x,bB u,pI d,pI d] (bB (mT (kY u) x d 0)):=by
 induction N with
 |zero=>
  intro x d _ _ h;have:=aR x;omega
 |succ N w=>
  intro x d a t K;have z:=gO a.ok;have L:=aq trP (kidsT x);have q:=t;unfold Dp at q;refine vf 73 [.cell 8 60] τok func102 ?_;refine ae (λb=>?_) (λb=>?_)
  ·obtain⟨M,O,P,v,A,R,S⟩:=kX a.ok b
   have C:mT (kY u) x d 0=kY u d x.n:=by rw[v];exact sR b
   rw[C];refine ae (λj=>?_) (λj=>?_)
   ·refine af (sY d Uo 4096 Uo u 0 o ⟨Uo,by have:=o.len;omega⟩ o.len) ?_
    exact aF (h3:=by unfold kY;rw[KX j];rfl)
   ·refine ae (λr=>?_) (λr=>?_)
    ·refine vi ?_
     exact aF (h3:=by unfold kY;rw[KY j,KX r,b,A,F1];rfl)
    ·exact aF (h3:=by unfold kY;rw[KY j,KY r,<- v];rfl)
  ·refine kJ 9 3 1000 60 6 rfl rfl rfl UO ?_
   refine aB τok (σ:=Nat) [(1,_),(2,_),(3,_),(4,_),(5,_),(8,_),(9,_)] [(4,_),(5,_),(8,_)] (λi=>[(10,vI i)]) (λi=>[(9,.st 0 60 [.p (pI x.n.op),.p (pI x.n.a),.p (pI x.n.b),.row 1000,.p (.sl ((atmsT x).map ndP)),.p (.sl ((funsT x).map ndP))]),(1000,.rw 60 6 ((iw (kY u) x.n d ((kidsT x).take i) 0).map trP))]) (λi=>i<=(kidsT x).length) (λi=>(kidsT x).length-i) 0 (KV _) ?_;rintro i D;refine aj<|ae (λg=>?_) (λg=>?_)
   ·obtain⟨y,c,E⟩:=az (l:=kidsT x) (k:=i)
    have F:=ij a.ok c;have H:=oq a.ok i;have s:=Af (f:=kY u) (n:=x.n) (d:=d) ((kidsT x).take i) 0;rw[VJ]at s;refine af (qf _ _ _ i Uo) ?_;refine vt i c ?_;refine vi ?_ (by rw[fT];omega) (by rw[fT];omega);refine vi ?_ (by rw[fT];omega) (by rw[fT];omega);refine af (w Uo y _ (a.kid c) (t.kid a.ok c) Uo) ?_;refine bg ?_;refine vk ?_;refine vi ?_;refine au (i+1) (by show i+1<=_;omega) (sw 1000 70) (y':=⟨rfl,KG (λl=>some (SE.rw _ _ l)) ?_,trivial⟩);rw[QQ,c,Option.toList,Aj,KB,VJ,KW,Nat.min_eq_left D];exact KG (_++[·]) (kK _).symm
   ·rw[JG Uo]
    exact⟨_,_,rfl,rfl,F0 a.ok (.inl b)⟩
theorem v7{x:Tr}(c:Ok .tm x)(i:dR x){b fr:Int}(hb:b<=500000):aG x b fr=mT (fU b) x fr 0:=by
 have a:=ms c i (by_:=b) (fr:=fr) hb;unfold ln at a;rw[xS' (h:=fE b fr) (f:=λd n=>fU b (d+fr) n) x .tm 0 0 c.1 λq o n a r s=>by
   have p:=i q o;unfold fE fU
   by_cases j:q.2+fr<=n.a
   ·rw[KX Uo,KY Uo,KX j]
   ·rw[KY Uo,KY j]]at a
 have l:=va' (f:=fU b) (f3:=λd n=>fU b (d+fr) n) (e:=fr) x .tm 0 0 c.1 λ_ _ _ _ _ _=>rfl;rw[Int.zero_add]at l;rw[l];exact(JB a).symm
theorem F2(x:Tr)(d:Int):varsT x d 0=(varsT x 0 0).map λq=>(q.1,q.2+d):=by
 have:=xH d x 0 0
 rwa [Int.zero_add]at this
theorem ot{x:Tr}(a:Wf x)(j:dR x){b fr:Int}(hb:0<=b/\b<=500000)(I:0<=fr/\fr<=500000):VC prog 56 [ah (row x),pI b,pI fr] (.tup [ah (row (aG x b fr)),pI 0]):=by
 have C:=a.len;have i:=lW (row x) Uo;rw[mZ a]at i;have D:Dp 0 x:=⟨Uo,Uo⟩
 have s:Dp fr x:=⟨Uo,Uo⟩
 have E:=FV 4096 Uo x 0 a D a.len;have F:=sW b Uo 4096 Uo x fr a s a.len;have hr:=sY b Uo 4096 Uo x fr a s a.len;have t:=v7 a.ok j (b:=b) (fr:=fr) hb.2;rw[<- t]at hr;have u:Wf (aG x b fr):=⟨ug a.ok j hb.1 hb.2,KQ (ui a.ok j hb.2) C⟩
 have H:=sU (b:=b) (l:=varsT x fr 0) (c:=1000000) Uo λq o _=>by
  rw[F2]at o;obtain⟨p,v,rfl⟩:=List.mem_map.1 o;have:=j p v;simp only;omega
 refine vf 49 [.tmp 6,.tmp 7] τok func56 ?_;refine af i ?_;refine vn ?_;refine vn ?_;refine vn ?_;refine af (iO a) ?_;refine af E ?_;refine ae (λg=>?_) (λg=>?_)
 ·have:aG x b fr=x:=by
   have w:=vb' (f:=fU b) (e:=fr) x .tm 0 0 a.ok.1 λq o n K v L=>by
    have:q.1-q.2<=dM (varsT x 0 0):=by
     have:∀l:List (Int×Int),q∈l ->q.1-q.2<=dM l:=by
      intro l
      induction l with
      |nil=>intro h;cases h
      |cons z r A=>
       intro h;simp only[dM,List.foldr_cons,pg]at A ⊢;rcases List.mem_cons.1 h with rfl|h
       ·omega
       ·have:=A h;omega
     exact this _ o
    unfold fU;rw[KY Uo]
   rw[Int.zero_add]at w;rw[t];exact w
  rw[this];refine af (lJ 4096 Uo x a a.len) ?_;exact aF
 ·refine vn ?_
  refine af F ?_;refine vn ?_;refine af hr ?_;refine af (lJ 4096 Uo _ u u.len) ?_;exact aF
theorem F3{x u:Tr}(a:Wf x){v:Int}(c:Ok .tm u)(i:dR u)(o:0<=v/\v<=300000):mT (kY u) x v 0=fH x u v:=by
 rw[MZ a.ok v];have j:=va' (f:=kY u) (f3:=sX u v) (e:=v) x .tm 0 0 a.ok.1 λq l n p r s=>by
  have t:=fj' x .tm 0 0 a.ok.1 Uo Uo Uo q l;have:=a.len;unfold kY sX
  by_cases e:n.a=q.2+v
  ·rw[KX e,KX Uo,kw,KX Uo,MY c i Uo,Int.add_comm]
  ·rw[KY e]
   by_cases b:q.2+v<n.a
   ·rw[KX b,KY (show ¬ n.a=v+q.2 by omega),KX Uo]
   ·rw[KY b,KY (show ¬ n.a=v+q.2 by omega),KY Uo]
 rwa [Int.zero_add]at j
theorem F4(x:Tr)(v:Int):(cW (varsT x v 0):Int)=(oP x v).1:=by
 have b:=xK v (varsT x 0 0) (0,0);unfold oP;rw[b,F2];simp only[Int.zero_add,iB,cW]
 congr 1
 induction varsT x 0 0 with
 |nil=>rfl
 |cons q r a=>
  simp only[List.map_cons,List.filter_cons]
  by_cases h:q.1=q.2+v
  ·rw[KX (KU h),KX Uk,JV,JV,a]
  ·rw[KY (by simpa using h),KY Uk,a]
theorem s5{x u:Tr}(a:Wf x)(i:Wf u)(r:dR u){v:Int}(I:0<=v/\v<=300000):VC prog 57 [ah (row x),ah (row u),pI v] (de (bh x u v)):=by
 have X:=a.len;have M:=i.len;have p:=aq ndP (row x);have j:=aq ndP (row u);have O:=aR u;have s:=lW (row x) Uo;have t:=lW (row u) Uo;rw[mZ a]at s;rw[mZ i]at t;have K:Dp v x:=⟨Uo,Uo⟩
 have P:=FZ 4096 Uo x v a K a.len;have Y:=Ar (varsT x v 0);have R:=gL' x v 0;have S:=ph (v:=v) (varsT x v 0);have D:=fj' x .tm v 0 a.ok.1 I.1 Uo Uo;have T:=Aq (v:=v) (l:=varsT x v 0) (c:=20000) Uo λq E=>by have:=D q E;omega
 have U:=sW (v+dV v (varsT x v 0)) Uo 4096 Uo u 0 i ⟨Uo,Uo⟩ i.len;have V:=sU (b:=v+dV v (varsT x v 0)) (l:=varsT u 0 0) (c:=1000000) Uo λq E _=>by have:=r q E;omega
 have F:=sZ u i 4096 Uo x v a K a.len;rw[F3 a i.ok r I]at F;have W:=F4 x v;have L:0<=(cW (varsT x v 0):Int)*(((row u).length:Int)-1)/\(cW (varsT x v 0):Int)*(((row u).length:Int)-1)<=4096*4096:=⟨Int.mul_nonneg Uo Uo,Int.mul_le_mul Uo Uo Uo Uo⟩
 have w:gN x u v=true↔4096<((row x).length:Int)+(cW (varsT x v 0):Int)*(((row u).length:Int)-1):=by
  unfold gN;rw[<- W];exact decide_eq_true_iff
 have z:VC prog 98 [bB (fH x u v)] (ah (row (fH x u v))) \/gN x u v=true:=by
  cases A:gN x u v with
  |true=>exact .inr rfl
  |false=>exact .inl (lJ 4096 Uo _ ⟨xE a.ok i.ok r,uq a.ok i.ok r A⟩ (uq a.ok i.ok r A))
 have C:min v 2097152=v:=Uo
 refine vf 69 [.tmp 6,.tmp 7] τok func57 ?_;refine af s ?_;refine vy ?_;refine af t ?_;refine vn ?_;refine vn ?_;refine af (iO a) ?_;refine af (iO i) ?_;refine af (show VC prog _ [bB x,pI (min v 2097152)] _ by rw[C];exact P) ?_;have fin:4096<((row x).length:Int)+(cW (varsT x v 0):Int)*(((row u).length:Int)-1) ->PV.tup [.sl [],pI 9]=de (bh x u v):=λh=>by unfold bh;rw[KX (w.2 h)];rfl
 have o:¬ 4096<((row x).length:Int)+(cW (varsT x v 0):Int)*(((row u).length:Int)-1) ->VC prog 98 [bB (fH x u v)] (ah (row (fH x u v)))/\PV.tup [ah (row (fH x u v)),pI 0]=de (bh x u v):=λh=>by
  have A:¬ gN x u v=true:=λq=>h (w.1 q);refine⟨z.resolve_right A,?_⟩;unfold bh;rw[KY A]
  rfl
 refine ae (λg=>?_) (λg=>?_)
 ·refine vi ?_
  refine af (show VC prog _ [bB u,pI (min v 2097152+dV v (varsT x v 0)),pI 0] _ by rw[C];exact U) ?_;refine vn ?_;refine vi ?_;refine vi ?_ (by simp only[j];omega) (by simp only[j];omega);refine vi ?_ (by simp only[p,j];omega) (by simp only[p,j];omega);refine ae (λn=>?_) (λn=>?_)<;>simp only[p,j]at n
  ·exact⟨_,_,rfl,rfl,fin n⟩
  ·obtain⟨q1,H⟩:=o n
   refine af (show VC prog _ [bB x,bB u,pI (min v 2097152),pI (min v 2097152)] _ by rw[C];exact F) ?_;exact af q1<|⟨_,_,rfl,rfl,H⟩
 ·refine vi ?_
  refine vi ?_ (by simp only[j];omega) (by simp only[j];omega);refine vi ?_ (by simp only[p,j];omega) (by simp only[p,j];omega);refine ae (λn=>?_) (λn=>?_)<;>simp only[p,j]at n
  ·exact⟨_,_,rfl,rfl,fin n⟩
  ·obtain⟨q1,H⟩:=o n
   refine af (show VC prog _ [bB x,bB u,pI (min v 2097152),pI (min v 2097152)] _ by rw[C];exact F) ?_;exact af q1<|⟨_,_,rfl,rfl,H⟩
theorem j6{x:Tr}(i:Wf x)(b:x.n.op=6):∃f a,kidsT x=[f,a]/\Wf f/\Wf a/\headT x=headT f/\argsT x=argsT f++[a]/\(row f).length<(row x).length:=by
 obtain⟨n,o⟩:=x;have b:n.op=6:=id b;have c:¬ n.op=2/\¬ n.op=12:=Uo
 obtain⟨f,a,rfl,p,q⟩:=nD i.ok b;have l:kidsT (.mk n [f,a])=[f,a]:=by simp only[kidsT,KY c.1,KY c.2]
 exact⟨f,a,l,i.kid (j:=0) (by rw[l];rfl),i.kid (j:=1) (by rw[l];rfl),lq b,lr b,ij i.ok (j:=0) (by rw[l];rfl)⟩
theorem gk{x:Tr}(a:x.n.op≠6):headT x=x/\argsT x=[]:=by
 obtain⟨n,b⟩:=x;exact⟨mu a,nE a⟩
theorem ou{x:Tr}(c:Wf x):∀N:Nat,(row x).length<=N ->(argsT x).length<N:=by
 intro N
 induction N generalizing x with
 |zero=>intro h;have:=aR x;omega
 |succ N i=>
  intro h
  by_cases b:x.n.op=6
  ·obtain⟨f,a,_,j,_,_,e,l⟩:=j6 c b
   have:=i j Uo;rw[e];simp;omega
  ·rw[(gk b).2]
   simp
theorem As{x:Tr}(i:Wf x):VC prog 148 [ah (row x)] (.tup [ah (row (headT x)),bG ((argsT x).map row)]):=by
 have v:=ou i 4096 i.len;refine cN 33 [.tmp 2,.tmp 3] τok func148 ?_;refine aj<|af (iO i) ?_;refine dK 6 1000 39 1 rfl rfl<|aB τok (σ:=Tr×List Tr) [(0,_),(2,_),(3,_),(4,_)] [] (λq=>[(6,.c (.row 1000))]) (λq=>[(4,.st 0 60 ((ec q.1).map .p)),(1000,.rw 39 1 (q.2.map λy=>[ah (row y)]))]) (λq=>Wf q.1/\headT q.1=headT x/\argsT q.1++q.2=argsT x) (λq=>(row q.1).length) (x,[]) ⟨i,rfl,Ud⟩ ?_;rintro⟨z,w⟩ ⟨j,n,b⟩;simp only at j n b;have A:=KG List.length b;rw[JK]at A;refine aj<|ae (λg=>?_) (λg=>?_)
 ·obtain⟨f,a,s,C,t,o,r,D⟩:=j6 j g
  refine vt 1 (by rw[s];rfl) ?_;refine af (lJ 4096 Uo a t t.len) ?_;refine va ?_ (λy _=>⟨rfl,λq u=>by simp at u;subst u;rfl⟩);refine vt 0 (by rw[s];rfl) ?_;exact au (f,a::w) ⟨C,by rw[<- o];exact n,by rw[<- b,r];simp⟩ (sw 1000 25)
 ·obtain⟨o,r⟩:=gk g
  refine af (lJ 4096 Uo z j j.len) ?_;rw[o]at n;rw[r,List.nil_append]at b;exact aF (h3:=by
   rw[<- n,<- b];exact KG (λl=>PV.tup [ah (row z),PV.sl l]) (by rw[List.map_map];rfl))
theorem M1{x:Tr}{ys:List Tr}{i:Nat}{y:Tr}(a:ys[i]?=some y):row (ak' x (ys.take (i+1)))=appN::row (ak' x (ys.take i))++row y/\(row (ak' x (ys.take i))).length<=(row (ak' x ys)).length:=by
 have n:=aL a;have e:ys=ys.take i++y::ys.drop (i+1):=by
  obtain⟨z,j,o⟩:=az n;rw[a]at j;obtain rfl:=JB j;rw[<- o,List.take_append_drop]
 have p:∀l:List Tr,rows (l++[y])=rows l++row y:=by
  intro l
  induction l with
  |nil=>simp[rows]
  |cons z r b=>simp[rows,b]
 constructor
 ·rw[QQ,a,Option.toList,bO',bO',p,JK,List.length_singleton,List.replicate_succ]
  simp
 ·have c:∀l m:List Tr,(rows (l++m)).length=(rows l).length+(rows m).length:=by
   intro l m
   induction l with
   |nil=>simp[rows]
   |cons z r b=>simp only[List.cons_append,rows,JK,b];omega
  conv=>rhs;rw[e]
  simp only[bO',JK,List.length_replicate,c];omega
theorem s6{x:Tr}(r:Wf x){ys:List Tr}(v:∀y∈ys,Wf y)(hl:ys.length<=5000):VC prog 146 [ah (row x),bG (ys.map row)] (de (aP x ys)):=by
 have n:=lW (row x) (by have:=r.len;omega);rw[mZ r]at n;have w:=r.len;have z:((ys.map row).map λt=>[ah t])=ys.map λy=>[ah (row y)]:=by rw[List.map_map];rfl
 have F:=aq (λy=>[ah (row y)]) ys;show VC _ _ [ah (row x),.sl ((ys.map row).map λt=>[ah t])] _;rw[z];refine vf 47 [.tmp 4,.tmp 5] τok func146 ?_;refine af n ?_;refine vn ?_;refine va ?_ (gX _);refine aB τok (σ:=Nat×List Nd) [(1,_),(4,_),(5,_)] [] (λq=>[(7,.c (.row 1000)),(8,vI q.1)]) (λq=>[(1000,.rw 47 3 (q.2.map ndP))]) (λq=>q.1<=ys.length/\q.2.length<=10000/\(q.2=row (ak' x (ys.take q.1)) \/4096<q.2.length/\4096<(row (ak' x ys)).length)) (λq=>ys.length-q.1) (0,row x) ⟨KV _,Us,.inl (by simp[ak'])⟩ ?_ (sw 1000 16);rintro⟨i,l⟩ ⟨A,s,o⟩;simp only at A s o;have C:=aq ndP l;refine aj<|ae (λg=>?_) (λg=>?_)
 ·obtain⟨y,a,H⟩:=az (l:=ys) (k:=i)
  have u:=v y (JQ a);have D:=u.len;have p:=lW (row y) Uo;rw[mZ u]at p;obtain⟨E,I⟩:=M1 (x:=x) a;refine vm i a ?_;refine af p ?_;refine vn ?_;refine ae (λj=>?_) (λj=>?_)
  ·refine va ?_ (gX _)
   refine vm i a ?_;refine va ?_ (gX _);refine vk ?_;refine vi ?_;have b:l=row (ak' x (ys.take i)):=o.resolve_right λq=>by have:=q.1;simp only at j;omega
   exact au (i+1,appN::l++row y) ⟨Us,by simp only[JK,JV];simp only at j;omega,.inl (by rw[E,b])⟩ (sw 1000 42) (y':=⟨KG (λl=>some (SE.rw _ _ l)) (by simp[dp];rfl),trivial⟩)
  ·refine vi ?_
   refine au (i+1,l) ⟨Us,s,.inr ?_⟩;simp only at j;rcases o with h|h
   ·have:=KG List.length h
    exact⟨Us,Uo⟩
   ·exact h
 ·refine ae (λj=>?_) (λj=>?_)<;>simp only[C]at j
  ·exact aF (h3:=by
    unfold aP;rw[KX]
    ·rfl
    ·rcases o with h|h
     ·rw[JG Uo]at h
      rw[<- h];omega
     ·exact h.2)
  ·have b:l=row (ak' x ys):=by
    rcases o with h|h
    ·rwa [JG Uo]at h
    ·have:=h.1;omega
   exact aF (h3:=by
    unfold aP;rw[KY (by rw[<- b];omega),b]
    rfl)
theorem preB_take{ys:List Tr}{i:Nat}{y:Tr}(a:ys[i]?=some y):dS 4 (ys.take (i+1))=dS 4 (ys.take i)++⟨4,0,0⟩::row y/\(dS 4 (ys.take i)).length<=(dS 4 ys).length:=by
 constructor
 ·rw[QQ,a,Option.toList]
  simp[dS]
 ·conv=>rhs;rw[<- List.take_append_drop i ys]
  simp only[dS,List.flatMap_append,JK];omega
theorem wb{x:Tr}(s:Wf x){ys:List Tr}(z:∀y∈ys,Wf y)(hl:ys.length<=5000):VC prog 89 [pI 4,bG (ys.map row),ah (row x)] (de (bp ys x)):=by
 have n:=lW (row x) (by have:=s.len;omega);rw[mZ s]at n;have A:=s.len;have C:=aR x;have D:((ys.map row).map λt=>[ah t])=ys.map λy=>[ah (row y)]:=by rw[List.map_map];rfl
 have K:=aq (λy=>[ah (row y)]) ys;have u:=uk 4 ys x;have o:=KG List.length u;rw[JK]at o;show VC _ _ [pI 4,.sl ((ys.map row).map λt=>[ah t]),_] _;rw[D];refine cN 57 [.tmp 6,.tmp 7] τok func89 ?_;refine aj<|vn ?_;refine dK 8 1000 47 3 rfl rfl<|aB τok (σ:=Nat×List Nd) [(0,_),(1,_),(2,_),(6,_),(7,_)] [] (λq=>[(8,.c (.row 1000)),(9,vI q.1)]) (λq=>[(1000,.rw 47 3 (q.2.map ndP))]) (λq=>q.1<=ys.length/\q.2.length<=10000/\(q.2=dS 4 (ys.take q.1) \/4096<q.2.length/\4096<(dS 4 ys).length)) (λq=>ys.length-q.1) (0,[]) ⟨KV _,Ud,.inl (by simp[dS])⟩ ?_;rintro⟨i,l⟩ ⟨E,v,p⟩;simp only at E v p;have F:=aq ndP l;refine aj<|ae (λg=>?_) (λg=>?_)
 ·obtain⟨y,a,L⟩:=az (l:=ys) (k:=i)
  have w:=z y (JQ a);have H:=w.len;have r:=lW (row y) Uo;rw[mZ w]at r;obtain⟨I,M⟩:=preB_take a;refine vm i a ?_;refine af r ?_;refine vn ?_;refine ae (λj=>?_) (λj=>?_)
  ·refine bg ?_
   refine vm i a ?_;refine va ?_ (gX _);refine vk ?_;refine vi ?_;have b:l=dS 4 (ys.take i):=p.resolve_right λq=>by have:=q.1;simp only at j;omega
   exact au (i+1,l++⟨4,0,0⟩::row y) ⟨Us,by simp only[JK,JV];simp only at j;omega,.inl (by rw[I,b])⟩ (sw 1000 44) (y':=⟨KG (λl=>some (SE.rw _ _ l)) (by simp[dp];rfl),trivial⟩)
  ·refine vi ?_
   refine au (i+1,l) ⟨Us,v,.inr ?_⟩;simp only at j;rcases p with h|h
   ·have:=KG List.length h
    exact⟨Us,Uo⟩
   ·exact h
 ·refine af n ?_
  refine vn ?_;refine va ?_ (gX _);refine ae (λj=>?_) (λj=>?_)<;>simp only[JK,F,aq ndP (row x)]at j
  ·exact aF (h3:=by
    unfold bp;rw[KX]
    ·rfl
    ·rcases p with h|h
     ·rw[JG Uo]at h
      rw[h]at j;omega
     ·omega)
  ·have b:l=dS 4 ys:=by
    rcases p with h|h
    ·rwa [JG Uo]at h
    ·have:=h.1;omega
   exact aF (h3:=by
    unfold bp;rw[KY (by rw[o,<- b];omega),b];show _=PV.tup [ah (row (eU 4 ys x)),pI 0];rw[u];exact KG (λl=>PV.tup [.sl l,pI 0]) (by rw[KB]))
theorem iQ{B:ak}{a:Int}(b:0<=a)(h:a<B.ents.length:=by omega):B.ents[a.toNat]?=some (ax B a):=by
 unfold ax;rw[QK,gE]
 rfl
theorem pi{B:ak}{known:Nat}(l:known<=B.ents.length)(e:Int):VC prog 22 [bk B,pI e,pI known] (.bool (bF B known e)):=by
 have n:=aq bI B.ents;have b:∀{p:Prop},¬ (0<=e/\e<known/\(ax B e).kind=1) ->PV.bool false= .bool (bF B known e):=λh=>by
  cases j:bF B known e with
  |false=>rfl
  |true=>exact absurd (by simpa[bF]using j) h
 refine vf 30 [.tmp 6] τok func22 ?_;refine ae (λa=>?_) (λa=>?_)
 ·refine ae (λc=>?_) (λc=>?_)
  ·refine vy ?_
   refine vm e.toNat (iQ a) ?_;refine ae (λi=>?_) (λi=>?_)
   ·exact aF (h3:=by rw[show bF B known e=true by simp only[bF,Bool.and_eq_true,decide_eq_true_eq];exact⟨a,c,i⟩];rfl)
   ·exact⟨_,_,rfl,rfl,b (p:=True) λq=>i q.2.2⟩
  ·exact⟨_,_,rfl,rfl,b (p:=True) λq=>c q.2.1⟩
 ·exact⟨_,_,rfl,rfl,b (p:=True) λq=>a q.1⟩
section
variable{B:ak}{known:Nat}{self:Int}
def lX(B:ak)(known:Nat)(self:Int)(x:Tr):Bool:=(row x).all (aY B known self)
theorem M3{x:Tr}(j:Ok .tm x):∀f∈funsT x,f.op=13:=λf b=>by
 obtain⟨n,c⟩:=x
 by_cases a:n.op=12
 ·have e:funsT (.mk n c)=c.map (·.n):=KX a
  rw[e]at b;obtain⟨y,l,rfl⟩:=List.mem_map.1 b;obtain⟨g,o,p,rfl,i,_⟩:=(Ag j a y l).fn;exact i
 ·have e:funsT (.mk n c)=[]:=KY a
  rw[e]at b;cases b
theorem M4{x:Tr}(i:Ok .tm x):∀f∈atmsT x,f.op=3:=λf a=>by
 obtain⟨n,b⟩:=x
 by_cases c:n.op=2
 ·have e:atmsT (.mk n b)=b.map (·.n):=KX c
  rw[e]at a;obtain⟨y,j,rfl⟩:=List.mem_map.1 a;obtain⟨m,rfl,l⟩:=vR i c y j;exact l
 ·have e:atmsT (.mk n b)=[]:=KY c
  rw[e]at a;cases a
theorem F5{op:Int}{F:List Nd}(b:∀f∈F,aY B known self f=true):∀(K:List Tr) (i:Nat),(cj op F i K).all (aY B known self)=K.all (lX B known self)
 |[],i=>rfl
 |y::r,i=>by
  simp only[cj,List.all_append,List.all_cons,F5 b r (i+1)];have:(if op=12/\i%2=0 then (F[i/2]?).toList else []).all (aY B known self)=true:=by
   split
   ·rw[List.all_eq_true]
    intro f a;cases h:F[i/2]? with
    |none=>rw[h]at a;cases a
    |some g=>
     rw[h]at a;obtain rfl:f=g:=by simpa using a
     exact b f (JQ h)
   ·rfl
  rw[this,Bool.true_and]
  rfl
theorem M5{x:Tr}(a:Ok .tm x):lX B known self x=(aY B known self x.n && ((atmsT x).all (aY B known self) && (kidsT x).all (lX B known self))):=by
 have hr:=iH a;have b:∀f∈funsT x,aY B known self f=true:=λf c=>by simp[aY,M3 a f c]
 unfold lX;rw[hr,List.all_cons,List.all_append,F5 b]
 rfl
theorem M6(U:known<=B.ents.length)(N:Nat)(hN:N<=1000000):∀x:Tr,Wf x ->(row x).length<=N ->VC prog 118 [bk B,pI known,pI self,bB x] (.bool (lX B known self x)):=by
 induction N with
 |zero=>
  intro x _ h;have:=aR x;omega
 |succ N V=>
  intro x t hl;have W:=gO t.ok;have eK:=aq trP (kidsT x);have eA:=aq ndP (atmsT x);have eE:=aq bI B.ents;have F:aw x.n=true/\x.n.op≠3/\x.n.op≠13:=by
   obtain⟨n,ks⟩:=x;exact t.ok.tm
  obtain⟨F,X,Y⟩:=F;have u:=dn F;have Z:(atmsT x).length<=4096:=by
   have h1:=KG List.length (iH t.ok);rw[JV,JK]at h1;have:=t.len;omega
  rw[M5 t.ok];have q:aY B known self x.n=false ->PV.bool false= .bool (aY B known self x.n && ((atmsT x).all (aY B known self) && (kidsT x).all (lX B known self))):=λh=>by rw[h];rfl
  have H:x.n.op=8 ->aY B known self x.n=(decide (0<=x.n.a) && (decide (x.n.a<known) && decide ((ax B x.n.a).kind=2))):=λh=>by simp[aY,h]
  have I:x.n.op=9 ->aY B known self x.n=(decide (x.n.a=self)||bF B known x.n.a):=λh=>by simp[aY,h]
  have A:x.n.op=11 ->aY B known self x.n=bF B known x.n.a:=λh=>by simp[aY,h]
  have v:x.n.op=10 ->aY B known self x.n=(bF B known x.n.a && decide (x.n.b<(ax B x.n.a).ctors.length)):=λh=>by simp[aY,h]
  have nn:x.n.op≠8 ->x.n.op≠9 ->x.n.op≠10 ->x.n.op≠11 ->aY B known self x.n=true:=λa b c d=>by simp[aY,a,b,c,d,X]
  have r:=pi U x.n.a;refine cN 126 [.tmp 8] τok func118 ?_;refine aD<|aD<|dd τok (σ:=Unit) [(1,_),(2,_),(4,_),(7,_),(9,_)] [(4,_),(7,_),(9,_)] (λ_=>[]) (λ_=>[]) (λ_=>x.n.op=8 ->aY B known self x.n=true) ?_ ?_
  ·refine ae (λo=>?_) (λo=>?_)
   ·refine ae (λp=>?_) (λp=>?_)
    ·refine vy ?_
     refine vm x.n.a.toNat (iQ u.2.2.1) ?_;refine ae (λs=>?_) (λs=>?_)
     ·exact au () λh=>by rw[H h];simp only[Bool.and_eq_true,decide_eq_true_eq];exact⟨u.2.2.1,p,s⟩
     ·exact⟨_,_,rfl,rfl,q (by rw[H o];simp[s])⟩
    ·exact⟨_,_,rfl,rfl,q (by rw[H o];simp[p])⟩
   ·exact au () λh=>absurd h o
  rintro _ m1;refine dd τok (σ:=Unit) [(1,_),(2,_),(4,_),(7,_),(9,_)] [(4,_),(7,_),(9,_)] (λ_=>[]) (λ_=>[]) (λ_=>(x.n.op=9 ->aY B known self x.n=true)/\(x.n.op=10 \/x.n.op=11 ->bF B known x.n.a=true)) ?_ ?_
  ·refine ae (λo=>?_) (λo=>?_)
   ·refine bN r (λf=>?_) (λf=>?_)
    ·refine vn ?_
     exact au () ⟨λh=>Uo,λ_=>f⟩
    ·exact⟨_,_,rfl,rfl,q (by rw[v o,f];rfl)⟩
   ·refine ae (λp=>?_) (λp=>?_)
    ·refine bN r (λf=>?_) (λf=>?_)
     ·refine vn ?_
      exact au () ⟨λh=>Uo,λ_=>f⟩
     ·exact⟨_,_,rfl,rfl,q (by rw[A p,f])⟩
    ·refine ae (λs=>?_) (λs=>?_)
     ·refine ae (λO=>?_) (λO=>?_)
      ·refine bN r (λf=>?_) (λf=>?_)
       ·exact au () ⟨λh=>by rw[I h,f,Bool.or_true],λh=>Uo⟩
       ·exact⟨_,_,rfl,rfl,q (by rw[I s,f,KH O];rfl)⟩
      ·exact au () ⟨λh=>by rw[I h,KU Uo];rfl,λh=>Uo⟩
     ·exact au () ⟨λh=>absurd h s,λh=>Uo⟩
  rintro _ ⟨m2,P⟩;refine dd τok (σ:=Unit) [(1,_),(2,_),(4,_),(7,_)] [(4,_),(7,_)] (λ_=>[]) (λ_=>[]) (λ_=>aY B known self x.n=true) ?_ ?_
  ·refine ae (λo=>?_) (λo=>?_)
   ·have f:=P (.inl o)
    have ff:(0<=x.n.a/\x.n.a<known/\(ax B x.n.a).kind=1):=by simpa[bF]using f
    refine vm x.n.a.toNat (iQ u.2.2.1) ?_;refine ae (λp=>?_) (λp=>?_)
    ·refine vk ?_
     exact⟨_,_,rfl,rfl,q (by rw[v o,f,KH (by rw[KF]at p;omega)];rfl)⟩
    ·refine vk ?_
     exact au () (by show aY B known self x.n=true;rw[v o,f,KU (by rw[KF]at p;omega)];rfl)
   ·refine vk ?_
    refine au () ?_;show aY B known self x.n=true
    by_cases R:x.n.op=8
    ·exact m1 R
    ·by_cases S:x.n.op=9
     ·exact m2 S
     ·by_cases w:x.n.op=11
      ·rw[A w];exact P (.inr w)
      ·exact nn R S o w
  rintro _ hn;rw[hn,Bool.true_and];refine aj<|aB τok (σ:=Nat) [(1,_),(2,_),(4,_),(7,_)] [(4,_),(7,_)] (λi=>[(10,vI i)]) (λ_=>[]) (λi=>i<=(atmsT x).length/\∀m∈(atmsT x).take i,aY B known self m=true) (λi=>(atmsT x).length-i) 0 ⟨KV _,Ud⟩ ?_;rintro i ⟨o,p⟩;refine aj<|ae (λg=>?_) (λg=>?_)
  ·obtain⟨m,K,hd⟩:=az (l:=atmsT x) (k:=i)
   have C:=JQ K;have T:aY B known self m=decide (m.a<=B.vars):=by simp[aY,M4 t.ok m C]
   refine vm i K ?_;refine ae (λs=>?_) (λs=>?_)
   ·refine vk ?_
    exact aF (h3:=by
     have:(atmsT x).all (aY B known self)=false:=by
      rw[List.all_eq_false];exact⟨m,C,by rw[T,KH Uo];decide⟩
     rw[this]
     rfl)
   ·refine vk ?_
    refine vi ?_;refine au (i+1) ⟨Uo,λz D=>?_⟩;rw[QQ,K,Option.toList]at D;rcases List.mem_append.1 D with h|h
    ·exact p z h
    ·obtain rfl:=List.mem_singleton.1 h
     rw[T,KU Uo]
  ·rw[JG Uo]at p
   have hA:(atmsT x).all (aY B known self)=true:=List.all_eq_true.2 p;rw[hA,Bool.true_and];refine aB τok (σ:=Nat) [(1,_),(2,_),(4,_),(7,_)] [(4,_),(7,_)] (λi=>[(11,vI i)]) (λ_=>[]) (λi=>i<=(kidsT x).length/\∀m∈(kidsT x).take i,lX B known self m=true) (λi=>(kidsT x).length-i) 0 ⟨KV _,Ud⟩ ?_;rintro j ⟨k1,L⟩;refine aj<|ae (λk=>?_) (λk=>?_)
   ·obtain⟨y,E,hd⟩:=az (l:=kidsT x) (k:=j)
    have M:=JQ E;have a0:=ij t.ok E;refine vt j E ?_;refine bN (V Uo y (t.kid E) Uo) (λf=>?_) (λf=>?_)
    ·refine vk ?_
     refine vi ?_;refine au (j+1) ⟨Uo,λz D=>?_⟩;rw[QQ,E,Option.toList]at D;rcases List.mem_append.1 D with h|h
     ·exact L z h
     ·obtain rfl:=List.mem_singleton.1 h
      exact f
    ·refine vk ?_
     exact aF (h3:=by
      have:(kidsT x).all (lX B known self)=false:=by
       rw[List.all_eq_false];exact⟨y,M,by rw[f];decide⟩
      rw[this]
      rfl)
   ·rw[JG Uo]at L
    exact aF (h3:=by rw[List.all_eq_true.2 L];rfl)
theorem s7(i:known<=B.ents.length)(t:List Nd)(j:t.length<=1000000)(below:Int):VC prog 71 [bk B,pI known,pI self,pI below,ah t] (pI (dg B known self t below)):=by
 have l:=lW t j;refine vf 36 [.tmp 10] τok func71 ?_;refine af l ?_
 by_cases a:fF t=0
 ·obtain⟨x,c,rfl⟩:=vS a
  have n:dg B known self (row x) below=if ku x below=false then 8 else if (row x).any (λm=>!aY B known self m)=true then 8 else 0:=by
   unfold dg;rw[KY (by rw[a];decide),iY c.ok]
  have o:(row x).any (λm=>!aY B known self m)= !lX B known self x:=by
   unfold lX;rw[<- List.not_all_eq_any_not]
  rw[n,o];refine vn ?_ (by rw[a];decide);refine af (iO c) ?_;refine bN (MW c below) (λb=>?_) (λb=>?_)
  ·refine bN (M6 i 4096 Uo x c c.len) (λf=>?_) (λf=>?_)
   ·exact aF (h3:=by rw[b,f];rfl)
   ·exact aF (h3:=by rw[b,f];rfl)
  ·exact aF (h3:=by rw[b];rfl)
 ·refine vy ?_ a
  exact aF (h3:=by unfold dg;rw[KX a];rfl)
theorem Au{step:Int}:∀(ls:List (List Nd)) (b:Int) (i:Nat) (t:List Nd),ls[i]?=some t ->bX B known self step (ls.drop i) b=if dg B known self t b≠0 then dg B known self t b else bX B known self step (ls.drop (i+1)) (b+step)
 |l::r,b,0,t,h=>by
  obtain rfl:=JB h
  rfl
 |l::r,b,i+1,t,h=>Au r b i t h
theorem Av(j:known<=B.ents.length){ls:List (List Nd)}(hl:ls.length<=1000000/\∀t∈ls,t.length<=1000000){below:Int}(hb:-1000000000<=below/\below<=1000000000):VC prog 72 [bk B,pI known,pI self,pI below,bG ls] (pI (bX B known self 1 ls below)):=by
 have n:=aq (λt=>[ah t]) ls;refine vf 33 [.tmp 10] τok func72 ?_;refine aB τok (σ:=Nat) [(1,_),(2,_),(3,_),(4,_),(5,_),(10,_)] [(5,_)] (λi=>[(11,vI i)]) (λ_=>[]) (λi=>i<=ls.length/\bX B known self 1 ls below=bX B known self 1 (ls.drop i) (below+i)) (λi=>ls.length-i) 0 ⟨KV _,Ud⟩ ?_;rintro i ⟨o,a⟩;refine aj<|ae (λg=>?_) (λg=>?_)
 ·obtain⟨t,b,p⟩:=az (l:=ls) (k:=i)
  rw[Au ls _ i t b]at a;refine vi ?_;refine vm i b ?_;refine af (s7 j t (hl.2 t (JQ b)) _) ?_;refine vk ?_;refine ae (λc=>?_) (λc=>?_)
  ·rw[KX c]at a
   exact aF (h3:=by rw[a];rfl)
  ·rw[KY c]at a
   refine vi ?_;exact au (i+1) ⟨Uo,by rw[a,show below+(i:Int)+1=below+((i+1:Nat):Int) by omega]⟩
 ·rw[JY Uo]at a
  exact aF (h3:=by rw[a];rfl)
end
theorem qz(a b c:Int):bE (bE a b) c=bE a (bE b c):=by
 unfold bE
 by_cases h:a≠0
 ·rw[KX h,KX h,KX h]
 ·rw[KY h,KY h]
theorem ov{a b:Int}(h:a≠0):bE a b=a:=KX h
theorem lY{a b:Int}(h:¬ a≠0):bE a b=b:=KY h
theorem M7{B:ak}{known:Nat}{self:Int}:∀(ls:List (List Nd)) (b:Int) (i:Nat) (t:List Nd),ls[i]?=some t ->bX B known self 0 (ls.drop i) b=bE (dg B known self t b) (bX B known self 0 (ls.drop (i+1)) b):=λls b i t h=>by
 rw[Au ls b i t h,Int.add_zero]
 rfl
theorem M8{B:ak}(hB:dh B){i:Nat}{x:cf}(w:B.ents[i]?=some x):VC prog 41 [bk B,pI i] (pI (fN B i x)):=by
 have X:=aL w;have r:i<=B.ents.length:=Uo
 have n:=hB.x x (JQ w);have e1:=aq ndP x.sort;have Y:=aq (λt=>[ah t]) x.params;have e3:=aq (λt=>[ah t]) x.indices;have e4:=aq bA x.ctors;have e5:=aq ndP x.type;have e6:=aq ndP x.body;have Z:=n.s;have s2:=n.p.1;have s3:=n.i.1;have s4:=n.c;refine cN 179 [.tmp 4] τok func41 ?_;refine aD<|aD<|vm i w ?_;refine aD<|ae (λs=>?_) (λs=>?_)
 ·have A:fN B i x=if 0<x.sort.length+x.params.length+x.indices.length+x.ctors.length then 8 else bE (dg B i (-1) x.type 0) (dg B i (-1) x.body 0):=by
   unfold fN;rw[KY Uo,KX s]
   congr 1
   simp only[bX,bE,Int.add_zero];split
   ·rfl
   ·split
    ·rfl
    ·omega
  rw[A];have o:0<x.sort.length+x.params.length+x.indices.length+x.ctors.length ->pI 8=pI (if 0<x.sort.length+x.params.length+x.indices.length+x.ctors.length then 8 else bE (dg B i (-1) x.type 0) (dg B i (-1) x.body 0)):=λh=>by rw[KX h]
  refine ae (λq1=>?_) (λq1=>?_)
  ·exact⟨_,_,rfl,rfl,o Uo⟩
  refine ae (λC=>?_) (λC=>?_)
  ·exact⟨_,_,rfl,rfl,o Uo⟩
  refine ae (λD=>?_) (λD=>?_)
  ·exact⟨_,_,rfl,rfl,o Uo⟩
  refine ae (λE=>?_) (λE=>?_)
  ·exact⟨_,_,rfl,rfl,o Uo⟩
  rw[KY Uo];refine af (s7 r x.type n.t 0) ?_;refine ae (λF=>?_) (λF=>?_)
  ·refine af (s7 r x.body n.b 0) ?_
   exact aF (h3:=by rw[lY Uo];rfl)
  ·exact aF (h3:=by rw[ov Uo];rfl)
 refine aD ?_;have H:(x.kind≠1 \/0<x.type.length+x.body.length) ->pI 8=pI (fN B i x):=λh=>by
  unfold fN
  by_cases P:x.kind=1
  ·rw[KX P,KX (h.resolve_left Uo)]
  ·rw[KY P,KY s]
 refine ae (λq1=>?_) (λq1=>?_)
 ·exact⟨_,_,rfl,rfl,H (.inl q1)⟩
 refine ae (λC=>?_) (λC=>?_)
 ·exact⟨_,_,rfl,rfl,H Uo⟩
 refine ae (λD=>?_) (λD=>?_)
 ·exact⟨_,_,rfl,rfl,H Uo⟩
 have A:fN B i x=if 16<x.params.length \/16<x.indices.length \/16<x.ctors.length then 5 else bE (dg B i (-1) x.sort 0) (bE (iu x.sort) (bE (bX B i (-1) 1 x.params 0) (bE (bX B i (-1) 1 x.indices (x.params.length:Int)) (gC B i x x.ctors)))):=by
  unfold fN;rw[KX Uo,KY Uo]
 rw[A];have I:(16<x.params.length \/16<x.indices.length \/16<x.ctors.length) ->pI 5=pI (if 16<x.params.length \/16<x.indices.length \/16<x.ctors.length then 5 else bE (dg B i (-1) x.sort 0) (bE (iu x.sort) (bE (bX B i (-1) 1 x.params 0) (bE (bX B i (-1) 1 x.indices (x.params.length:Int)) (gC B i x x.ctors))))):=λh=>by rw[KX h]
 refine aD<|ae (λE=>?_) (λE=>?_)
 ·exact⟨_,_,rfl,rfl,I Uo⟩
 refine ae (λF=>?_) (λF=>?_)
 ·exact⟨_,_,rfl,rfl,I Uo⟩
 refine ae (λq6=>?_) (λq6=>?_)
 ·exact⟨_,_,rfl,rfl,I Uo⟩
 rw[KY Uo];refine aD<|aD<|af (s7 r x.sort Z 0) ?_;refine dd τok (σ:=Unit) [(1,_),(2,_),(4,_),(5,_),(7,_)] [(2,_),(5,_)] (λ_=>[(8,vI (bE (dg B i (-1) x.sort 0) (iu x.sort)))]) (λ_=>[]) (λ_=>True) ?_ ?_
 ·refine ae (λb=>?_) (λb=>?_)
  ·have hs:fF x.sort=0:=by
    unfold dg at b;split at b
    ·exact absurd b (by assumption)
    ·rename_i h;exact QY h
   obtain⟨y,hy,hr⟩:=vS hs;have K:=aR y;obtain⟨m,R⟩:∃m,x.sort[0]?=some m:=⟨_,List.getElem?_eq_getElem (by rw[hr];exact K)⟩
   have S:iu x.sort=if m.op≠2 then 8 else 0:=by unfold iu;rw[QK,R];rfl
   refine vm 0 R ?_;refine ae (λp=>?_) (λp=>?_)
   ·exact au () trivial (x:=⟨by rw[lY Uo,S,KX p];rfl,trivial⟩)
   ·exact au () trivial (x:=⟨by rw[lY Uo,S,KY p,b];rfl,trivial⟩)
  ·exact au () trivial (x:=⟨KG (λz=>some (vI z)) (ov Uo).symm,trivial⟩)
 rintro _ _;refine dd τok (σ:=Unit) [(1,_),(2,_),(4,_),(5,_),(7,_)] [(2,_),(5,_)] (λ_=>[(8,vI (bE (bE (dg B i (-1) x.sort 0) (iu x.sort)) (bX B i (-1) 1 x.params 0)))]) (λ_=>[]) (λ_=>True) ?_ ?_
 ·refine ae (λb=>?_) (λb=>?_)
  ·refine af (Av r n.p Uo) ?_
   exact au () trivial (x:=⟨KG (λz=>some (vI z)) (lY Uo).symm,trivial⟩)
  ·exact au () trivial (x:=⟨KG (λz=>some (vI z)) (ov Uo).symm,trivial⟩)
 rintro _ _;have L:((x.params.map λt=>[ah t]).length:Int)=(x.params.length:Int):=by rw[Y]
 refine dd τok (σ:=Unit) [(1,_),(2,_),(4,_),(5,_),(7,_)] [(2,_),(5,_)] (λ_=>[(8,vI (bE (bE (bE (dg B i (-1) x.sort 0) (iu x.sort)) (bX B i (-1) 1 x.params 0)) (bX B i (-1) 1 x.indices (x.params.length:Int))))]) (λ_=>[]) (λ_=>True) ?_ ?_
 ·refine ae (λb=>?_) (λb=>?_)
  ·refine af (show VC prog _ [bk B,pI i,pI (-1),pI ((x.params.map λt=>[ah t]).length:Int),bG x.indices] _ by rw[L];exact Av r n.i Uo) ?_
   exact au () trivial (x:=⟨KG (λz=>some (vI z)) (lY Uo).symm,trivial⟩)
  ·exact au () trivial (x:=⟨KG (λz=>some (vI z)) (ov Uo).symm,trivial⟩)
 rintro _ _;rw[<- qz,<- qz,<- qz];refine aj<|aB τok (σ:=Nat×Int) [(1,_),(2,_),(4,_),(5,_),(7,_)] [(2,_),(5,_)] (λq=>[(8,vI q.2),(9,vI q.1)]) (λ_=>[]) (λq=>q.1<=x.ctors.length/\bE (bE (bE (bE (dg B i (-1) x.sort 0) (iu x.sort)) (bX B i (-1) 1 x.params 0)) (bX B i (-1) 1 x.indices (x.params.length:Int))) (gC B i x x.ctors)=bE q.2 (gC B i x (x.ctors.drop q.1))) (λq=>x.ctors.length-q.1) (0,_) ⟨KV _,rfl⟩ ?_;rintro⟨k,e⟩ ⟨b,p⟩;simp only at b p;refine aD<|ae (λT=>?_) (λT=>?_)
 ·refine ae (λs=>?_) (λs=>?_)
  ·simp only at s
   obtain⟨c,U,hd⟩:=az (l:=x.ctors) (k:=k);obtain⟨V,co⟩:=n.a c (JQ U);have f1:=aq (λt=>[ah t]) c.args;have f2:=aq (λt=>[ah t]) c.out;have a0:=V.1;rw[hd,lY (a:=e) Uo]at p;rw[p];have eC:gC B i x (c::x.ctors.drop (k+1))=if 16<c.args.length then 5 else if c.out.length≠x.indices.length then 8 else bE (bE (bX B i i 1 c.args (x.params.length:Int)) (bX B i i 0 c.out ((x.params.length:Int)+(c.args.length:Int)))) (gC B i x (x.ctors.drop (k+1))):=by
    rw[qz]
    rfl
   rw[eC];refine VCode.seq (VCode.blk<|aD<|vm k U ?_);refine aD<|ae (λk3=>?_) (λk3=>?_)
   ·exact aF (h3:=by rw[KX Uo];rfl)
   refine aD<|ae (λk4=>?_) (λk4=>?_)
   ·exact aF (h3:=by rw[KY Uo,KX Uo];rfl)
   rw[KY Uo,KY Uo];refine aj<|af (show VC prog _ [bk B,pI i,pI i,pI ((x.params.map λt=>[ah t]).length:Int),bG c.args] _ by rw[L];exact Av r V Uo) ?_;refine aB τok (σ:=Nat×Int) [(1,_),(2,_),(4,_),(5,_),(7,_),(9,_),(10,_)] [(2,_),(5,_),(10,_)] (λq=>[(8,vI q.2),(11,vI q.1)]) (λ_=>[]) (λq=>q.1<=c.out.length/\bE (bX B i i 1 c.args (x.params.length:Int)) (bX B i i 0 c.out ((x.params.length:Int)+(c.args.length:Int)))=bE q.2 (bX B i i 0 (c.out.drop q.1) ((x.params.length:Int)+(c.args.length:Int)))) (λq=>c.out.length-q.1) (0,_) ⟨KV _,rfl⟩ ?_;rintro⟨j,v⟩ ⟨j1,u⟩;simp only at j1 u;refine aj ?_;have done:(v≠0 \/c.out.length<=j) ->bE (bX B i i 1 c.args (x.params.length:Int)) (bX B i i 0 c.out ((x.params.length:Int)+(c.args.length:Int)))=v:=λh=>by
    rw[u];rcases h with h|h
    ·exact ov h
    ·rw[JY h]
     unfold bE;split
     ·rfl
     ·rename_i h;simp only[bX];omega
   refine ae (λW=>?_) (λW=>?_)
   ·refine ae (λM=>?_) (λM=>?_)
    ·simp only at M
     obtain⟨t,O,a1⟩:=az (l:=c.out) (k:=j);rw[M7 _ _ j t O,lY (a:=v) Uo]at u;refine vi ?_;refine vm j O ?_;refine af (show VC prog _ [bk B,pI i,pI i,pI (((x.params.map λt=>[ah t]).length:Int)+((c.args.map λt=>[ah t]).length:Int)),ah t] _ by rw[L,f1];exact s7 r t (co.2 t (JQ O)) _) ?_;refine vk ?_;refine vi ?_;exact au (j+1,_) ⟨Us,u⟩
    ·refine aj ?_
     refine vi ?_;exact au (k+1,v) ⟨Us,by rw[done (.inl M)]⟩
   ·refine aj ?_
    refine vi ?_;exact au (k+1,v) ⟨Us,by rw[done (.inr (by simp only at W;omega))]⟩
  ·exact aF (h3:=by rw[p,ov s];rfl)
 ·exact aF (h3:=by
   rw[p,JY (by simp only at T;omega)];refine KG pI ?_;simp only;unfold bE;split
   ·rfl
   ·rename_i h;simp only[gC];omega)
theorem M9(vars:Int)(os:List aV):iC vars os=pO vars os:=by
 rw[Dq]
 rfl
def gF(l:List (Int×Int)):G:=l.foldl (λg p=>putG (putG g p.1 (-1) 1) (-1) p.2 1) λ_ _=>none
theorem F6(l:List (Int×Int))(p:Int×Int):gF (l++[p])=putG (putG (gF l) p.1 (-1) 1) (-1) p.2 1:=by
 unfold gF;rw[List.foldl_append]
 rfl
theorem Na{l:List (Int×Int)}(h:∀p∈l,0<=p.1/\1<=p.2){e d:Int}(he:0<=e)(w:1<=d):(0<(gF l e (-1)).getD 0+(gF l (-1) d).getD 0↔∃p∈l,p.1=e \/p.2=d)/\0<=(gF l e (-1)).getD 0/\0<=(gF l (-1) d).getD 0:=by
 have i:∀r:List (Int×Int),(∀p∈r,0<=p.1/\1<=p.2) ->((0<(gF r.reverse e (-1)).getD 0+(gF r.reverse (-1) d).getD 0↔∃p∈r,p.1=e \/p.2=d)/\0<=(gF r.reverse e (-1)).getD 0/\0<=(gF r.reverse (-1) d).getD 0):=by
  intro r
  induction r with
  |nil=>intro _;simp[gF]
  |cons p r s=>
   intro hr;obtain⟨t,j,n⟩:=s λq a=>hr q (by simp[a]);have o:=hr p Ud;rw[List.reverse_cons,F6];have u:putG (putG (gF r.reverse) p.1 (-1) 1) (-1) p.2 1 e (-1)=if e=p.1 then some 1 else gF r.reverse e (-1):=by
    simp only[putG];rw[KY Uo]
    by_cases h:e=p.1
    ·rw[KX ⟨h,trivial⟩,KX h]
    ·rw[KY λq=>h q.1,KY h]
   have v:putG (putG (gF r.reverse) p.1 (-1) 1) (-1) p.2 1 (-1) d=if d=p.2 then some 1 else gF r.reverse (-1) d:=by
    simp only[putG]
    by_cases h:d=p.2
    ·rw[KX ⟨trivial,h⟩,KX h]
    ·rw[KY λq=>h q.2,KY h,KY Uo]
   rw[u,v]
   by_cases c:e=p.1
   ·rw[KX c]
    by_cases b:d=p.2
    ·rw[KX b]
     exact⟨⟨λ_=>⟨p,Ud,.inl c.symm⟩,λ_=>Ud⟩,Ud,Ud⟩
    ·rw[KY b]
     exact⟨⟨λ_=>⟨p,Ud,.inl c.symm⟩,λ_=>by simp only[Option.getD_some];omega⟩,Ud,n⟩
   ·rw[KY c]
    by_cases b:d=p.2
    ·rw[KX b]
     exact⟨⟨λ_=>⟨p,Ud,.inr b.symm⟩,λ_=>by simp only[Option.getD_some];omega⟩,j,Ud⟩
    ·rw[KY b]
     refine⟨?_,j,n⟩;rw[t];constructor
     ·rintro⟨q,a,h⟩;exact⟨q,by simp[a],h⟩
     ·rintro⟨q,a,h⟩
      rcases List.mem_cons.1 a with rfl|a
      ·rcases h with h|h
       ·exact absurd h.symm c
       ·exact absurd h.symm b
      ·exact⟨q,a,h⟩
 have:=i l.reverse λp o=>h p (by simpa using o)
 simpa using this
theorem F7{B:ak}:∀(l:List cf) (k i:Nat) (x:cf),l[i]?=some x ->kU B (l.drop i) (k+i)=bE (fN B (k+i) x) (kU B (l.drop (i+1)) (k+i+1))
 |y::r,k,0,x,h=>by
  obtain rfl:=JB h
  rfl
 |y::r,k,i+1,x,h=>by
  have:=F7 (B:=B) r (k+1) i x h;rw[show k+1+i=k+(i+1) by omega]at this;exact this
theorem Nb{B:ak}{i:Nat}{x:cf}(h1:x.kind=1)(he:fN B i x=0):x.sort=[⟨2,1,1⟩,⟨3,0,0⟩]↔¬ (x.sort.length≠2 \/(x.sort.getD 0 ⟨0,0,0⟩).a≠1 \/x.sort.getD 1 ⟨0,0,0⟩≠⟨3,0,0⟩):=by
 constructor
 ·intro h
  rw[h]
  decide
 ·intro h
  unfold fN at he;rw[KX h1]at he;split at he
  ·cases he
  split at he
  ·cases he
  obtain⟨f1,f2⟩:=oi.1 he;obtain⟨f2,_⟩:=oi.1 f2;have z:fF x.sort=0:=by
   unfold dg at f1;split at f1
   ·exact absurd f1 (by assumption)
   ·rename_i h;exact QY h
  obtain⟨y,v,hr⟩:=vS z
  match u:x.sort with
  |[]=>rw[u]at h;simp at h
  |[a]=>rw[u]at h;simp at h
  |a::b::c::r=>rw[u]at h;simp at h
  |[a,b]=>
   rw[u]at h f2 hr;have A:b=⟨3,0,0⟩:=by
    have:¬ ([a,b].getD 1 ⟨0,0,0⟩≠⟨3,0,0⟩):=λq=>h (.inr (.inr q))
    simpa using this
   have w:a.a=1:=by
    have:¬ (([a,b].getD 0 ⟨0,0,0⟩).a≠1):=λq=>h (.inr (.inl q))
    simpa using this
   have s:a.op=2:=by
    unfold iu at f2;split at f2
    ·cases f2
    ·rename_i q;simpa using q
   have t:a.b=1:=by
    obtain⟨n,C⟩:=y;simp only[row,List.cons.injEq]at hr;obtain⟨rfl,hr⟩:=hr;obtain⟨D,E,I⟩:=v.ok.kids;obtain⟨F,_,_,l⟩:=eS D;rw[KX s]at l;have j:=vR v.ok s
    match C,hr,j,l with
    |[],hr,_,_=>simp[rows]at hr
    |[k],hr,_,l=>
     have:=dn F;simp at l;omega
    |k::H::r,hr,j,l=>
     obtain⟨m,rfl,_⟩:=j k Ud;obtain⟨K,rfl,_⟩:=j H Ud;simp[rows,row]at hr
   obtain⟨o,p,q⟩:=a;simp only at w s t;subst w s t;rw[A]
theorem s8{B:ak}(hB:dh B):VC prog 21 [bk B] (pI (cP B)):=by
 have eE:=aq bI B.ents;have eP:=aq prP B.prims;have a6:=hB.e;have a7:=hB.p;have H:=FU (vars:=B.vars) hB.o;rw[M9]at H;refine cN 176 [.tmp 2] τok func21 ?_;refine aD<|aD<|af H ?_;refine aD<|ae (λP=>?_) (λP=>?_)
 ·exact aF (h3:=by unfold cP;rw[KX P];rfl)
 refine aD<|ae (λk2=>?_) (λk2=>?_)
 ·exact aF (h3:=by unfold cP;rw[KY P,KX Uo];rfl)
 have eF:cP B=bE (kU B B.ents 0) (if iv B=true then 0 else 22):=by unfold cP;rw[KY P,KY Uo]
 rw[eF];refine dd τok (σ:=Unit) [(1,_),(2,_)] [(1,_)] (λ_=>[]) (λ_=>[]) (λ_=>kU B B.ents 0=0/\∀(i:Nat) x,B.ents[i]?=some x ->fN B i x=0) ?_ ?_
 ·refine aB τok (σ:=Nat) [(1,_),(2,_)] [(1,_)] (λi=>[(4,vI i)]) (λ_=>[]) (λi=>i<=B.ents.length/\kU B B.ents 0=kU B (B.ents.drop i) i/\∀(j:Nat) x,j<i ->B.ents[j]?=some x ->fN B j x=0) (λi=>B.ents.length-i) 0 ⟨KV _,rfl,λj x hj=>absurd hj Uo⟩ ?_
  rintro i ⟨g1,v,I⟩;refine aj<|ae (λg=>?_) (λg=>?_)
  ·obtain⟨x,n,hd⟩:=az (l:=B.ents) (k:=i)
   have K:=F7 (B:=B) B.ents 0 i x n;rw[KW]at K;rw[K]at v;refine af (M8 hB n) ?_;refine ae (λo=>?_) (λo=>?_)
   ·exact aF (h3:=by rw[v,qz,ov o];rfl)
   ·refine vi ?_
    refine au (i+1) ⟨Uo,by rw[v,lY o],λj y hj U=>?_⟩
    by_cases e:j=i
    ·subst e
     rw[n]at U;obtain rfl:=JB U;omega
    ·exact I j y Uo U
  ·rw[JY Uo]at v
   exact au () ⟨v,λj x n=>I j x (by have:=aL n;omega) n⟩
 rintro _ ⟨m1,m2⟩;rw[lY (by rw[m1];decide)];have w:iv B=false ->pI 22=pI (if iv B=true then 0 else 22):=λh=>by rw[h];rfl
 refine dd τok (σ:=Unit) [(1,_),(2,_)] [(1,_)] (λ_=>[]) (λ_=>[]) (λ_=>B.nat≠ -1 ->mX B B.nat=true) ?_ ?_
 ·refine ae (λV=>?_) (λV=>?_)
  ·have A:mX B B.nat=false ->pI 22=pI (if iv B=true then 0 else 22):=λh=>w (by unfold iv;rw[KX (.inl ⟨V,h⟩)])
   have u:=pi (known:=B.ents.length) (KJ _) B.nat;rw[show ((B.ents.length:Nat):Int)=((B.ents.map bI).length:Int) by rw[eE]]at u;refine bN u (λf=>?_) (λf=>?_)
   ·have W:(0<=B.nat/\B.nat<B.ents.length/\(ax B B.nat).kind=1):=by simpa[bF]using f
    have n:=iQ (B:=B) W.1;obtain⟨x,L⟩:∃x,ax B B.nat=x:=⟨_,rfl⟩
    rw[L]at n W;have X:=m2 _ x n;have R:=hB.x x (JQ n);have st:=Nb W.2.2 X;have f1:=aq (λt=>[ah t]) x.params;have f2:=aq (λt=>[ah t]) x.indices;have f3:=aq bA x.ctors;have z1:=R.p.1;have z2:=R.i.1;have r:mX B B.nat=if x.sort.length≠2 \/(x.sort.getD 0 ⟨0,0,0⟩).a≠1 \/x.sort.getD 1 ⟨0,0,0⟩≠⟨3,0,0⟩ \/0<x.params.length+x.indices.length \/x.ctors.length≠2 then false
 else decide ((x.ctors.getD 0 default).args.length=0) && (decide ((x.ctors.getD 1 default).args.length=1) && (decide (((x.ctors.getD 1 default).args.getD 0 []).length=1) && decide (((x.ctors.getD 1 default).args.getD 0 []).getD 0 ⟨0,0,0⟩=⟨9,B.nat,0⟩))):=by
     unfold mX;rw[L,KY Uo]
    refine vm B.nat.toNat n ?_;have hs:=qv (a:=x.sort) (b:=[⟨2,1,1⟩,⟨3,0,0⟩]) (by have:=R.s;omega) Ud;refine bN hs (λs=>?_) (λs=>?_)
    ·have s:=st.1 (of_decide_eq_true s)
     refine vi ?_;refine ae (λn2=>?_) (λn2=>?_)
     ·exact⟨_,_,rfl,rfl,A (by rw[r,KX (.inr (.inr (.inr (.inl Uo))))])⟩
     refine ae (λn3=>?_) (λn3=>?_)
     ·exact⟨_,_,rfl,rfl,A (by rw[r,KX (.inr (.inr (.inr (.inr Uo))))])⟩
     rw[KY (by
      rintro(h|h|h|h|h)
      ·exact s (.inl h)
      ·exact s (.inr (.inl h))
      ·exact s (.inr (.inr h))
      ·omega
      ·omega)]at r
     obtain⟨S,h0⟩:∃c,x.ctors[0]?=some c:=⟨_,gE⟩
     obtain⟨C,T⟩:∃c,x.ctors[1]?=some c:=⟨_,gE⟩
     rw[show x.ctors.getD 0 default=S by rw[QK,h0];rfl,show x.ctors.getD 1 default=C by rw[QK,T];rfl]at r;have e0:=aq (λt=>[ah t]) S.args;have e1:=aq (λt=>[ah t]) C.args;refine vm 0 h0 ?_;refine ae (λn4=>?_) (λn4=>?_)
     ·refine vk ?_
      exact⟨_,_,rfl,rfl,A (by rw[r,KH Uo];rfl)⟩
     refine vm 1 T ?_;refine ae (λn5=>?_) (λn5=>?_)
     ·refine vk ?_
      exact⟨_,_,rfl,rfl,A (by rw[r,KU (show S.args.length=0 by omega),KH (show ¬ C.args.length=1 by omega)];rfl)⟩
     obtain⟨t,Y⟩:∃t,C.args[0]?=some t:=⟨_,gE⟩
     rw[show C.args.getD 0 []=t by rw[QK,Y];rfl,KU (show S.args.length=0 by omega),KU (show C.args.length=1 by omega)]at r;have a8:=((R.a C (JQ T)).1.2 t (JQ Y))
     have eT:(decide (t.length=1) && decide (t.getD 0 ⟨0,0,0⟩=⟨9,B.nat,0⟩))=decide (t=[⟨9,B.nat,0⟩]):=by
      rw[Bool.eq_iff_iff];simp only[Bool.and_eq_true,decide_eq_true_eq];constructor
      ·rintro⟨M,D⟩
       match t,M,D with
       |[m],_,D=>rw[show m=⟨9,B.nat,0⟩from D]
      ·rintro rfl
       exact⟨rfl,rfl⟩
     rw[Bool.true_and,Bool.true_and,eT]at r;refine vm 1 T ?_;refine vm 0 Y ?_;refine bN (qv (a:=t) (b:=[⟨9,B.nat,0⟩]) Uo Ud) (λZ=>?_) (λZ=>?_)
     ·refine vk ?_
      exact au () λ_=>by rw[r,Z]
     ·refine vk ?_
      exact⟨_,_,rfl,rfl,A (by rw[r,Z])⟩
    ·have s:=λq=>of_decide_eq_false s (st.2 q)
     exact⟨_,_,rfl,rfl,A (by
      rw[r,KX];rcases QY s with h|h|h
      ·exact .inl h
      ·exact .inr (.inl h)
      ·exact .inr (.inr (.inl h)))⟩
   ·exact⟨_,_,rfl,rfl,A (by
     unfold mX;rw[KX];have:¬ (0<=B.nat/\B.nat<B.ents.length/\(ax B B.nat).kind=1):=λq=>by
      have:bF B B.ents.length B.nat=true:=by simpa[bF]using q
      rw[f]at this;cases this
     omega)⟩
  ·exact au () λh=>absurd h V
 rintro _ m3;refine aj ?_;have eR:(B.nat= -1 ->B.prims.length=0) ->iv B=mY B B.prims (gF []):=λh=>by
  unfold iv;rw[KY]
  ·rfl
  ·rintro(⟨M,D⟩|⟨M,D⟩)
   ·rw[m3 M]at D;cases D
   ·have:=h M;omega
 refine aB τok (σ:=Nat) [(1,_),(2,_)] [(1,_)] (λi=>[(6,vI i)]) (λ_=>[]) (λi=>i<=B.prims.length/\(B.nat= -1 ->i=0)/\(∀p∈B.prims.take i,0<=p.1/\1<=p.2)/\mY B B.prims (gF [])=mY B (B.prims.drop i) (gF (B.prims.take i))) (λi=>B.prims.length-i) 0 ⟨KV _,λ_=>rfl,Ud,Ud⟩ ?_;rintro i ⟨g1,v,I,o⟩;refine aj<|ae (λg=>?_) (λg=>?_)
 ·obtain⟨p,hp,hd⟩:=az (l:=B.prims) (k:=i)
  rw[hd]at o;simp only[mY]at o;refine vm i hp ?_;refine ae (λq1=>?_) (λq1=>?_)
  ·exact⟨_,_,rfl,rfl,w (by unfold iv;rw[KX (.inr ⟨q1,Uo⟩)])⟩
  have a0:=eR λh=>absurd h q1;have E:(p.1<0 \/(B.ents.length:Int)<=p.1 \/(ax B p.1).kind≠2 \/p.2<1 \/3<p.2 \/0<(gF (B.prims.take i) p.1 (-1)).getD 0+(gF (B.prims.take i) (-1) p.2).getD 0) ->pI 22=pI (if iv B=true then 0 else 22):=λh=>w (by rw[a0,o,KX h]);refine ae (λq2=>?_) (λq2=>?_)
  ·exact⟨_,_,rfl,rfl,E (.inl q2)⟩
  refine ae (λq3=>?_) (λq3=>?_)
  ·exact⟨_,_,rfl,rfl,E (.inr (.inl Uo))⟩
  refine ae (λq4=>?_) (λq4=>?_)
  ·exact⟨_,_,rfl,rfl,E (.inr (.inr (.inr (.inl q4))))⟩
  refine ae (λq5=>?_) (λq5=>?_)
  ·exact⟨_,_,rfl,rfl,E (.inr (.inr (.inr (.inr (.inl q5)))))⟩
  refine vm p.1.toNat (iQ (B:=B) (a:=p.1) Uo) ?_;refine ae (λq6=>?_) (λq6=>?_)
  ·exact⟨_,_,rfl,rfl,E (.inr (.inr (.inl q6)))⟩
  obtain⟨r1,r2,r3⟩:=Na I (e:=p.1) (d:=p.2) Uo Uo;refine aB τok (σ:=Nat) [(1,_),(2,_),(6,_),(7,_)] [(1,_),(7,_)] (λj=>[(8,vI j)]) (λ_=>[]) (λj=>j<=i/\∀q∈B.prims.take j,¬ (q.1=p.1 \/q.2=p.2)) (λj=>i-j) 0 ⟨KV _,Ud⟩ ?_;rintro j ⟨j1,j2⟩;refine aj<|ae (λq7=>?_) (λq7=>?_)
  ·obtain⟨q,F,a9⟩:=az (l:=B.prims) (k:=j)
   have a3:q∈B.prims.take i:=by
    refine JQ (i:=j) ?_;rw[List.getElem?_take,KX Uo];exact F
   have b3:(q.1=p.1 \/q.2=p.2) ->pI 22=pI (if iv B=true then 0 else 22):=λh=>E (.inr (.inr (.inr (.inr (.inr (r1.2 ⟨q,a3,h⟩))))));refine vm j F ?_;refine ae (λq8=>?_) (λq8=>?_)
   ·refine vk ?_
    exact⟨_,_,rfl,rfl,b3 (.inl q8)⟩
   refine vm j F ?_;refine ae (λq9=>?_) (λq9=>?_)
   ·refine vk ?_
    exact⟨_,_,rfl,rfl,b3 (.inr q9)⟩
   refine vk ?_;refine vi ?_;refine au (j+1) ⟨Uo,λz O=>?_⟩;rw[QQ,F,Option.toList]at O;rcases List.mem_append.1 O with h|h
   ·exact j2 z h
   ·obtain rfl:=List.mem_singleton.1 h
    rintro(h|h)
    ·exact q8 h
    ·exact q9 h
  ·have a4:j=i:=Uo
   subst a4;have a5:¬ 0<(gF (B.prims.take j) p.1 (-1)).getD 0+(gF (B.prims.take j) (-1) p.2).getD 0:=λh=>by
    obtain⟨q,F,hh⟩:=r1.1 h;exact j2 q F hh
   rw[KY (by
    rintro(h|h|h|h|h|h)
    ·exact q2 h
    ·omega
    ·exact q6 h
    ·exact q4 h
    ·exact q5 h
    ·exact a5 h)]at o
   refine vi ?_;have et:B.prims.take (j+1)=B.prims.take j++[p]:=by rw[QQ,hp];rfl
   refine au (j+1) ⟨Uo,λh=>absurd h q1,λz O=>?_,by rw[o,et,F6]⟩;rw[et]at O;rcases List.mem_append.1 O with h|h
   ·exact I z h
   ·obtain rfl:=List.mem_singleton.1 h
    omega
 ·rw[JY Uo]at o
  exact aF (h3:=by
   rw[eR λh=>by have:=v h;omega,o]
   rfl)
theorem F8(op:Int):∀(a b:List Tr) (x:Tr),eU op (a++b) x=eU op a (eU op b x)
 |[],_,_=>rfl
 |y::r,b,x=>by simp only[List.cons_append,eU,F8 op r b x]
theorem F9(a b:List Tr)(x:Tr):bp (a++b) x=(bp b x).bind (bp a):=by
 unfold bp;rw[F8]
 by_cases h:4096<(row (eU 4 b x)).length
 ·rw[KX h,KX]
  ·rfl
  ·rw[uk,JK]
   omega
 ·rw[KY h]
  rfl
section
variable{B:ak}(hS:dh B)(hr:cP B=0)(hB:GoodB B)
include hS hr hB
theorem Nc{a:Int}(ha:bF B B.ents.length a=true):VC prog 91 [bk B,pI a] (de (gj B a)):=by
 obtain⟨i,x,s,n,o,rfl,_,v,z,b⟩:=hB.fam ha (KJ _);obtain⟨A,C,D⟩:=b.ps_eq v;have j:=s8 hS;rw[hr]at j;have E:=aq bI B.ents;have c:=pi (known:=B.ents.length) (KJ _) (i:Int);rw[ha,show ((B.ents.length:Nat):Int)=((B.ents.map bI).length:Int) by rw[E]]at c;have q:∀y∈n,Wf y:=λy l=>by
  obtain⟨k,r⟩:=JH l;have:=b.fp k y r;exact⟨this.ok,this.len⟩
 have t:∀y∈o,Wf y:=λy l=>by
  obtain⟨k,r⟩:=JH l;have:=b.fi k y r;exact⟨this.ok,this.len⟩
 have F:=b.lp;have H:=b.li;have I:gj B (i:Int)=bp (n++o) s:=by
  rw[F9];unfold gj;rw[A,C,D]
 have w:=wb (x:=s) ⟨b.fs.ok,b.fs.len⟩ (ys:=n++o) (λy l=>by
  rcases List.mem_append.1 l with h|h
  ·exact q y h
  ·exact t y h) Uk
 rw[<- I]at w;have u:VC prog 89 [pI 4,.sl (x.params.map rP++x.indices.map rP),ah x.sort] (de (gj B (i:Int))):=by
  rw[<- KB,b.params,b.indices,b.sort,<- KB];exact w
 have K:=KG List.length b.params;have L:=KG List.length b.indices;rw[KF]at K L;refine vf 39 [.tmp 4,.tmp 5] τok func91 ?_;refine af j ?_;refine vn ?_;refine af c ?_;refine vm i v ?_;refine va (p:=rP) ?_ (jx _);refine va (p:=rP) ?_ (jx _);refine vk ?_;refine af u ?_;cases M:gj B (i:Int)with
 |error e=>exact aF
 |ok y=>exact aF
end
theorem Aw{n:Nat}{fr:Int}(b:n<=100)(j:0<=fr/\fr<=100):VO prog 147 [pI (fr+n-1),pI fr] 39 1 (((varsM n fr).map row).map rP):=by
 have ev:∀k,k<n ->(varsM n fr)[k]?=some (varX (fr+((n-1-k:Nat):Int))):=λk a=>by
  unfold varsM;rw[JX,List.getElem?_range a]
  rfl
 have el:(varsM n fr).length=n:=by simp[varsM]
 refine o6 20 [.tmp 4] τok func147 ?_;refine aj<|dK 5 1000 39 1 rfl rfl<|aB τok (σ:=Nat) [(0,_),(1,_)] [] (λk=>[(5,.c (.row 1000)),(6,vI (fr+n-1-k))]) (λk=>[(1000,.rw 39 1 ((((varsM n fr).take k).map row).map rP))]) (λk=>k<=n) (λk=>n-k) 0 (KV _) ?_ (x1:=⟨rfl,by simp;rfl,trivial⟩);rintro k o;refine aj<|ae (λg=>?_) (λg=>?_)
 ·refine bg ?_ (hb:=Uk)
  refine vi ?_;refine au (k+1) (by show k+1<=n;omega) (sw 1000 18) (x:=⟨rfl,KG (λz=>some (vI z)) Uo,trivial⟩) (y':=⟨KG (λl=>some (SE.rw _ _ l)) ?_,trivial⟩);rw[QQ,ev k Uo,Option.toList,KB,KB];refine KG (_++ ·) ?_;rw[show fr+((n-1-k:Nat):Int)=fr+n-1-k by omega]
  rfl
 ·exact⟨1000,rfl,KG (λl=>some (SE.rw 39 1 ((List.map row l).map rP))) (JG (l:=varsM n fr) (i:=k) Uo)⟩
theorem Nf{n:Nat}{fr:Int}(c:n<=100)(i:0<=fr/\fr<=100):∀y∈varsM n fr,Wf y:=λy a=>by
 unfold varsM at a;obtain⟨k,b,rfl⟩:=List.mem_map.1 a;have:=List.mem_range.1 b;exact⟨oN rfl (by show 0<=fr+((n-1-k:Nat):Int);omega) (by show fr+((n-1-k:Nat):Int)<=(1048576:Int);omega) rfl,by simp[varX,row,rows]⟩
theorem Ng{n:Nd}(a:aw n=true)(h:n.op=9 \/n.op=10):Wf (.mk n []):=by
 refine⟨⟨⟨?_,trivial⟩,?_⟩,by simp[row,rows]⟩
 ·simp only[cnt]
  rw[KX ⟨a,Uo,Uo⟩,KY Uo];have:bw n=0:=by unfold bw;rw[KY Uo,KY Uo,KY Uo,KY Uo]
  rw[this]
  rfl
 ·have:¬ n.op=2:=Uo
  simp[gF',eV',this]
theorem Nh{x:Tr}{ys:List Tr}{z:Tr}(a:Wf x)(b:∀y∈ys,Wf y)(h:aP x ys= .ok z):Wf z:=by
 unfold aP at h;split at h
 ·cases h
 ·rename_i c
  injection h with h
  subst h;exact⟨eJ' ys x a.ok λy h=>(b y h).ok,Uo⟩
section
variable{B:ak}(hS:dh B)(hr:cP B=0)(hB:GoodB B)
include hS hr hB
theorem Ni{a b:Int}(ha:bF B B.ents.length a=true)(Y:0<=b)(hb:b<(ax B a).ctors.length):VC prog 92 [bk B,pI a,pI b] (de (hH B a b)):=by
 have Z:=kQ hB ha;obtain⟨i,x,s,j,qi,rfl,_,H,L,v⟩:=hB.fam ha (KJ _);rw[L]at hb;obtain⟨k,rfl⟩:∃k:Nat,b=(k:Int):=⟨b.toNat,Uo⟩
 obtain⟨c,M,_⟩:=az (l:=x.ctors) (k:=k);obtain⟨o,A,u⟩:=v.ct k c M;obtain⟨e1,e2,e3⟩:=v.ps_eq H;obtain⟨e4,e5,e6⟩:=u.ag_eq H M;have C:=s8 hS;rw[hr]at C;have eE:=aq bI B.ents;have eC:=aq bA x.ctors;have w:=pi (known:=B.ents.length) (KJ _) (i:Int);rw[ha,show ((B.ents.length:Nat):Int)=((B.ents.map bI).length:Int) by rw[eE]]at w;have O:∀y∈j,Wf y:=λy r=>by
  obtain⟨k,P⟩:=JH r;have:=v.fp k y P;exact⟨this.ok,this.len⟩
 have R:∀y∈o,Wf y:=λy r=>by
  obtain⟨k,P⟩:=JH r;have:=u.fa k y P;exact⟨this.ok,this.len⟩
 have D:∀y∈A,Wf y:=λy r=>⟨(u.fo y r).ok,(u.fo y r).len⟩
 have a0:=v.lp;have a1:=u.la;have a2:=u.lo;have a3:=v.li;have l1:(x.params.map rP).length=j.length:=by rw[v.params];simp
 have l2:(c.args.map rP).length=o.length:=by rw[u.args];simp
 have l3:=KG List.length v.params;have l4:=KG List.length u.args;have l5:=KG List.length u.out;rw[KF]at l3 l4 l5;have E:=Nf (n:=j.length) (fr:=(o.length:Int)) Uo Uo;have hv:=Aw (n:=j.length) (fr:=(o.length:Int)) Uo Uo;have S:VO prog 147 [pI (((x.params.map rP).length:Int)+((c.args.map rP).length:Int)-1),pI ((c.args.map rP).length:Int)] 39 1 (((varsM j.length (o.length:Int)).map row).map rP):=by
  rw[l1,l2,Int.add_comm (j.length:Int)];exact hv
 have T:aw ⟨9,(i:Int),0⟩=true:=by simp[aw,aI];omega
 have F:=Ng T (.inl rfl);have U:=s6 F (ys:=varsM j.length (o.length:Int)++A) (λy r=>by
  rcases List.mem_append.1 r with h|h
  ·exact E y h
  ·exact D y h) (by simp[varsM];omega)
 have q:VC prog 146 [ah (row (.mk ⟨9,(i:Int),0⟩ [])),.sl (((varsM j.length (o.length:Int)).map row).map rP++c.out.map rP)] (de (aP (.mk ⟨9,(i:Int),0⟩ []) (varsM j.length (o.length:Int)++A))):=by
  rw[<- KB,u.out,<- KB];exact U
 have I:hH B (i:Int) (k:Int)=(aP (.mk ⟨9,(i:Int),0⟩ []) (varsM j.length (o.length:Int)++A)).bind λt=>bp (j++o) t:=by
  unfold hH;rw[e1,e4,e5]
  congr 1
  funext t
  rw[F9]
 refine vf 87 [.tmp 6,.tmp 7] τok func92 ?_;refine af C ?_;refine vn ?_;refine af w ?_;refine vn ?_;refine vm i H ?_;refine vn ?_;refine vm i H ?_;refine vm k M ?_;have f1:=aq (λt=>[ah t]) x.params;have f2:=aq (λt=>[ah t]) c.args;refine vi ?_;refine vi ?_;refine gV S ?_;refine va (p:=rP) ?_ (jx _) (hb:=by simp[varsM];omega);cases K:aP (.mk ⟨9,(i:Int),0⟩ []) (varsM j.length (o.length:Int)++A)with
 |error e=>
  rw[K]at q I;rw[I];have Y:=iI K;subst Y;refine af q ?_;refine vk ?_;refine vy ?_;exact aF
 |ok y=>
  rw[K]at q I;rw[I];have V:=Nh F (λy r=>by
   rcases List.mem_append.1 r with h|h
   ·exact E y h
   ·exact D y h) K
  have W:=wb (x:=y) V (ys:=j++o) (λy r=>by
   rcases List.mem_append.1 r with h|h
   ·exact O y h
   ·exact R y h) Uk
  have X:VC prog 89 [pI 4,.sl (x.params.map rP++c.args.map rP),ah (row y)] (de (bp (j++o) y)):=by
   rw[<- KB,v.params,u.args,<- KB];exact W
  refine af q ?_;refine vk ?_;refine vn ?_;refine va (p:=rP) ?_ (jx _);refine va (p:=rP) ?_ (jx _);refine af X ?_;rw[show (Except.ok y:Except Int Tr).bind (λt=>bp (j++o) t)=bp (j++o) y from rfl];cases a4:bp (j++o) y with
  |error e=>exact vk ⟨_,_,rfl,rfl,rfl⟩
  |ok z=>exact vk ⟨_,_,rfl,rfl,rfl⟩
end
theorem Ax(n m:Nat):varsM (n+m) 0=varsM n (m:Int)++varsM m 0:=by
 unfold varsM;refine List.ext_getElem? λi=>?_;rcases Nat.lt_or_ge i n with h|h
 ·rw[QH (by simpa using h),JX,JX,List.getElem?_range h,List.getElem?_range Uo]
  exact KG (λz=>some (varX z)) Uo
 ·rw[QU (by simpa using h),JX,JX]
  simp only[KF,List.length_range];rcases Nat.lt_or_ge i (n+m)with g|g
  ·rw[List.getElem?_range g,List.getElem?_range Uo]
   exact KG (λz=>some (varX z)) Uo
  ·rw[QF (by simpa using g),QF Uk]
   rfl
theorem Nj{x:Tr}{ys:List Tr}{e:Int}(h:bp ys x= .error e):e=9:=by
 unfold bp at h;split at h
 ·injection h with h
  exact h.symm
 ·cases h
section
variable{B:ak}(hS:dh B)(hr:cP B=0)(hB:GoodB B)
include hS hr hB
theorem Nk{N:Int}(h0:0<=N)(hN:N<=90000){a b:Int}(ha:bF B B.ents.length a=true)(b2:0<=b)(hb:b<(ax B a).ctors.length){E:List Tr}(hq:∀y∈E,Ft (QB B) N y)(hql:E.length=(gh B a).length){mo:Tr}(R:Ft (QB B) N mo):VC prog 150 [bk B,pI a,pI b,bG (E.map row),ah (row mo)] (de (jg B a b E mo)):=by
 generalize o:jg B a b E mo=I;have b1:=kQ hB ha;obtain⟨i,x,s,F,qi,rfl,_,X,a1,S⟩:=hB.fam ha (KJ _);have b3:=hb;rw[a1]at hb;obtain⟨k,rfl⟩:∃k:Nat,b=(k:Int):=⟨b.toNat,Uo⟩
 obtain⟨c,hc,_⟩:=az (l:=x.ctors) (k:=k);obtain⟨D,go,O⟩:=S.ct k c hc;obtain⟨e1,e2,e3⟩:=S.ps_eq X;obtain⟨e4,e5,e6⟩:=O.ag_eq X hc;have a2:=s8 hS;rw[hr]at a2;have eE:=aq bI B.ents;have eC:=aq bA x.ctors;have W:=pi (known:=B.ents.length) (KJ _) (i:Int);rw[ha,show ((B.ents.length:Nat):Int)=((B.ents.map bI).length:Int) by rw[eE]]at W;have a7:∀y∈D,Wf y:=λy A=>by
  obtain⟨k,hk⟩:=JH A;have:=O.fa k y hk;exact⟨this.ok,this.len⟩
 have a8:∀y∈go,Wf y:=λy A=>⟨(O.fo y A).ok,(O.fo y A).len⟩
 have b4:=S.lp;have b5:=O.la;have b6:=O.lo;have b7:=S.lc;have b8:=S.li;unfold jg at o;rw[e1,e4,e5]at o;rw[e1]at hql;have l1:(x.params.map rP).length=F.length:=by rw[S.params];simp
 have l2:(c.args.map rP).length=D.length:=by rw[O.args];simp
 have l3:=KG List.length S.params;have l4:=KG List.length O.args;have l5:=KG List.length O.out;rw[KF]at l3 l4 l5;have f1:=aq (λt=>[ah t]) x.params;have f2:=aq (λt=>[ah t]) c.args;have f3:=aq (λt=>[ah t]) (E.map row);have f4:=aq row E;have f5:((E.map row).map rP).length=E.length:=Ud
 have Y:Ft (QB B) ((F.length+D.length:Nat):Int) (.mk ⟨10,(i:Int),(k:Int)⟩ []):=pe (by simp[aw,aI];omega) (.inr rfl) (by
  simp only[QB,cr,aY];simp[ha,a1];omega)
 have a3:∀y∈varsM F.length (D.length:Int)++varsM D.length 0,Ft (QB B) ((F.length+D.length:Nat):Int) y:=λy A=>by
  rcases List.mem_append.1 A with A|A
  ·exact(lR (qk B) Uo Uo y A).mono Uo
  ·exact(lR (qk B) Uo Uo y A).mono Uo
 refine vf 170 [.tmp 10,.tmp 11] τok func150 ?_;refine af a2 ?_;refine vn ?_;refine af W ?_;refine vn ?_;refine vm i X ?_;refine vn ?_;refine vm i X ?_;refine vn ?_;refine aB τok (σ:=Nat) [(1,_),(2,_),(3,_),(4,_),(5,_)] [(5,_)] (λj=>[(13,vI j)]) (λ_=>[]) (λj=>j<=E.length) (λj=>E.length-j) 0 (KV _) ?_;rintro j g1;refine aj<|ae (λg=>?_) (λg=>?_)
 ·obtain⟨y,A,_⟩:=az (l:=E) (k:=j)
  have P:=hq y (JQ A);have a4:=lW (row y) (by have:=P.len;omega);rw[mZ ⟨P.ok,P.len⟩]at a4;refine aA j (x:=row y) (by rw[JX,A];rfl) ?_;refine af a4 ?_;refine vn ?_;refine vi ?_;exact au (j+1) (by show j+1<=_;omega)
 clear g g1
 refine vm i X ?_;refine vm k hc ?_;have a9:=ot ⟨R.ok,R.len⟩ (R.small Uo) (b:=((F.length+D.length:Nat):Int)) (fr:=0) Uo Uo;have hm:=R.lift (qk B) (b:=((F.length+D.length:Nat):Int)) Uo Uo Uo;have hv:=Aw (n:=F.length+D.length) (fr:=0) Uo Uo;have M:=s6 (x:=.mk ⟨10,(i:Int),(k:Int)⟩ []) ⟨Y.ok,Y.len⟩ (ys:=varsM (F.length+D.length) 0) (λy A=>by
  have:=a3 y (by rw[<- Ax];exact A);exact⟨this.ok,this.len⟩) (by simp[varsM];omega)
 refine vi ?_;refine af (r:=.tup [ah (row (aG mo ((F.length+D.length:Nat):Int) 0)),pI 0]) ?_ ?_
 ·rw[f3,f4,f2,hql,l4,<- Int.natCast_add]
  exact a9
 refine vn ?_;refine vi ?_;refine vi ?_;refine gV (e:=39) (sz:=1) (l:=((varsM (F.length+D.length) 0).map row).map rP) ?_ ?_
 ·rw[f3,f4,f2,hql,l4,<- Int.natCast_add]
  rw[Int.zero_add]at hv;exact hv
 rw[<- Ax]at o;cases h1:aP (.mk ⟨10,(i:Int),(k:Int)⟩ []) (varsM (F.length+D.length) 0)with
 |error er=>
  rw[h1]at M o;have Z:=iI h1;subst Z;have o:(.error 9:Except Int Tr)=I:=o;subst o;refine af M ?_;refine vy ?_;exact aF
 |ok C=>
 rw[h1]at M o;refine af M ?_;refine vn ?_;have a0:=gv (qk B) Y (λy A=>a3 y (by rw[<- Ax];exact A)) h1;have a5:=s6 (x:=aG mo ((F.length+D.length:Nat):Int) 0) ⟨hm.ok,hm.len⟩ (ys:=go++[C]) (λy A=>by
  rcases List.mem_append.1 A with h|h
  ·exact a8 y h
  ·obtain rfl:y=C:=by simpa using h
   exact⟨a0.ok,a0.len⟩) Uk
 have H:VC prog 146 [ah (row (aG mo ((F.length+D.length:Nat):Int) 0)),.sl (c.out.map rP++[[ah (row C)]])] (de (aP (aG mo ((F.length+D.length:Nat):Int) 0) (go++[C]))):=by
  rw[O.out];have e:(go.map row).map rP++[[ah (row C)]]=((go++[C]).map row).map rP:=by simp[rP]
  rw[e];exact a5
 refine va (p:=rP) ?_ (jx _);refine bg ?_;cases h2:aP (aG mo ((F.length+D.length:Nat):Int) 0) (go++[C])with
 |error er=>
  rw[h2]at H;have Z:=iI h2;subst Z;have o:(.error 9:Except Int Tr)=I:=by rw[<- o];exact(KG (λz=>Except.bind z λt=>(bp D t).bind (cR E 0 F.length)) h2).symm
  subst o;refine af H ?_;refine vy ?_;exact aF
 |ok t=>
 rw[h2]at H;have o:(bp D t).bind (cR E 0 F.length)=I:=by rw[<- o];exact(KG (λz=>Except.bind z λt=>(bp D t).bind (cR E 0 F.length)) h2).symm
 refine af H ?_;refine vn ?_;have ht:=gv (qk B) hm (λy A=>by
  rcases List.mem_append.1 A with A|A
  ·exact(O.up_o X S.kind A).mono Uo
  ·obtain rfl:y=C:=by simpa using A
   exact a0.mono Uo) h2
 have a6:=wb (x:=t) ⟨ht.ok,ht.len⟩ (ys:=D) a7 Uo;have K:VC prog 89 [pI 4,.sl (c.args.map rP),ah (row t)] (de (bp D t)):=by
  rw[O.args];exact a6
 cases h3:bp D t with
 |error er=>
  rw[h3]at K o;have Z:=Nj h3;subst Z;have o:(.error 9:Except Int Tr)=I:=o;subst o;refine af K ?_;refine vy ?_;exact aF
 |ok u=>
 rw[h3]at K o;have o:cR E 0 F.length u=I:=o;refine af K ?_;refine vn ?_;have hu:=lQ (qk B) (N:=N+F.length) (ht.mono Uo) (λk y A=>(O.up_a X S.kind A).mono Uo) h3;refine vi ?_;refine aB τok (σ:=Nat×Tr) [(3,_)] [] (λq=>[(19,vP (ah (row q.2))),(20,vI ((q.1:Int)-1))]) (λ_=>[]) (λq=>q.1<=E.length/\Ft (QB B) (N+q.1) q.2/\cR E 0 q.1 q.2=I) (λq=>q.1) (F.length,u) ⟨Us,hu,o⟩ ?_ (x1:=⟨rfl,KG (λz=>some (vI z)) Us,trivial⟩)
 clear o hu h3 K a6
 rintro⟨j,z⟩ ⟨hj,hz,w⟩;simp only at hj hz w;refine aj<|ae (λg=>?_) (λg=>?_)
 ·have g:(0:Int)<=(j:Int)-1:=g
  obtain⟨L,rfl⟩:∃L,j=L+1:=⟨j-1,Uo⟩
  simp only[cR]at w;obtain⟨p,hp,_⟩:=az (l:=E) (k:=L);have a':E.getD L (varX 0)=p:=by rw[QK,hp];rfl
  rw[a']at w;have T:=hq p (JQ hp);have U:=T.lift (qk B) (b:=(L:Int)) Uo Uo Uo;have b0:=ot ⟨T.ok,T.len⟩ (T.small Uo) (b:=(L:Int)) (fr:=0) Uo Uo;have V:=s5 (x:=z) ⟨hz.ok,hz.len⟩ (u:=aG p L 0) ⟨U.ok,U.len⟩ (U.small Uo) (v:=0) Uo;refine aA L (x:=row p) (by rw[JX,hp];rfl) ?_ Us;refine af (r:=.tup [ah (row (aG p L 0)),pI 0]) ?_ ?_
  ·rw[show ((((L+1:Nat),z).1:Nat):Int)-1=(L:Int) by simp only;omega]
   exact b0
  refine vn ?_;cases hs:bh z (aG p L 0) 0 with
  |error er=>
   rw[hs]at V w;have Z:=gY hs;subst Z;have w:(.error 9:Except Int Tr)=I:=w;subst w;refine af V ?_;refine vy ?_;exact aF
  |ok y=>
   rw[hs]at V w;have w:cR E 0 L y=I:=w;have P:=gQ (qk B) (N:=N+L) (v:=0) (hz.mono Uo) U Uo Uo Uo Uo hs;refine af V ?_;refine vn ?_;refine vi ?_;exact au (L,y) ⟨Us,P.mono Us,w⟩ (x:=⟨rfl,KG (λz=>some (vI z)) Us,trivial⟩)
 ·obtain rfl:j=0:=by simp only at g;omega
  simp only[cR]at w;subst w;exact aF
end
end Go.Q
