import Derived.Test.YtdfeclpphaccnaaGreatMs12
set_option linter.all false
set_option maxRecDepth 100000
set_option maxHeartbeats 4000000
open Go.Proofs Go.Proofs.Tryz Cd Go.Wx Lv Tm
namespace Go.Q
@[irreducible] def GJ:Nat:=330000
theorem vC':64*5000+4096<=GJ:=by unfold GJ;decide
def gR(B:ak)(cx:Ctx)(t:Tr)(fuel:Int):Except Int (Tr×Nat):=gb B GJ cx t (bA fuel)
def On(B:ak)(cx:Ctx)(t ty:Tr)(fuel:Int):Except Int (Unit×Nat):=fP B (gb B GJ) cx t ty (bA fuel)
def nD(B:ak)(cx:Ctx)(t:Tr)(fuel:Int):Except Int ((Int×List Atom)×Nat):=dP B (gb B GJ) cx t (bA fuel)
theorem Bd{B:ak}(hB:GoodB B){N:Int}{t:Tr}(h:Ft (QB B) N t):Mt 64 t:=λm b a=>by
 have:=h.al m b;have c:=iS this (.inr a);have:=kW hB c;omega
theorem wF(f:Int):bA f<=100000:=by unfold bA;omega
section
variable{B:ak}{cx:Ctx}{X:List Nat}{w:World}
def GX(X:List Nat)(w:World)(r:Except Int (Tr×Nat))(e:Ending)(w':World):Prop:=
 Bc r (λq=>∃u,e= .returned (.tuple #[u,iV (q.2:Int),iV 0])/\TmV (Im X w') q.1 u) (λer=>e= .returned (.tuple #[.slice none 0 0,iV 0,iV er]))/\Kp [] w w'
end
def dJ(l:List Tr):Nat:=(l.map λy=>(row y).length).sum
theorem rows_len:∀l:List Tr,(rows l).length=dJ l
 |[]=>rfl
 |x::r=>by
  simp only[rows,JK,rows_len r];simp[dJ]
theorem oq':∀l:List Tr,(rows l).length=l.length+dJ (l.flatMap (·.ks))
 |[]=>rfl
 | .mk n ks::r=>by
  have:=oq' r;have e:=rows_len ks;simp only[rows,row,JK,JV,List.flatMap_cons,dJ,KB,List.sum_append,Tr.ks]at *
  omega
theorem GY{x:Tr}(d:Ok .tm x):(row x).length=1+(atmsT x).length+(funsT x).length+dJ (kidsT x):=by
 by_cases a:x.n.op=12
 ·obtain⟨n,b⟩:=x
  have a:n.op=12:=a;have c:n.op≠2:=Uo
  have:=oq' b;have e:kidsT (.mk n b)=b.flatMap (·.ks):=by simp only[kidsT];rw[KY c,KX a]
  have f:atmsT (.mk n b)=[]:=KY c;have i:funsT (.mk n b)=b.map (·.n):=KX a;rw[e,f,i];simp only[row,JV,KF,JU];omega
 ·have hr:=KG List.length (jL d)
  rw[zH a,JV,JK,rows_len]at hr;have:funsT x=[]:=by unfold funsT;rw[KY a]
  rw[this,hr];simp;omega
theorem Oo{l:List Tr}{i:Nat}{y:Tr}(h:l[i]?=some y):dJ (l.take (i+1))=dJ (l.take i)+(row y).length:=by
 unfold dJ;rw[QQ,h];simp
theorem Oq(l:List Tr)(i:Nat):dJ (l.take i)<=dJ l:=by
 have h:dJ l=dJ (l.take i)+dJ (l.drop i):=by
  unfold dJ;rw[<- List.sum_append,<- KB,List.take_append_drop]
 omega
theorem Be(N:Nat)(hN:N<=1000000):∀x:Tr,Ok .tm x ->(row x).length<=N ->VC prog 205 [bE x] (pI (row x).length):=by
 induction N with
 |zero=>intro x a h;have:=aZ x;omega
 |succ N e=>
  intro x a h;have f:=GY a;have o:=au ndP (atmsT x);have p:=au ndP (funsT x);have q:=au trP (kidsT x);have j:=iy a;refine vf 29 [.tmp 2] τok func205 ?_;refine vi ?_;refine vi ?_;refine aB τok (σ:=Nat) [(1,_)] [(1,_)] (λi=>[(3,vI ((1+(atmsT x).length+(funsT x).length+dJ ((kidsT x).take i):Nat):Int)),(4,vI i)]) (λ_=>[]) (λi=>i<=(kidsT x).length) (λi=>(kidsT x).length-i) 0 (KV _) ?_ (x1:=⟨KG (λz=>some (vI z)) (by simp[dJ]),rfl,trivial⟩);rintro i r;refine aj<|af (λg=>?_) (λg=>?_)
  ·obtain⟨y,b,_⟩:=ay (l:=kidsT x) (k:=i)
   have m:=fN a b;have c:=Oo b;have d:=Oq (kidsT x) (i+1);refine vt i b ?_;refine ae (e Uo y (EU a b) Uo) ?_;refine vi ?_ Uo Uo;refine vi ?_;exact aw (i+1) (by show i+1<=_;omega) (x:=⟨KG (λz=>some (vI z)) (by rw[c];omega),rfl,trivial⟩)
  ·rw[JG Uo]
   rw[<- f];exact aE
theorem Ot(n:Int):VC prog 51 [pI n] (pI (min (max n 0) 100000)):=by
 refine vf 6 [.tmp 2] τok func51 ?_;exact aE
theorem Ou{x:Tr}{ys:List Tr}{i:Nat}{y:Tr}(a:ys[i]?=some y):an' x (ys.take (i+1))= .mk appN [an' x (ys.take i),y]:=by
 rw[QQ,a,Option.toList,iq']
theorem Ov(a b:Tr):fc (.mk appN [a,b])=[pI 6,pI 0,pI 0,.sl [fc a,fc b],.sl [],.sl []]:=by
 have c:kidsT (.mk appN [a,b])=[a,b]:=by simp[kidsT,appN]
 have d:atmsT (.mk appN [a,b])=[]:=by simp[atmsT,appN,Tr.n]
 have e:funsT (.mk appN [a,b])=[]:=by simp[funsT,appN,Tr.n]
 show fL _ _ _ _=_;rw[c,d,e,List.map_cons,List.map_cons,List.map_nil,kR,kR]
 rfl
theorem nE{x:Tr}{ys:List Tr}(hl:ys.length<=1000000):VC prog 237 [bE x,oh ys] (bE (an' x ys)):=by
 have b:=au trP ys;refine vf 21 [.cell 4 145] τok func237 ?_;refine aB τok (σ:=Nat) [(1,_),(2,_),(4,_)] [(4,_)] (λi=>[(5,vI i)]) (λi=>[(2,.st 0 145 ((fc (an' x (ys.take i))).map .p))]) (λi=>i<=ys.length) (λi=>ys.length-i) 0 (KV _) ?_;rintro i c;refine aD<|af (λg=>?_) (λg=>?_)
 ·obtain⟨y,a,_⟩:=ay (l:=ys) (k:=i)
  refine VCode.seq (VCode.blk<|aj<|vt i a ?_);refine vk ?_;show VCode _ _ _ _ _;refine uE 2 3 18 ?_;refine Ny 2 ?_;refine aj<|vi ?_;refine aw (i+1) (by show i+1<=_;omega) (y':=⟨?_,trivial⟩);rw[Ou a];rw[Ov]
  rfl
 ·rw[JG Uo]
  exact aE
def cV(b u:Tr):Tr×Int:=if gY b u 0=true then (b,9)else (fH b u 0,0)
def ko(x:Tr):Nat ->Tr ->Tr×Int
 |0,b=>(b,0)
 |i+1,b=>if gY b (aK (fixAt x i) i 0) 0=true then (b,9)else ko x i (fH b (aK (fixAt x i) i 0) 0)
def nF(x:Tr):Tr×Int:=ko x x.n.b.toNat (kidD x (2*x.n.a.toNat+1))
def dZ(B:ak)(cx:Ctx)(x:Tr):Tr×Int:=
 let h:=headT x
 let l:=argsT x
 if h.n.op=5 then (an' (cV (kidD h 1) (l.getD 0 (varX 0))).1 (l.drop 1),(cV (kidD h 1) (l.getD 0 (varX 0))).2)
 else if h.n.op=7 then (an' (cV (kidD h 2) (kidD h 1)).1 l,(cV (kidD h 2) (kidD h 1)).2)
 else if h.n.op=1 then (an' (aK ((fY cx h.n.a).2.getD (varX 0)) (h.n.a+1) 0) l,0)
 else if h.n.op=8 then (an' (tr (aR B h.n.a).body) l,0)
 else if h.n.op=11 then (an' (kidD h (2+(headT (kidD h 1)).n.b.toNat)) ((argsT (kidD h 1)).drop (fJ B h.n.a)++l),0)
 else (an' (nF h).1 l,(nF h).2)
def iJ(x:Tr)(r:Tr×Bool×Int):Tr×Bool×Int:=if r.2.1=false \/r.2.2≠0 then (x,r.2.1,r.2.2)else (bN x r.1,true,0)
def qN(B:ak)(cx:Ctx):Nat ->Tr ->Tr×Bool×Int
 |0,x=>(x,false,0)
 |g+1,x=>if cD B cx x=true then ((dZ B cx x).1,true,(dZ B cx x).2)else match cE x with
  |none=>(x,false,0)
  |some p=>iJ x (qN B cx g p)
def aU(B:ak)(cx:Ctx)(x:Tr):Tr×Bool×Int:=qN B cx (row x).length x
def cW(B:ak)(cx:Ctx)(room:Int):Nat ->Tr ->Except Int (Tr×Nat)
 |0,x=>if (aU B cx x).2.1=false then .ok (x,0)else .error 10
 |n+1,x=>if (aU B cx x).2.1=false then .ok (x,n+1)else if (aU B cx x).2.2≠0 \/room<len (aU B cx x).1 then .error 9 else cW B cx room n (aU B cx x).1
theorem Bf(x:Tr):∀(i:Nat) (b:Tr),j8 x i b=if (ko x i b).2≠0 then .error 9 else .ok (ko x i b).1
 |0,b=>rfl
 |i+1,b=>by
  simp only[j8,ko,bq];split
  ·rfl
  ·exact Bf x i _
theorem Bg(B:ak)(cx:Ctx)(x:Tr):hY B cx x=if (dZ B cx x).2≠0 \/4096<(row (dZ B cx x).1).length then .error 9 else .ok (dZ B cx x).1:=by
 have d:∀(b:Tr) (l:List Tr),aO b l=if (0:Int)≠0 \/4096<(row (an' b l)).length then .error 9 else .ok (an' b l):=λb l=>by
  unfold aO;simp
 have k:∀(b u:Tr) (l:List Tr),((bq b u 0).bind λs=>aO s l)=if (cV b u).2≠0 \/4096<(row (an' (cV b u).1 l)).length then .error 9 else .ok (an' (cV b u).1 l):=λb u l=>by
  unfold bq cV;split
  ·simp[Except.bind]
  ·exact d _ l
 unfold hY dZ
 by_cases e:(headT x).n.op=5
 ·rw[KX e,KX e]
  exact k _ _ _
 rw[KY e,KY e]
 by_cases f:(headT x).n.op=7
 ·rw[KX f,KX f]
  exact k _ _ _
 rw[KY f,KY f]
 by_cases i:(headT x).n.op=1
 ·rw[KX i,KX i]
  exact d _ _
 rw[KY i,KY i]
 by_cases j:(headT x).n.op=8
 ·rw[KX j,KX j]
  exact d _ _
 rw[KY j,KY j]
 by_cases c:(headT x).n.op=11
 ·rw[KX c,KX c]
  exact d _ _
 rw[KY c,KY c];unfold lN nF;rw[Bf];split
 ·rename_i h
  rw[KX (.inl h)]
  rfl
 ·rename_i h
  have h:(ko (headT x) (headT x).n.b.toNat (kidD (headT x) (2*(headT x).n.a.toNat+1))).2=0:=QY h;rw[h];exact d _ _
section
variable{B:ak}{cx:Ctx}
theorem Cf':∀(g a:Nat) (x:Tr),Wf x ->(row x).length<=g ->(row x).length<=a ->qN B cx g x=qN B cx a x:=by
 intro g
 induction g with
 |zero=>intro a x _ h;have:=aZ x;omega
 |succ g c=>
  intro a x d h f;cases a with
  |zero=>have:=aZ x;omega
  |succ a=>
   simp only[qN];split
   ·rfl
   ·split
    ·rfl
    ·rename_i p e
     obtain⟨b,i⟩:=kQ d.ft e;rw[c a p ⟨b.ok,b.len⟩ Uo Uo]
theorem ml{x:Tr}(b:Wf x):aU B cx x=if cD B cx x=true then ((dZ B cx x).1,true,(dZ B cx x).2)else match cE x with
  |none=>(x,false,0)
  |some p=>iJ x (aU B cx p):=by
 obtain⟨g,c⟩:∃g,(row x).length=g+1:=⟨(row x).length-1,by have:=aZ x;omega⟩
 unfold aU;rw[c];simp only[qN];split
 ·rfl
 ·split
  ·rfl
  ·rename_i p d
   obtain⟨a,e⟩:=kQ b.ft d;rw[Cf' g (row p).length p ⟨a.ok,a.len⟩ Uo (KJ _)]
theorem GZ(x:Tr):∀(i:Nat) (b:Tr),(ko x i b).2=0 \/(ko x i b).2=9
 |0,b=>.inl rfl
 |i+1,b=>by
  simp only[ko];split
  ·exact .inr rfl
  ·exact GZ x i _
theorem Ow(x:Tr):(dZ B cx x).2=0 \/(dZ B cx x).2=9:=by
 have c:∀b u,(cV b u).2=0 \/(cV b u).2=9:=λb u=>by
  unfold cV;split
  ·exact .inr rfl
  ·exact .inl rfl
 unfold dZ
 dsimp only
 by_cases d:(headT x).n.op=5
 ·rw[KX d];exact c _ _
 rw[KY d]
 by_cases e:(headT x).n.op=7
 ·rw[KX e];exact c _ _
 rw[KY e]
 by_cases f:(headT x).n.op=1
 ·rw[KX f];exact .inl rfl
 rw[KY f]
 by_cases i:(headT x).n.op=8
 ·rw[KX i];exact .inl rfl
 rw[KY i]
 by_cases a:(headT x).n.op=11
 ·rw[KX a];exact .inl rfl
 rw[KY a];exact GZ _ _ _
theorem tf(N:Nat):∀x:Tr,Wf x ->(row x).length<=N ->((aU B cx x).2.2=0 \/(aU B cx x).2.2=9)/\((aU B cx x).2.1=false ->(aU B cx x).1=x/\(aU B cx x).2.2=0):=by
 induction N with
 |zero=>intro x _ h;have:=aZ x;omega
 |succ N c=>
  intro x a h;rw[ml a];split
  ·exact⟨Ow x,λh=>by cases h⟩
  ·split
   ·exact⟨.inl rfl,λ_=>⟨rfl,rfl⟩⟩
   ·rename_i p d
    obtain⟨b,j⟩:=kQ a.ft d;obtain⟨f,i⟩:=c p ⟨b.ok,b.len⟩ Uo;unfold iJ;split
    ·rename_i q
     exact⟨f,λe=>⟨rfl,(i e).2⟩⟩
    ·exact⟨.inl rfl,λe=>by cases e⟩
theorem G0{x p:Tr}(hr:cD B cx x=true)(a:cE x=some p):(headT p).n.op=10:=by
 unfold cE at a;unfold cD at hr;split at a
 ·rename_i g
  rw[KY Uo,KY Uo,KY Uo,KX g]at hr;obtain rfl:=JB a;simp only[iT,Bool.and_eq_true,decide_eq_true_eq]at hr;exact hr.1
 ·rename_i b
  split at a
  ·rename_i g
   split at a
   ·obtain rfl:=JB a
    rw[KY Uo,KY Uo,KY Uo,KY b,KX g]at hr;simp only[Bool.and_eq_true,decide_eq_true_eq]at hr;exact hr.2
   ·cases a
  ·cases a
theorem G1{p:Tr}(a:Wf p)(h:(headT p).n.op=10):aU B cx p=(p,false,0):=by
 rw[ml a];have b:cD B cx p=false:=by
  unfold cD;rw[KY Uo,KY Uo,KY Uo,KY Uo,KY Uo]
 have c:cE p=none:=by
  unfold cE;rw[KY Uo,KY Uo]
 rw[b,c]
 rfl
theorem ov':∀(ys:List Tr) (x:Tr),headT (an' x ys)=headT x/\argsT (an' x ys)=argsT x++ys
 |[],x=>by simp[an']
 |y::r,x=>by
  have a:appN.op=6:=rfl;have b:headT (.mk appN [x,y])=headT x:=mV a;have c:argsT (.mk appN [x,y])=argsT x++[y]:=mW a;obtain⟨d,e⟩:=ov' r (.mk appN [x,y]);rw[an',d,e,b,c];simp
theorem tg(y q:Tr):bN y q=if (headT y).n.op=11 then an' (.mk (headT y).n ((headT y).ks.set 1 q)) (argsT y)else an' (headT y) ((argsT y).set (bW (headT y)).toNat q):=rfl
theorem wG{Q:Nd ->Prop}{N:Int}{x y:Tr}(p:Ft Q N x)(b:cE x=some y)(z:Tr):cE (bN x z)=some z/\(∀q,bN (bN x z) q=bN x q)/\bN x y=x:=by
 have m:=p.spine;have d:=p.head.ok;obtain⟨⟨P,o,_⟩,_⟩:=pr _ (aC p) (KJ _);unfold cE at b;split at b
 ·rename_i g
  obtain⟨H,I,_,_⟩:=hH d g;obtain⟨s,_⟩:=p.head.kidD (k:=1) (by rw[H];omega);rw[H]at s;obtain rfl:=JB b;have a:=aM s;have j:∀q,bN x q=an' (.mk (headT x).n ((headT x).ks.set 1 q)) (argsT x):=λq=>by unfold bN;rw[KX g]
  have c:∀q,headT (bN x q)= .mk (headT x).n ((headT x).ks.set 1 q)/\argsT (bN x q)=argsT x:=λq=>by
   obtain⟨v,A⟩:=ov' (argsT x) (.mk (headT x).n ((headT x).ks.set 1 q));obtain⟨C,D⟩:=ij (x:=.mk (headT x).n ((headT x).ks.set 1 q)) (show (headT x).n.op≠6 from o);rw[j q,v,A,C,D];exact⟨rfl,rfl⟩
  refine⟨?_,λq=>?_,?_⟩
  ·unfold cE
   rw[(c z).1];rw[KX (show (Tr.mk (headT x).n ((headT x).ks.set 1 z)).n.op=11 from g)]
   congr 1
   have r:¬ (headT x).n.op=2:=Uo
   have E:¬ (headT x).n.op=12:=Uo
   simp[kidD,kidsT,r,E,a]
  ·rw[j q,tg (bN x z) q]
   rw[(c z).1,(c z).2,KX (show (Tr.mk (headT x).n ((headT x).ks.set 1 z)).n.op=11 from g)];simp[Tr.n,Tr.ks]
  ·rw[j]
   have:(headT x).ks.set 1 (kidD (headT x) 1)=(headT x).ks:=by
    refine List.ext_getElem? λi=>?_;rw[List.getElem?_set]
    by_cases e:1=i
    ·subst e
     rw[KX rfl,KX a,s]
    ·rw[KY e]
   rw[this];have e:(Tr.mk (headT x).n (headT x).ks)=headT x:=by cases headT x;rfl
   rw[e];exact m
 ·rename_i g
  split at b
  ·rename_i r
   split at b
   ·rename_i K
    obtain⟨f,R,L,M,O⟩:=og d r;obtain⟨u,F,_⟩:=ay (l:=argsT x) (k:=(bW (headT x)).toNat);have e:fK x (bW (headT x))=u:=by simp[fK,F]
    rw[e]at b;obtain rfl:=JB b;have a:=aM F;have j:∀q,bN x q=an' (headT x) ((argsT x).set (bW (headT x)).toNat q):=λq=>by unfold bN;rw[KY g]
    have c:∀q,headT (bN x q)=headT x/\argsT (bN x q)=(argsT x).set (bW (headT x)).toNat q:=λq=>by
     obtain⟨v,A⟩:=ir' ((argsT x).set (bW (headT x)).toNat q) (headT x) d;obtain⟨C,D⟩:=ij o;rw[j q,v,A,C,D];exact⟨rfl,rfl⟩
    refine⟨?_,λq=>?_,?_⟩
    ·unfold cE
     rw[(c z).1,(c z).2,KY g,KX r,KX (by simpa using K)]
     congr 1
     unfold fK;rw[(c z).2];simp[a]
    ·rw[j q,tg (bN x z) q]
     rw[(c z).1,(c z).2,KY g];simp
    ·rw[j]
     have:(argsT x).set (bW (headT x)).toNat u=argsT x:=by
      refine List.ext_getElem? λi=>?_;rw[List.getElem?_set]
      by_cases e:(bW (headT x)).toNat=i
      ·subst e
       rw[KX rfl,KX a,F]
      ·rw[KY e]
     rw[this];exact m
   ·cases b
  ·cases b
theorem wH{room:Int}{n:Nat}{x:Tr}(h:(aU B cx x).2.1=false):cW B cx room n x= .ok (x,n):=by
 cases n with
 |zero=>simp only[cW];rw[KX h]
 |succ n=>simp only[cW];rw[KX h]
theorem wI{room:Int}{x:Tr}(h:(aU B cx x).2.1=true):cW B cx room 0 x= .error 10:=by
 simp only[cW];rw[KY (by rw[h];decide)]
theorem qO{room:Int}{n:Nat}{x:Tr}(h:(aU B cx x).2.1=true)(hb:(aU B cx x).2.2≠0 \/room<len (aU B cx x).1):cW B cx room (n+1) x= .error 9:=by
 simp only[cW];rw[KY (by rw[h];decide),KX hb]
theorem wJ{room:Int}{n:Nat}{x:Tr}(h:(aU B cx x).2.1=true)(hb:¬ ((aU B cx x).2.2≠0 \/room<len (aU B cx x).1)):cW B cx room (n+1) x=cW B cx room n (aU B cx x).1:=by
 simp only[cW];rw[KY (by rw[h];decide),KY hb]
theorem G2(hB:GoodB B)(hcx:CxOk B cx)(hN:cx.length<=90000)(M:Nat):∀x:Tr,Ft (QB B) (cx.length:Int) x ->(row x).length<=M ->(aU B cx x).2.1=true ->(aU B cx x).2.2=0 ->(row (aU B cx x).1).length<=4096 ->Ft (QB B) (cx.length:Int) (aU B cx x).1:=by
 induction M with
 |zero=>intro x _ h;have:=aZ x;omega
 |succ M i=>
  intro x c h;rw[ml (aC c)]
  by_cases hr:cD B cx x=true
  ·rw[KX hr]
   intro _ j d;refine uW hB hcx hN c hr ?_;rw[Bg,KY];rintro(h|h)
   ·exact h j
   ·simp only at d;omega
  ·rw[KY hr]
   cases e:cE x with
   |none=>intro h;cases h
   |some p=>
    obtain⟨k,m⟩:=kQ c e;simp only;unfold iJ;split
    ·rename_i q
     intro a b;rcases q with q|q
     ·rw[q]at a;cases a
     ·exact absurd b q
    ·rename_i q
     intro _ _ d;have o:=sB (p:=(aU B cx p).1) c e;have d:(row (bN x (aU B cx p).1)).length<=4096:=d;have q1:(aU B cx p).2.1=true:=by
      cases f:(aU B cx p).2.1 with
      |true=>rfl
      |false=>exact absurd (.inl f) q
     have l:(aU B cx p).2.2=0:=QY λf=>q (.inr f);exact(zD (C:=λ_ _ _=>False) (qk B) c (i p k Uo q1 l Uo) e d).1
theorem part_walk(hB:GoodB B)(hcx:CxOk B cx)(hN:cx.length<=90000):∀(n:Nat) (x p:Tr) (room:Int),Ft (QB B) (cx.length:Int) x ->cE x=some p ->len x<=room ->room<=4096 ->(∃e,cW B cx (room-len x+len p) n p= .error e/\cW B cx room n x= .error e) \/
  ∃q k,cW B cx (room-len x+len p) n p= .ok (q,k)/\cW B cx room n x=cW B cx room k (bN x q)/\k<=n/\(aU B cx q).2.1=false/\Ft (QB B) (cx.length:Int) (bN x q)/\len (bN x q)<=room:=by
 intro n
 induction n with
 |zero=>
  intro x p room b c m d;obtain⟨l,D⟩:=kQ b c;obtain⟨E,F,i⟩:=wG b c p;cases a:(aU B cx p).2.1 with
  |false=>exact .inr ⟨p,0,wH a,by rw[i],KJ _,a,by rw[i];exact b,by rw[i];exact m⟩
  |true=>
   have hr:¬ cD B cx x=true:=λhr=>by
    rw[G1 (aC l) (G0 hr c)]at a;cases a
   refine .inl ⟨10,wI a,wI ?_⟩;rw[ml (aC b),KY hr,c];simp only;unfold iJ;split
   ·exact a
   ·rfl
 |succ n H=>
  intro x p room b c m d;obtain⟨l,D⟩:=kQ b c;obtain⟨E,F,i⟩:=wG b c p;cases a:(aU B cx p).2.1 with
  |false=>exact .inr ⟨p,n+1,wH a,by rw[i],KJ _,a,by rw[i];exact b,by rw[i];exact m⟩
  |true=>
   have hr:¬ cD B cx x=true:=λhr=>by
    rw[G1 (aC l) (G0 hr c)]at a;cases a
   have o:aU B cx x=iJ x (aU B cx p):=by rw[ml (aC b),KY hr,c]
   by_cases j:(aU B cx p).2.2=0
   ·have f:aU B cx x=(bN x (aU B cx p).1,true,0):=by
     rw[o];unfold iJ;rw[KY];rintro(q|q)
     ·rw[a]at q;cases q
     ·exact q j
    have O:=sB (p:=(aU B cx p).1) b c
    by_cases v:room-len x+len p<len (aU B cx p).1
    ·refine .inl ⟨9,qO a (.inr v),qO (by rw[f]) (.inr ?_)⟩
     rw[f];unfold len at *
     simp only;omega
    ·obtain⟨I,K,P⟩:=wG b c (aU B cx p).1
     have r:len (bN x (aU B cx p).1)<=room:=by unfold len at *;omega
     have s:=G2 hB hcx hN _ p l (KJ _) a j (by unfold len at *;omega);have u:=(zD (C:=λ_ _ _=>False) (qk B) b s c (by unfold len at *;omega)).1;have L:room-len (bN x (aU B cx p).1)+len (aU B cx p).1=room-len x+len p:=by unfold len at *;omega
     have:=H (bN x (aU B cx p).1) (aU B cx p).1 room u I r d;rw[L]at this;rw[wJ a (by rintro(q|q);exact q j;exact v q),wJ (x:=x) (by rw[f]) (by
      rw[f];rintro(q|q)
      ·exact q rfl
      ·simp only at q;omega),f]
     simp only;rcases this with h|⟨q,k,M,y,R,N,z,A⟩
     ·exact .inl h
     ·rw[K]at y z A
      exact .inr ⟨q,k,M,y,Uo,N,z,A⟩
   ·refine .inl ⟨9,qO a (.inl j),qO ?_ (.inl ?_)⟩
    ·rw[o]
     unfold iJ;rw[KX (.inr j)];exact a
    ·rw[o]
     unfold iJ;rw[KX (.inr j)];exact j
theorem Ox{W n k a b M:Nat}(hW:4097<=W)(h1:k+1<=n)(h2:a<=4096)(hb:0<b)(d:n*W+b<=M+1):k*W+a<=M:=by
 have c:(k+1)*W<=n*W:=Nat.mul_le_mul_right W h1;rw[Nat.succ_mul]at c
 generalize k*W=K at *
 generalize n*W=L at *
 omega
theorem Oy{x:Tr}{room:Int}(h:len x<=room)(hr:room<=4096):(row x).length<=4096:=by unfold len at h;omega
theorem Oz{W:Nat}(hW:4097<=W)(hB:GoodB B)(hcx:CxOk B cx)(hN:cx.length<=90000):∀(M n g:Nat) (x:Tr) (room:Int),Ft (QB B) (cx.length:Int) x ->len x<=room ->room<=4096 ->n*W+(row x).length<=M ->M<=g ->cz B cx g x room n=cW B cx room n x:=by
 intro M
 induction M with
 |zero=>intro n g x room _ _ _ h;have:=aZ x;omega
 |succ M E=>
  intro n g x room m F c L N;obtain⟨g,rfl⟩:∃O,g=O+1:=⟨g-1,Uo⟩
  have r:∀(k a:Nat),k+1<=n ->a<=4096 ->k*W+a<=M:=λk a s H=>Ox hW s H (aZ x) L;have f:∀(b:Tr) (j:Nat),j<=n ->Ft (QB B) (cx.length:Int) b ->len b<=room ->aU B cx b=(if cD B cx b=true then ((dZ B cx b).1,true,(dZ B cx b).2)else (b,false,0)) ->jm B cx (cz B cx g) room (b,j)=cW B cx room j b:=λb j P u R i=>by
   unfold jm;simp only
   by_cases hr:cD B cx b=true
   ·rw[KX hr]at i
    rw[KX hr];cases j with
    |zero=>rw[KX rfl,wI (by rw[i])]
    |succ k=>
     rw[KY Uo]
     by_cases d:(aU B cx b).2.2≠0 \/room<len (aU B cx b).1
     ·rw[qO (by rw[i]) d]
      rw[i]at d;rw[Bg]
      by_cases v:(dZ B cx b).2≠0 \/4096<(row (dZ B cx b).1).length
      ·rw[KX v]
      ·rw[KY v]
       simp only;rw[KX];rcases d with d|d
       ·exact absurd (.inl d) v
       ·exact d
     ·rw[wJ (by rw[i]) d]
      rw[i]at d ⊢;have l:len (dZ B cx b).1<=room:=by
       simp only[not_or]at d;omega
      have I:hY B cx b= .ok (dZ B cx b).1:=by
       rw[Bg,KY];rintro(q|q)
       ·exact d (.inl q)
       ·unfold len at l;omega
      rw[I];simp only;rw[KY Uo];have y:=uW hB hcx hN u hr I;exact E k g _ room y l c (r k _ P (Oy l c)) (Nat.le_of_succ_le_succ N)
   ·rw[KY hr]at i
    rw[KY hr,wH (by rw[i])]
  simp only[cz];unfold jl;cases o:cE x with
  |none=>
   simp only;refine f x n (KJ _) m F ?_;rw[ml (aC m),o]
  |some p=>
   obtain⟨s,H⟩:=kQ m o;simp only;rw[E n g p (room-len x+len p) s Uo (by unfold len at *;omega) Uo Uo];rcases part_walk hB hcx hN n x p room m o F c with ⟨e,z,A⟩|⟨q,j,z,A,S,C,D,T⟩
   ·rw[z,A]
   ·rw[z,A]
    simp only;obtain⟨K,Y,Z⟩:=wG m o q;obtain⟨U,_⟩:=kQ D K;obtain⟨_,V⟩:=tf _ q (aC U) (KJ _);refine f (bN x q) j S D T ?_;rw[ml (aC D),K];simp only;have:iJ (bN x q) (aU B cx q)=(bN x q,false,0):=by
     unfold iJ;rw[KX (.inl C),C,(V C).2]
    rw[this]
theorem wL(hB:GoodB B)(hcx:CxOk B cx)(hN:cx.length<=90000){x:Tr}(a:Ft (QB B) (cx.length:Int) x)(fuel:Int):dW B cx x fuel=cW B cx 4096 (bA fuel) x:=by
 have c:bA fuel<=100000:=by unfold bA;omega
 have d:=a.len;have b:=Iq';unfold dW
 generalize GW=G at b ⊢
 exact Oz (W:=5000) Uo hB hcx hN (bA fuel*5000+(row x).length) (bA fuel) G x 4096 a (by unfold len;omega) Uo (KJ _) Uo
end
theorem Bh{x:Tr}(e:Wf x):VC prog 235 [bE x] (.tup [bE (headT x),oh (argsT x)]):=by
 have o:=oG e 4096 e.len;refine cR 22 [.cell 2 145,.tmp 3] τok func235 ?_;refine aj<|dC 4 1000 145 6 rfl rfl<|aB τok (σ:=Tr×List Tr) [(1,_),(2,_)] [(2,_)] (λq=>[(4,.c (.row 1000))]) (λq=>[(1,.st 0 145 ((fc q.1).map .p)),(1000,.rw 145 6 (q.2.map trP))]) (λq=>Wf q.1/\headT q.1=headT x/\argsT q.1++q.2=argsT x) (λq=>(row q.1).length) (x,[]) ⟨e,rfl,Ud⟩ ?_;rintro⟨z,r⟩ ⟨k,d,b⟩;simp only at k d b;have s:=KG List.length b;rw[JK]at s;refine aj<|af (λg=>?_) (λg=>?_)
 ·obtain⟨f,a,m,u,y,i,j,v⟩:=nu k g
  refine vt 1 (by rw[m];rfl) ?_;refine va ?_ (s6 _);refine vt 0 (by rw[m];rfl) ?_;exact aw (f,a::r) ⟨u,by rw[<- i];exact d,by rw[<- b,j];simp⟩ (sw 1000 15) (y':=⟨rfl,KG (λl=>some (SE.rw _ _ l)) (by rw[List.map_cons,kR a];rfl),trivial⟩)
 ·obtain⟨i,j⟩:=ij g
  rw[i]at d;rw[j,List.nil_append]at b;subst d b;exact aE
theorem G3{l:List Tr}{i:Nat}{y z:Tr}(a:l[i]?=some y)(hl:l.length<=1000000):VC prog 238 [oh l,pI i,bE z] (oh (l.set i z)):=by
 have e:=au trP l;refine vf 16 [.tmp 6] τok func238 ?_;refine va (p:=trP) ?_ (s6 _);refine vt i a ?_;exact AR a<|aE (h3:=by unfold oh;rw[List.map_set];exact KG (λq=>PV.sl ((l.map trP).set i q)) (kR z).symm)
def G4(r:Tr×Int):PV:=.tup [bE r.1,pI r.2]
theorem Bi{x u:Tr}(a:Wf x)(d:Wf u)(m:eu u):VC prog 236 [bE x,bE u] (G4 (cV x u)):=by
 have I:=a.len;have y:=d.len;have z:=aZ u;have o:Dp 0 x:=⟨Uo,Uo⟩
 have ht:=FZ 4096 Uo x 0 a o a.len;have K:=AH (varsT x 0 0);have A:=gV' x 0 0;have C:=pq (v:=0) (varsT x 0 0);have i:=fr' x .tm 0 0 a.ok.1 Uo Uo Uo;have D:=AG (v:=0) (l:=varsT x 0 0) (c:=20000) Uo λq j=>by have:=i q j;omega
 have E:=sT (dY 0 (varsT x 0 0)) Uo 4096 Uo u 0 d ⟨Uo,Uo⟩ d.len;have F:=sS (b:=dY 0 (varsT x 0 0)) (l:=varsT u 0 0) (c:=1000000) Uo λq j _=>by have:=m q j;omega
 have k:=sX u d 4096 Uo x 0 a o a.len;rw[F3 a d.ok m Uo]at k;have H:=F4 x 0;have p:0<=(cU (varsT x 0 0):Int)*(((row u).length:Int)-1)/\(cU (varsT x 0 0):Int)*(((row u).length:Int)-1)<=4096*4096:=⟨Int.mul_nonneg Uo Uo,Int.mul_le_mul Uo Uo Uo Uo⟩
 have f:gY x u 0=true↔4096<((row x).length:Int)+(cU (varsT x 0 0):Int)*(((row u).length:Int)-1):=by
  unfold gY;rw[<- H];exact decide_eq_true_iff
 have r:=Be 4096 Uo x a.ok a.len;have s:=Be 4096 Uo u d.ok d.len;have f1:4096<((row x).length:Int)+(cU (varsT x 0 0):Int)*(((row u).length:Int)-1) ->cV x u=(x,9):=λh=>by unfold cV;rw[KX (f.2 h)]
 have f2:¬ 4096<((row x).length:Int)+(cU (varsT x 0 0):Int)*(((row u).length:Int)-1) ->cV x u=(fH x u 0,0):=λh=>by unfold cV;rw[KY λq=>h (f.1 q)]
 refine vf 35 [.cell 4 145,.tmp 5] τok func236 ?_;refine ae ht ?_;refine af (λg=>?_) (λg=>?_)
 ·refine ae E ?_
  refine vn ?_;refine ae r ?_;refine ae s ?_;refine vi ?_;refine vi ?_;refine vi ?_;refine af (λe=>?_) (λe=>?_)
  ·refine vk ?_
   exact aE (h3:=by rw[f1 e];rfl)
  ·refine vk ?_
   refine ae k ?_;exact aE (h3:=by rw[f2 e];rfl)
 ·refine ae r ?_
  refine ae s ?_;refine vi ?_;refine vi ?_;refine vi ?_;refine af (λe=>?_) (λe=>?_)
  ·refine vk ?_
   exact aE (h3:=by rw[f1 e];rfl)
  ·refine vk ?_
   refine ae k ?_;exact aE (h3:=by rw[f2 e];rfl)
theorem OA{x:Tr}(a:x.n.op=12)(i:Int):fc (fixAt x i)=fL ⟨12,i,x.n.b⟩ ((kidsT x).map trP) [] ((funsT x).map ndP):=by
 have b:kidsT (fixAt x i)=kidsT x:=by cases x;rfl
 have c:funsT (fixAt x i)=funsT x:=by cases x;rfl
 have d:atmsT (fixAt x i)=[]:=by
  unfold atmsT;rw[KY];show ¬ x.n.op=2;omega
 unfold fc;rw[b,c,d];have e:(fixAt x i).n=⟨12,i,x.n.b⟩:=by
  show (⟨x.n.op,i,x.n.b⟩:Nd)=_;rw[a]
 rw[e]
 rfl
theorem OB{Q:Nd ->Prop}(o:Qk Q){x:Tr}{N:Int}(r:Ft Q N x)(a:x.n.op=12)(W:0<=N)(hN:N<=90000):VC prog 239 [bE x] (G4 (nF x)):=by
 have s:=aC r;have Y:=fA s.ok a;have M:=dp s.ok a;have f:2*x.n.a.toNat+1<(kidsT x).length:=Uo
 obtain⟨y,Z,lk⟩:=cq s f;have I:=(r.kidD f).2;have A:kb x.n (2*x.n.a.toNat+1)=x.n.b:=by
  unfold kb;rw[KX a,KX Uo]
 rw[A]at I;refine vf 55 [.cell 2 145,.tmp 3] τok func239 ?_;refine vi ?_;refine vi ?_;refine vt (2*x.n.a.toNat+1) y ?_ Uo;refine vi ?_;refine aB τok (σ:=Nat×Int×Tr) [(1,_),(2,_),(4,_)] [(1,_),(2,_)] (λq=>[(5,vI q.2.1)]) (λq=>[(4,.st 0 145 ((fc q.2.2).map .p))]) (λq=>q.1<=x.n.b.toNat/\Ft Q (N+q.1) q.2.2/\ko x q.1 q.2.2=nF x/\q.2.1=(q.1:Int)-1) (λq=>q.1) (x.n.b.toNat,x.n.b-1,kidD x (2*x.n.a.toNat+1)) ⟨KJ _,by rw[show N+((x.n.b.toNat:Nat):Int)=N+x.n.b by omega];exact I,rfl,Us⟩ ?_;rintro⟨j,v,z⟩ ⟨O,C,d,P⟩;simp only at O C d P;refine aj<|af (λg=>?_) (λg=>?_)
 ·simp only at g
  obtain⟨i,rfl⟩:∃i,j=i+1:=⟨j-1,Uo⟩
  obtain rfl:v=(i:Int):=Uo
  have e:=r.fixAt o a (i:=(i:Int)) Uo Uo;have R:=e.len;have S:=sT (i:Int) Uo 4096 Uo (fixAt x i) 0 (aC e) ⟨Uo,Uo⟩ e.len;have K:=e.small Uo;have T:=sS (b:=(i:Int)) (l:=varsT (fixAt x i) 0 0) (c:=1000000) Uo λq U _=>by have:=K q U;omega
  have hr:=sW (i:Int) Uo 4096 Uo (fixAt x i) 0 (aC e) ⟨Uo,Uo⟩ e.len;have el:=vZ (x:=fixAt x i) (fr:=0) e.ok K (b:=(i:Int)) Uo;rw[<- el]at hr;have D:=e.lift o (b:=(i:Int)) Uo Uo Uo;have m:=Bi (aC C) (aC D) (D.small Uo);have L:=OA a (i:Int);have E:VC prog 151 [.agg (fL ⟨12,i,x.n.b⟩ ((kidsT x).map trP) [] ((funsT x).map ndP)),pI (i:Int),pI 0] (pI (gP (i:Int) (varsT (fixAt x i) 0 0))):=by rw[<- L];exact S
  have F:VC prog 107 [.agg (fL ⟨12,i,x.n.b⟩ ((kidsT x).map trP) [] ((funsT x).map ndP)),pI (i:Int),pI 0] (bE (aK (fixAt x i) i 0)):=by rw[<- L];exact hr
  simp only[ko]at d;refine ae E ?_;refine vn ?_;refine ae F ?_
  by_cases k:gY z (aK (fixAt x i) i 0) 0=true
  ·have H:cV z (aK (fixAt x i) i 0)=(z,9):=by unfold cV;rw[KX k]
   rw[KX k]at d;rw[H]at m;refine ae m ?_;refine vk ?_;refine vy ?_;exact aE (h3:=by rw[<- d];rfl)
  ·have H:cV z (aK (fixAt x i) i 0)=(fH z (aK (fixAt x i) i 0) 0,0):=by unfold cV;rw[KY k]
   rw[KY k]at d;rw[H]at m;refine ae m ?_;refine vk ?_;refine vn ?_;refine vi ?_;have V:=jk o (N:=N+i) (v:=0) (b:=z) (u:=aK (fixAt x i) i 0) (C.mono Uo) D Uo Uo Uo Uo (by unfold bq;rw[KY k]);exact aw (i,(i:Int)-1,fH z (aK (fixAt x i) i 0) 0) ⟨Us,V.mono Us,d,rfl⟩
 ·simp only at g
  obtain rfl:j=0:=Uo
  simp only[ko]at d;exact aE (h3:=by rw[<- d];rfl)
theorem kt':∀(a b:List Tr) (x:Tr),an' x (a++b)=an' (an' x a) b
 |[],b,x=>rfl
 |y::r,b,x=>kt' r b (.mk appN [x,y])
def Bj(r:Tr×Bool×Int):PV:=.tup [bE r.1,.bool r.2.1,pI r.2.2]
theorem G5{l:List Tr}{p q:Nat}(a:q=l.length):PV.sl (((l.map trP).take q).drop p)=oh (l.drop p):=by
 subst a;unfold oh;rw[JG Ud,List.map_drop]
theorem wN{B:ak}{n:Nd}{s:Tr}(h:¬ (headT s).n.op=10 \/¬ (headT s).n.a=n.a \/¬ (headT s).n.b<n.b \/¬ (argsT s).length=fJ B n.a+(cS B n.a (headT s).n.b).args.length):iT B n s=false:=by
 cases c:iT B n s with
 |false=>rfl
 |true=>
  simp only[iT,Bool.and_eq_true,decide_eq_true_eq]at c;obtain⟨d,e,f,i⟩:=c;rcases h with h|h|h|h
  ·exact absurd d h
  ·exact absurd e h
  ·exact absurd f h
  ·exact absurd i h
theorem OC{B:ak}{n:Nd}{s:Tr}(h1:(headT s).n.op=10)(h2:(headT s).n.a=n.a)(h3:(headT s).n.b<n.b)(h4:(argsT s).length=fJ B n.a+(cS B n.a (headT s).n.b).args.length):iT B n s=true:=by
 simp only[iT,Bool.and_eq_true,decide_eq_true_eq];exact⟨h1,h2,h3,h4⟩
def G6(B:ak)(cx:Ctx)(R:Nat):Prop:=∀y:Tr,Ft (QB B) (cx.length:Int) y ->(row y).length<R ->VC prog 204 [bw B,aH (cx.map aA),bE y] (Bj (aU B cx y))
section
variable{B:ak}{cx:Ctx}(hB:GoodB B)(hcx:CxOk B cx)(hN:cx.length<=300)
include hB hcx hN
theorem OD{x:Tr}(hx:Ft (QB B) (cx.length:Int) x)(ih:G6 B cx (row x).length):VC prog 204 [bw B,aH (cx.map aA),bE x] (Bj (aU B cx x)):=by
 have hw:=aC hx;have u:=ml (B:=B) (cx:=cx) hw;obtain⟨⟨U,e',w3⟩,w4⟩:=pr _ hw (KJ _);have hh:=hx.head;have ha:=hx.args;have f':=oG hw 4096 hw.len;have eA:=au trP (argsT x);have eC:=au bdP (cx.map aA);have g2:=au aA cx;have c4:=Bh hw;have I:cD B cx x=false ->cE x=none ->Bj (aU B cx x)= .tup [bE x,.bool false,pI 0]:=λh1 h2=>by
  rw[u,h1,h2]
  rfl
 have K:cD B cx x=true ->aU B cx x=((dZ B cx x).1,true,(dZ B cx x).2):=λh=>by rw[u,KX h]
 refine vf 298 [.cell 6 145,.tmp 7,.tmp 8] τok func204 ?_;refine ae c4 ?_;have d:cD B cx x=(if (headT x).n.op=5 then decide (0<(argsT x).length)else if (headT x).n.op=7 \/(headT x).n.op=8 then true else if (headT x).n.op=1 then (fY cx (headT x).n.a).2.isSome else if (headT x).n.op=11 then iT B (headT x).n (kidD (headT x) 1)else if (headT x).n.op=12 then decide (bW (headT x)<(argsT x).length) && decide ((headT ((argsT x).getD (bW (headT x)).toNat (varX 0))).n.op=10)else false):=rfl;have m:cE x=(if (headT x).n.op=11 then some (kidD (headT x) 1)else if (headT x).n.op=12 then (if bW (headT x)<(argsT x).length then some (fK x (bW (headT x)))else none)else none):=rfl;have j:dZ B cx x=(if (headT x).n.op=5 then (an' (cV (kidD (headT x) 1) ((argsT x).getD 0 (varX 0))).1 ((argsT x).drop 1),(cV (kidD (headT x) 1) ((argsT x).getD 0 (varX 0))).2)
 else if (headT x).n.op=7 then (an' (cV (kidD (headT x) 2) (kidD (headT x) 1)).1 (argsT x),(cV (kidD (headT x) 2) (kidD (headT x) 1)).2)
 else if (headT x).n.op=1 then (an' (aK ((fY cx (headT x).n.a).2.getD (varX 0)) ((headT x).n.a+1) 0) (argsT x),0)
 else if (headT x).n.op=8 then (an' (tr (aR B (headT x).n.a).body) (argsT x),0)
 else if (headT x).n.op=11 then (an' (kidD (headT x) (2+(headT (kidD (headT x) 1)).n.b.toNat)) ((argsT (kidD (headT x) 1)).drop (fJ B (headT x).n.a)++argsT x),0)
 else (an' (nF (headT x)).1 (argsT x),(nF (headT x)).2)):=rfl
 generalize a9:headT x=h at *
 generalize a0:argsT x=l at *
 refine af (λg5=>?_) (λg5=>?_)
 ·rw[KX g5]at d j
  have m:cE x=none:=by rw[m,KY Uo,KY Uo]
  refine af (λg0=>?_) (λg0=>?_)
  ·exact⟨_,_,rfl,rfl,(I (by rw[d,KH Uo]) m).symm⟩
  obtain⟨e,v0,v1,l0,l1⟩:=iI U (.inr g5);obtain⟨y,S,hd⟩:=ay (l:=l) (k:=0);have ey:l.getD 0 (varX 0)=y:=by rw[QK,S];rfl
  rw[ey]at j;have L:=JQ S;have hp:=Bi v1 (w4 y L).1 ((ha y L).small Uo);have T:=nE (x:=(cV (kidD h 1) y).1) (ys:=l.drop 1) Uk;have c5:VC prog 237 [bE (cV (kidD h 1) y).1,.sl (((l.map trP).take l.length).drop 1)] (bE (an' (cV (kidD h 1) y).1 (l.drop 1))):=by
   rw[G5 rfl];exact T
  have C:=K (by rw[d,KU Uo]);rw[j]at C;rw[C];refine vt 1 (by rw[e];rfl) ?_;refine vt 0 S ?_;refine ae hp ?_;refine vk ?_;refine bH 1 l.length ?_ (λz hz=>by
   obtain⟨t,_,rfl⟩:=List.mem_map.1 hz;exact(s6 [t] t Ud).1)
  refine ae c5 ?_;exact kA9
 rw[KY g5]at d j;refine af (λg7=>?_) (λg7=>?_)
 ·rw[KX g7]at j
  rw[KX (.inl g7)]at d;obtain⟨e,_⟩:=qx U.ok g7;have g3:(kidsT h).length=3:=by rw[e];rfl
  obtain⟨_,v1,_⟩:=cq U (k:=1);obtain⟨_,v2,_⟩:=cq U (k:=2);have f1:=(hh.kidD (k:=1) Uo).2;have k1:kb h.n 1=0:=by simp[kb,bh,g7]
  rw[k1]at f1;have hp:=Bi v2 v1 (f1.small Uo);have T:=nE (x:=(cV (kidD h 2) (kidD h 1)).1) (ys:=l) Uo;have C:=K d;rw[j]at C;rw[C];refine vt 2 (by rw[e];rfl) ?_;refine vt 1 (by rw[e];rfl) ?_;refine ae hp ?_;refine vk ?_;refine ae T ?_;exact aE
 rw[KY g7]at j;refine af (λg1=>?_) (λg1=>?_)
 ·rw[KX g1]at j
  rw[KY Uo,KX g1]at d;have m:cE x=none:=by rw[m,KY Uo,KY Uo]
  obtain⟨n0,n1⟩:=vu hh g1;obtain⟨va,a4⟩:∃v,h.n.a=v:=⟨_,rfl⟩
  rw[a4]at d j n0 n1;obtain⟨⟨ty,vv⟩,a'⟩:∃q,fY cx va=q:=⟨_,rfl⟩
  have a5:=oe n0 n1;rw[a']at a5;rw[a']at d j;have c6:(cx.map aA)[cx.length-1-va.toNat]?=some (row ty,nF' vv):=by rw[JX,a5];rfl
  refine vi ?_;refine vi ?_;refine vm (cx.length-1-va.toNat) c6 ?_ Uo;cases vv with
  |none=>
   refine vy (p:=((([]:List Nd).map ndP).length:Int)=0) ?_ Ud;exact⟨_,_,rfl,rfl,(I d m).symm⟩
  |some v=>
   have Y:=(hcx _ _ a5).2 v rfl;have b0:=Y.small Uo;have g4:=Y.len;have C:=K d;have j:dZ B cx x=(an' (aK v (va+1) 0) l,0):=j;rw[j]at C;rw[C];have g6:=aZ v;have eR:=au ndP (row v);have b1:=sT (va+1) Uo 4096 Uo v 0 (aC Y) ⟨Uo,Uo⟩ Y.len;have c7:=sS (b:=va+1) (l:=varsT v 0 0) (c:=1000000) Uo λq hq _=>by have:=b0 q hq;omega
   have hr:=sW (va+1) Uo 4096 Uo v 0 (aC Y) ⟨Uo,Uo⟩ Y.len;have el:=vZ (x:=v) (fr:=0) Y.ok b0 (b:=va+1) Uo;rw[<- el]at hr;have T:=nE (x:=aK v (va+1) 0) (ys:=l) Uo;refine vn (p:=(((row v).map ndP).length:Int)=0) ?_;refine ae (jx (aC Y)) ?_;rw[<- a4]at b1 hr c7;refine vi ?_;refine ae b1 ?_;refine vn ?_;refine vi ?_;rw[<- a4]at T ⊢;refine ae hr ?_;refine ae T ?_;exact aE
 rw[KY g1]at j;refine af (λg8=>?_) (λg8=>?_)
 ·rw[KX g8]at j
  rw[KX (.inr g8)]at d;obtain⟨i,en,ty,bo,ea,c8,c9,hD⟩:=hB.dfn hh.node' g8;have b2:=hD.fb;have c':tr (aR B h.n.a).body=bo:=by rw[c9,hD.body];exact jJ b2.ok
  rw[c']at j;have b3:=jx (aC b2);rw[<- hD.body]at b3;have T:=nE (x:=bo) (ys:=l) Uo;have C:=K d;rw[j]at C;rw[C];refine vm i c8 ?_ ea;refine ae b3 ?_;refine ae T ?_;exact aE
 rw[KY g8]at j;rw[KY Uo,KY g1]at d;refine af (λD=>?_) (λD=>?_)
 ·rw[KX D]at j d m
  have hk:=hH U.ok D;have kl:((kidsT h).length:Int)=2+h.n.b:=by rw[hk.1];exact hk.2.1
  obtain⟨F,v1,l1⟩:=cq U (k:=1);have f1:=(hh.kidD (k:=1) Uo).2;have k1:kb h.n 1=0:=by simp[kb,bh,D]
  rw[k1,Int.add_zero]at f1;obtain⟨s,hs⟩:∃s,kidD h 1=s:=⟨_,rfl⟩
  rw[hs]at F v1 l1 f1 d j m;have M:=ih s f1 Uo;obtain⟨⟨g9,g',h0⟩,h4⟩:=pr _ v1 (KJ _);have h5:=au trP (argsT s);have b4:=f1.head;have b5:=Bh v1;have hq:=hh.node';have b6:bF B B.ents.length h.n.a=true:=by
   simp[QB,cw,bg,D]at hq;exact hq
  obtain⟨ei,en,s',ps,qi,ea,_,b7,a6,hF⟩:=hB.fam b6 (KJ _);have eP:=au (λt=>[ah t]) en.params;have l3:=KG List.length hF.params;rw[KF]at l3;have h6:=hF.lp;have b8:fJ B h.n.a=en.params.length:=by unfold fJ;rw[a6]
  have A:=λz=>G3 (l:=kidsT h) (i:=1) (z:=z) F Uo;have d':∀z,fc (.mk h.n (h.ks.set 1 z))=fL h.n (((kidsT h).set 1 z).map trP) [] []:=λz=>by
   have a1:kidsT (.mk h.n (h.ks.set 1 z))=(kidsT h).set 1 z:=by
    rw[hk.1];have h2:¬ h.n.op=2:=Uo
    have e0:¬ h.n.op=12:=Uo
    simp[kidsT,h2,e0]
   have a2:atmsT (.mk h.n (h.ks.set 1 z))=[]:=KY (show ¬ h.n.op=2 by omega);have a3:funsT (.mk h.n (h.ks.set 1 z))=[]:=KY (show ¬ h.n.op=12 by omega);show fL _ _ _ _=_;rw[a1,a2,a3]
   rfl
  have R:=λz=>nE (x:=.mk h.n (h.ks.set 1 z)) (ys:=l) Uo;have E:∀z,bN x z=an' (.mk h.n (h.ks.set 1 z)) l:=λz=>by rw[tg,a9,a0,KX D]
  have V:cD B cx x=false ->aU B cx x=iJ x (aU B cx s):=λhr=>by rw[u,hr,m];rfl
  generalize hr:aU B cx s=r at *
  obtain⟨z,mv,er⟩:=r;have A:=A z;have E:=E z;have N:VC prog 237 [.agg (fL h.n (((kidsT h).set 1 z).map trP) [] []),oh l] (bE (an' (.mk h.n (h.ks.set 1 z)) l)):=by
   rw[<- d'];exact R z
  have o:∀m',iJ x (z,m',er)=if m'=false \/er≠0 then (x,m',er)else (bN x z,true,0):=λ_=>rfl
  refine vt 1 F ?_;refine ae b5 ?_;refine vm ei b7 ?_ ea;refine af (λq1=>?_) (λq1=>?_)
  ·refine af (λP=>?_) (λP=>?_)
   ·refine af (λq3=>?_) (λq3=>?_)
    ·have a7:=b4.node'
     have h7:(headT s).n.b<en.ctors.length:=by
      have q4:(headT s).n.a=h.n.a:=P;simp[QB,cw,bg,q1]at a7;rw[q4,a6]at a7;exact a7.2
     have h8:=(dn b4.ok.pl)
     obtain⟨W,a8⟩:∃c:Nat,(headT s).n.b=(c:Int):=⟨(headT s).n.b.toNat,Uo⟩
     obtain⟨c,hc,_⟩:=ay (l:=en.ctors) (k:=W);obtain⟨ga,go,hC⟩:=hF.ct W c hc;have h9:=hC.la;have l4:=KG List.length hC.args;rw[KF]at l4;have h':=au (λt=>[ah t]) c.args;have Z:cS B h.n.a (headT s).n.b=c:=by unfold cS;rw[a6,a8,Int.toNat_natCast,QK,hc];rfl
     refine vm ei b7 ?_ ea;refine vm W hc ?_ a8;refine vi ?_;refine af (λq4=>?_) (λq4=>?_)
     ·have e1:(argsT s).length=fJ B h.n.a+(cS B h.n.a (headT s).n.b).args.length:=by rw[Z,b8];omega
      have hr:cD B cx x=true:=by rw[d];exact OC q1 P q3 e1
      have C:=K hr;obtain⟨e2,vb,_⟩:=cq U (k:=2+W);rw[j,a8,Int.toNat_natCast,kt']at C;have e3:=nE (x:=kidD h (2+W)) (ys:=(argsT s).drop (fJ B h.n.a)) Uk;have b9:VC prog 237 [bE (kidD h (2+W)),.sl ((((argsT s).map trP).take (argsT s).length).drop (fJ B h.n.a))] (bE (an' (kidD h (2+W)) ((argsT s).drop (fJ B h.n.a)))):=by
       rw[G5 rfl];exact e3
      have e4:=nE (x:=an' (kidD h (2+W)) ((argsT s).drop (fJ B h.n.a))) (ys:=l) Uo;rw[C];refine vk ?_;refine vi ?_;refine vt (2+W) e2 ?_ Uo;refine bH (fJ B h.n.a) (argsT s).length ?_ (λz hz=>by
       obtain⟨t,_,rfl⟩:=List.mem_map.1 hz;exact(s6 [t] t Ud).1) Us
      refine ae b9 ?_;refine ae e4 ?_;exact kA9
     ·have hr:cD B cx x=false:=by rw[d];exact wN (.inr (.inr (.inr (by rw[Z,b8];omega))))
      have u:=V hr;refine vk ?_;refine vt 1 F ?_;refine ae M ?_;refine vk ?_;cases mv with
      |false=>exact aE (h3:=by rw[u,o false];rfl)
      |true=>
       refine af (λk=>?_) (λk=>?_)
       ·exact aE (h3:=by rw[u,o true,KX (.inr k)];rfl)
       ·refine ae A ?_
        refine ae N ?_;refine vk ?_;exact aE (h3:=by rw[u,o true,KY (λq=>q.elim (λq=>by cases q) k),E];rfl)
    ·have hr:cD B cx x=false:=by rw[d];exact wN (.inr (.inr (.inl q3)))
     have u:=V hr;refine vk ?_;refine vt 1 F ?_;refine ae M ?_;refine vk ?_;cases mv with
     |false=>exact aE (h3:=by rw[u,o false];rfl)
     |true=>
      refine af (λk=>?_) (λk=>?_)
      ·exact aE (h3:=by rw[u,o true,KX (.inr k)];rfl)
      ·refine ae A ?_
       refine ae N ?_;refine vk ?_;exact aE (h3:=by rw[u,o true,KY (λq=>q.elim (λq=>by cases q) k),E];rfl)
   ·have hr:cD B cx x=false:=by rw[d];exact wN (.inr (.inl P))
    have u:=V hr;refine vk ?_;refine vt 1 F ?_;refine ae M ?_;refine vk ?_;cases mv with
    |false=>exact aE (h3:=by rw[u,o false];rfl)
    |true=>
     refine af (λk=>?_) (λk=>?_)
     ·exact aE (h3:=by rw[u,o true,KX (.inr k)];rfl)
     ·refine ae A ?_
      refine ae N ?_;refine vk ?_;exact aE (h3:=by rw[u,o true,KY (λq=>q.elim (λq=>by cases q) k),E];rfl)
  ·have hr:cD B cx x=false:=by rw[d];exact wN (.inl q1)
   have u:=V hr;refine vk ?_;refine vt 1 F ?_;refine ae M ?_;refine vk ?_;cases mv with
   |false=>exact aE (h3:=by rw[u,o false];rfl)
   |true=>
    refine af (λk=>?_) (λk=>?_)
    ·exact aE (h3:=by rw[u,o true,KX (.inr k)];rfl)
    ·refine ae A ?_
     refine ae N ?_;refine vk ?_;exact aE (h3:=by rw[u,o true,KY (λq=>q.elim (λq=>by cases q) k),E];rfl)
 rw[KY D]at j d m;refine af (λH=>?_) (λH=>?_)
 ·rw[KX H]at d m
  obtain⟨f,hf,b',e5,e6⟩:=og U.ok H;have i0:=dp U.ok H;have e7:funsT h=h.ks.map (·.n):=by unfold funsT;rw[KX H]
  have e8:(funsT h)[h.n.a.toNat]?=some f.n:=by rw[e7,JX,hf];rfl
  refine vm h.n.a.toNat e8 ?_ Uo;rw[b']at d m e5 e6;refine af (λq1=>?_) (λq1=>?_)
  ·exact⟨_,_,rfl,rfl,(I (by rw[d,KH Uo];rfl) (by rw[m,KY Uo])).symm⟩
  obtain⟨pn,O⟩:∃k:Nat,f.n.a=(k:Int):=⟨f.n.a.toNat,Uo⟩
  obtain⟨y,S,_⟩:=ay (l:=l) (k:=pn);have L:=JQ S;have eD:fK x f.n.a=y:=by unfold fK;rw[a0,QK,O,Int.toNat_natCast,S];rfl
  have eG:l.getD f.n.a.toNat (varX 0)=y:=by rw[QK,O,Int.toNat_natCast,S];rfl
  rw[eG,KU Uo,Bool.true_and]at d;rw[KX Uo,eD]at m;have fy:=ha y L;have wy:=(w4 y L).1;have c0:=Bh wy;refine vt pn S ?_ O;refine ae c0 ?_;refine af (λP=>?_) (λP=>?_)
  ·have P:¬ (headT y).n.op=10:=P
   have u:aU B cx x=iJ x (aU B cx y):=by rw[u,d,KH P,m];rfl
   have M:=ih y fy (w4 y L).2;have c2:=λz=>G3 (l:=l) (i:=pn) (z:=z) S Uo;have R:=λz=>nE (x:=h) (ys:=l.set pn z) Uk;have c3:∀z,bN x z=an' h (l.set pn z):=λz=>by rw[tg,a9,a0,KY D,b',O,Int.toNat_natCast]
   generalize hr:aU B cx y=r at *
   obtain⟨z,mv,er⟩:=r;have A:=c2 z;have E:=c3 z;have N:=R z;rw[<- O]at A;have o:∀m',iJ x (z,m',er)=if m'=false \/er≠0 then (x,m',er)else (bN x z,true,0):=λ_=>rfl
   refine vt pn S ?_ O;refine ae M ?_;refine vk ?_;cases mv with
   |false=>exact aE (h3:=by rw[u,o false];rfl)
   |true=>
    refine af (λk=>?_) (λk=>?_)
    ·exact aE (h3:=by rw[u,o true,KX (.inr k)];rfl)
    ·refine ae A ?_
     refine ae N ?_;refine vk ?_;exact aE (h3:=by rw[u,o true,KY (λq=>q.elim (λq=>by cases q) k),E];rfl)
  ·have P:(headT y).n.op=10:=QY P
   have C:=K (by rw[d,KU P]);rw[j]at C;rw[C];have e9:=OB (qk B) hh H Uo Uo;have T:=nE (x:=(nF h).1) (ys:=l) Uo;refine ae e9 ?_;refine ae T ?_;exact aE
 rw[KY H]at d m;exact⟨_,_,rfl,rfl,(I d m).symm⟩
theorem goV:∀R,G6 B cx R
 |0=>λy _ h=>Uo
 |R+1=>λy a hl=>OD hB hcx hN a λz b c=>goV R z b Uo
end
theorem OE{n:Nd}{ks:List Tr}(f:aG n=true)(b:n.op=11)(hl:(ks.length:Int)=2+n.b)(a:∀k∈ks,Ok .tm k):Ok .tm (.mk n ks):=by
 have c:n.op≠2:=Uo
 have d:n.op≠12:=Uo
 have i:n.op≠13:=Uo
 refine⟨⟨?_,?_⟩,?_⟩
 ·simp only[cnt,f,c]
  rw[KX ⟨trivial,Uo,Uo⟩];simp[bv,b];omega
 ·have:∀(l:List Tr) (j:Nat),(∀k∈l,Ok .tm k) ->bC cnt nx l n .tm j:=by
   intro l
   induction l with
   |nil=>intros;trivial
   |cons y l e=>
    intro j h;exact⟨by rw[show nx Md.tm n j= .tm by simp[nx,c,d]];exact(h y Ud).1,e _ λk a=>h k (by simp[a])⟩
  exact this ks 0 a
 ·have:∀(l:List Tr),(∀k∈l,Ok .tm k) ->fc' l=true:=by
   intro l
   induction l with
   |nil=>intros;rfl
   |cons y l e=>
    intro h;simp[fc',(h y Ud).2,e λk a=>h k (by simp[a])]
  simp[gQ',c,this ks a]
theorem OF{Q:Nd ->Prop}{N:Int}{x y z:Tr}(a:Ft Q N x)(b:cE x=some y)(c:Ok .tm z):Ok .tm (bN x z):=by
 have d:∀u∈argsT x,Ok .tm u:=λu f=>(a.args u f).ok;rw[tg];unfold cE at b;split at b
 ·rename_i g
  rw[KX g];have e:=hH a.head.ok g;refine eQ' _ _ (OE a.head.ok.pl g (by rw[List.length_set];exact e.2.1) λk h=>?_) d;rcases List.mem_or_eq_of_mem_set h with h|h
  ·rw[<- e.1]at h
   exact(vq (aC a.head) k h).1.ok
  ·rw[h];exact c
 ·rename_i g
  rw[KY g];refine eQ' _ _ a.head.ok λk h=>?_;rcases List.mem_or_eq_of_mem_set h with h|h
  ·exact d k h
  ·rw[h];exact c
theorem G7{b u:Tr}(hb:Ok .tm b)(a:Ok .tm u)(c:eu u)(h:(cV b u).2=0):Ok .tm (cV b u).1/\(row (cV b u).1).length<=4096:=by
 unfold cV at h ⊢;split at h
 ·cases h
 ·rename_i g
  rw[KY g];exact⟨za hb a c,uN hb a c (by simpa using g)⟩
theorem G8(l:List Tr)(i:Nat):(l.drop i).length+dJ (l.drop i)<=l.length+dJ l:=by
 have h:dJ l=dJ (l.take i)+dJ (l.drop i):=by
  unfold dJ;rw[<- List.sum_append,<- KB,List.take_append_drop]
 rw[VK];omega
section
variable{B:ak}{cx:Ctx}(hB:GoodB B)(hcx:CxOk B cx)(hN:cx.length<=300)
include hB hcx hN
theorem OG{x:Tr}(D:Ft (QB B) (cx.length:Int) x)(hr:cD B cx x=true)(he:(dZ B cx x).2=0):Ok .tm (dZ B cx x).1/\(row (dZ B cx x).1).length<=(row x).length+4096:=by
 have Z:=D.nargs;rw[rows_len]at Z;have s:=D.head;have hw:=aC D;obtain⟨⟨d,a0,w3⟩,w4⟩:=pr _ hw (KJ _);have S:=D.args;have a:∀(p:Tr) (f:List Tr),Ok .tm p ->(row p).length<=4096 ->(∀y∈f,Ok .tm y) ->f.length+dJ f<=(row x).length ->Ok .tm (an' p f)/\(row (an' p f)).length<=(row x).length+4096:=λp f j h2 h3 h4=>by
  refine⟨eQ' f p j h3,?_⟩;rw[bK'];simp only[JK,List.length_replicate,rows_len];omega
 have m:∀y∈argsT x,Ok .tm y:=λy E=>(S y E).ok;unfold dZ at he ⊢
 dsimp only at he ⊢
 unfold cD at hr
 dsimp only at hr
 generalize headT x=h at *
 generalize argsT x=l at *
 by_cases I:h.n.op=5
 ·rw[KX I]at he ⊢ hr
  obtain⟨_,v0,F,_,_⟩:=iI d (.inr I);obtain⟨y,E,_⟩:=ay (l:=l) (k:=0) (by simpa using hr);have ey:l.getD 0 (varX 0)=y:=by rw[QK,E];rfl
  rw[ey]at he ⊢;have z:=JQ E;obtain⟨K,L⟩:=G7 F.ok (m y z) ((S y z).small Uo) he;have:=G8 l 1;exact a _ _ K L (λu c=>m u (List.mem_of_mem_drop c)) Uo
 rw[KY I]at he ⊢ hr
 by_cases H:h.n.op=7
 ·rw[KX H]at he ⊢
  obtain⟨e,_⟩:=qx d.ok H;have a1:(kidsT h).length=3:=by rw[e];rfl
  obtain⟨_,F,_⟩:=cq d (k:=1);obtain⟨_,v2,_⟩:=cq d (k:=2);have f1:=(s.kidD (k:=1) Uo).2;have k1:kb h.n 1=0:=by simp[kb,bh,H]
  rw[k1]at f1;obtain⟨K,L⟩:=G7 v2.ok F.ok (f1.small Uo) he;exact a _ _ K L m Uo
 rw[KY H]at he ⊢
 by_cases j:h.n.op=1
 ·rw[KX j]at he ⊢
  rw[KY Uo,KX j]at hr;obtain⟨n0,n1⟩:=vu s j;obtain⟨⟨ty,vv⟩,M⟩:∃q,fY cx h.n.a=q:=⟨_,rfl⟩
  have A:=oe n0 n1;rw[M]at A hr ⊢;cases vv with
  |none=>cases hr
  |some v=>
   have T:=((hcx _ _ A).2 v rfl).lift (qk B) (b:=h.n.a+1) Uo Uo Uo;exact a _ _ T.ok T.len m Uo
 rw[KY j]at he ⊢
 by_cases N:h.n.op=8
 ·rw[KX N]at he ⊢
  obtain⟨i,en,ty,bo,ea,a2,O,U⟩:=hB.dfn s.node' N;have o:=U.fb;have P:tr (aR B h.n.a).body=bo:=by rw[O,U.body];exact jJ o.ok
  rw[P];exact a _ _ o.ok o.len m Uo
 rw[KY N]at he ⊢;rw[KY Uo,KY j]at hr
 by_cases r:h.n.op=11
 ·rw[KX r]at he ⊢ hr
  have V:=hH d.ok r;have kl:((kidsT h).length:Int)=2+h.n.b:=by rw[V.1];exact V.2.1
  obtain⟨a3,F,l1⟩:=cq d (k:=1);have f1:=(s.kidD (k:=1) Uo).2;simp only[iT,Bool.and_eq_true,decide_eq_true_eq]at hr;obtain⟨_,_,r3,_⟩:=hr;have a4:=dn f1.head.ok.pl;obtain⟨_,W,_⟩:=cq d (k:=2+(headT (kidD h 1)).n.b.toNat);have R:=f1.nargs;rw[rows_len]at R;have:=G8 (argsT (kidD h 1)) (fJ B h.n.a);refine a _ _ W.ok W.len (λu c=>?_) ?_
  ·rcases List.mem_append.1 c with c|c
   ·exact(f1.args u (List.mem_of_mem_drop c)).ok
   ·exact m u c
  ·have e:dJ ((argsT (kidD h 1)).drop (fJ B h.n.a)++l)=dJ ((argsT (kidD h 1)).drop (fJ B h.n.a))+dJ l:=by
    unfold dJ;rw[KB,List.sum_append]
   rw[JK,e];omega
 rw[KY r]at he ⊢ hr
 by_cases C:h.n.op=12
 ·have c:lN h= .ok (nF h).1:=by
   unfold lN;rw[Bf,KY (by
    intro q;exact q he)]
   rfl
  have Y:=zB (qk B) s C Uo Uo c;exact a _ _ Y.ok Y.len m Uo
 ·rw[KY C]at hr
  cases hr
theorem OH(M:Nat):∀x:Tr,Ft (QB B) (cx.length:Int) x ->(row x).length<=M ->(aU B cx x).2.2=0 ->Ok .tm (aU B cx x).1/\(row (aU B cx x).1).length<=(row x).length+4096:=by
 induction M with
 |zero=>intro x _ h;have:=aZ x;omega
 |succ M c=>
  intro x a h;rw[ml (aC a)]
  by_cases hr:cD B cx x=true
  ·rw[KX hr]
   exact λd=>OG hB hcx hN a hr d
  ·rw[KY hr]
   cases b:cE x with
   |none=>exact λ_=>⟨a.ok,Us⟩
   |some p=>
    obtain⟨e,k⟩:=kQ a b;simp only;unfold iJ;split
    ·exact λ_=>⟨a.ok,Us⟩
    ·rename_i q
     intro _;have f:(aU B cx p).2.2=0:=QY λi=>q (.inr i);obtain⟨j,l⟩:=c p e Uo f;have m:=sB (p:=(aU B cx p).1) a b;exact⟨OF a b j,Us⟩
def th(r:Except Int (Tr×Nat)):PV:=match r with
 | .ok q=>.tup [ah (row q.1),pI q.2,pI 0]
 | .error e=>.tup [.sl [],pI 0,pI e]
theorem Bm{x:Tr}(D:Ft (QB B) (cx.length:Int) x){n:Nat}(P:n<=100000):VC prog 153 [bw B,aH (cx.map aA),ah (row x),pI n] (th (cW B cx 4096 n x)):=by
 generalize c:cW B cx 4096 n x=e;refine vf 49 [.tmp 8,.tmp 9,.tmp 10] τok func153 ?_;refine ae (jx (aC D)) ?_;refine aB τok (σ:=Nat×Tr) [(1,_),(4,_),(11,_)] [(4,_)] (λq=>[(3,vI q.1)]) (λq=>[(11,.st 0 145 ((fc q.2).map .p))]) (λq=>q.1<=n/\Ft (QB B) (cx.length:Int) q.2/\cW B cx 4096 q.1 q.2=e) (λq=>q.1) (n,x) ⟨KJ _,D,c⟩ ?_
 clear c
 rintro⟨k,z⟩ ⟨F,d,f⟩;simp only at F d f;have u:=goV hB hcx hN _ z d (Nat.lt_succ_self _);have v:=OH hB hcx hN _ z d (KJ _);have A:=G2 hB hcx Uo _ z d (KJ _);obtain⟨C,H⟩:=tf _ z (aC d) (KJ _);have I:=d.len;have o:=λa=>wH (B:=B) (cx:=cx) (room:=a) (n:=k) (x:=z);have s:=λa=>wI (B:=B) (cx:=cx) (room:=a) (x:=z);have K:=λa m=>qO (B:=B) (cx:=cx) (room:=a) (n:=m) (x:=z);have i:=λa m=>wJ (B:=B) (cx:=cx) (room:=a) (n:=m) (x:=z)
 generalize hr:aU B cx z=r at *
 obtain⟨y,mv,j⟩:=r;refine aj<|ae u ?_;cases mv with
 |false=>
  have o:=o 4096 rfl;rw[f]at o;subst o;refine ae (lP 4096 Uo z (aC d) d.len) ?_;exact aE
 |true=>
  refine af (λq1=>?_) (λq1=>?_)
  ·have q1:(k:Int)=0:=q1
   obtain rfl:k=0:=Uo
   have s:=s 4096 rfl;rw[f]at s;subst s;exact aE
  have q1:¬ (k:Int)=0:=q1;obtain⟨m,rfl⟩:∃m,k=m+1:=⟨k-1,Uo⟩
  have l:(j≠0 \/(4096:Int)<len y) ->e= .error 9:=λh=>by rw[<- f];exact K 4096 m rfl h
  refine af (λb=>?_) (λb=>?_)
  ·have b:j=0:=b
   obtain⟨E,L⟩:=v b;simp only at E L;refine ae (Be 10000 Uo y E Uo) ?_;refine af (λM=>?_) (λM=>?_)
   ·have:=l (.inr (by unfold len;omega))
    subst this;refine vy (p:=(9:Int)≠0) ?_ UO;exact aE
   ·refine vn (p:=j≠0) ?_
    refine vi ?_;have i:=i 4096 m rfl (by
     rintro(h|h)
     ·exact h b
     ·unfold len at h;simp only at h;omega)
    simp only at i;rw[f]at i;have N:=A rfl b Us;exact aw (m,y) ⟨Us,N,i.symm⟩ (x:=⟨KG (λz=>some (vI z)) Us,trivial⟩)
  ·have b:¬ j=0:=b
   have:=l (.inl b);subst this;have O:j=9:=C.resolve_left b;subst O;refine vy (p:=(9:Int)≠0) ?_ UO;exact aE
end
def Bo(c:List (List Nd×List Nd)):Prop:=c.length<=1000000/\∀q∈c,q.1.length<=1000000/\q.2.length<=1000000
theorem OI{B:ak}(hS:dG B){c:List (List Nd×List Nd)}(hc:Bo c){t:List Nd}(ht:t.length<=1000000):VC prog 23 [bw B,aH c,ah t] (pI (dX B c t)):=by
 have eC:=au bdP c;have s:=au cj B.ents;have m:=wb hS;have hcl:=hc.1;have d:=λ(t:List Nd) (h:t.length<=1000000) (a:Int)=>qJ (B:=B) (known:=B.ents.length) (self:=-1) (KJ _) t h a;rw[<- s]at d;refine vf 67 [.tmp 6] τok func23 ?_;refine ae m ?_;refine af (λg=>?_) (λg=>?_)
 ·exact aE (h3:=by unfold dX;rw[KX g];rfl)
 have g:cT B=0:=QY g;have o:∀(a:Nat) (t:List Nd),gy B a t=cP B (B.ents.map cj).length (-1) t a:=λa t=>by
  unfold gy;rw[KY (by rw[g];decide),KY Uo,s]
 refine af (λv=>?_) (λv=>?_)
 ·exact aE (h3:=by unfold dX;rw[KY (by rw[g];decide),KX Uo];rfl)
 have x:dX B c t=if jd B c 0≠0 then jd B c 0 else gy B c.length t:=by
  unfold dX;rw[KY (by rw[g];decide),KY Uo]
 rw[x]
 generalize r:jd B c 0=u
 refine aB τok (σ:=Nat) [(1,_),(2,_),(3,_)] [(3,_)] (λi=>[(8,vI i)]) (λ_=>[]) (λi=>i<=c.length/\u=jd B (c.drop i) i) (λi=>c.length-i) 0 ⟨KV _,r.symm⟩ ?_;rintro i ⟨C,b⟩;refine aj<|af (λk=>?_) (λk=>?_)
 ·obtain⟨q,f,y⟩:=ay (l:=c) (k:=i)
  obtain⟨q1,z⟩:=hc.2 q (JQ f);rw[y]at b;simp only[jd]at b;rw[o,o]at b;have D:=au ndP q.2;refine vm i f ?_;refine ae (d q.1 q1 i) ?_;refine vk ?_;refine af (λe=>?_) (λe=>?_)
  ·rw[KY (λh=>h e)]at b
   refine vm i f ?_;refine af (λA=>?_) (λA=>?_)
   ·rw[KY Uo]at b
    refine vm i f ?_;refine ae (d q.2 z i) ?_;refine vk ?_;refine af (λj=>?_) (λj=>?_)
    ·rw[KX j]at b
     exact aE (h3:=by rw[b,KX j];rfl)
    ·rw[KY j]at b
     refine vi ?_;exact aw (i+1) ⟨Uo,b⟩
   ·rw[KX Uo]at b
    refine vn (p:=cP B (B.ents.map cj).length (-1) q.1 i≠0) ?_ (λh=>h e);refine vi ?_;exact aw (i+1) ⟨Uo,b⟩
  ·rw[KX e]at b
   refine vy (p:=cP B (B.ents.map cj).length (-1) q.1 i≠0) ?_ e;exact aE (h3:=by rw[b,KX e];rfl)
 ·rw[JY Uo]at b
  have b:u=0:=b;refine ae (d t ht _) ?_;exact aE (h3:=by rw[KY (by rw[b];decide),o,eC];rfl)
theorem wO{x:Tr}(f:Wf x)(h2:x.n.op=2):VC prog 95 [ah (row x)] (cF (bX x)):=by
 have hr:=jL f.ok;have a:kidsT x=[]:=by unfold kidsT;cases x;exact KX h2
 have i:atmsT x=x.ks.map (·.n):=by unfold atmsT;rw[KX h2]
 rw[a,i]at hr;simp only[cB,JD]at hr;have r:=f.len;have d:=KG List.length hr;simp only[JV,KF]at d;have s:=au ndP (row x);have e:∀j,j<x.ks.length ->∃k,x.ks[j]?=some k/\(row x)[j+1]?=some k.n:=λj m=>by
  obtain⟨k,a,_⟩:=ay (l:=x.ks) (k:=j) m;exact⟨k,a,by rw[hr,List.getElem?_cons_succ,JX,a];rfl⟩
 refine cR 26 [.tmp 2] τok func95 ?_;refine aj<|dC 3 1000 220 2 rfl rfl<|aB τok (σ:=Nat×Int) [(0,_)] [] (λq=>[(3,.c (.row 1000)),(4,vI q.2)]) (λq=>[(1000,.rw 220 2 (((bX x).take q.1).map atP))]) (λq=>q.1<=x.ks.length/\q.2=(q.1:Int)+1) (λq=>x.ks.length-q.1) (0,1) ⟨KV _,rfl⟩ ?_;rintro⟨j,v⟩ ⟨o,p⟩;simp only at o p;refine aj<|af (λg=>?_) (λg=>?_)
 ·simp only at g
  obtain⟨k,a,b⟩:=e j Uo;refine vm (j+1) b ?_ Us;refine vm (j+1) b ?_ Us;refine bi ?_ (hb:=Uk);refine vk ?_;refine vi ?_;exact aw (j+1,v+1) ⟨Us,Us⟩ (sw 1000 24) (y':=⟨KG (λl=>some (SE.rw _ _ l)) (by
   rw[QQ,KB];unfold bX;rw[JX,a]
   rfl),trivial⟩)
 ·simp only at g
  rw[JG (by simp[bX];omega)];exact aE
def cy(cx:Ctx)(x:Tr)(i:Nat):Ctx:=if (x.n.op=4 \/x.n.op=5)/\i=1 then cx++[(kidD x 0,none)]else if x.n.op=12/\i%2=1 then cx++aQ x else cx
theorem wP{cx:Ctx}{x:Tr}{Q:Nd ->Prop}(F:Qk Q){N:Int}(y:Ft Q N x)(V:0<=N)(hN:N<=90000)(hc:cx.length<=1000)(i:Nat)(hi:i<=1000):VC prog 56 [aH (cx.map aA),ah (row x),pI i] (aH ((cy cx x i).map aA)):=by
 have m:=aC y;have a:(row x)[0]?=some x.n:=by rw[jL y.ok];rfl
 have H:=au aA cx;have I:=iy y.ok;have K:=iH m;refine vf 76 [.tmp 6] τok func56 ?_;refine va (p:=bdP) ?_ (GF _);refine ae K ?_;refine vm 0 a ?_;have f:¬ ((x.n.op=4 \/x.n.op=5)/\i=1) ->¬ x.n.op=12 ->cy cx x i=cx:=λo r=>by unfold cy;rw[KY o,KY λq=>r q.1]
 have z:(x.n.op=4 \/x.n.op=5) ->i=1 ->cy cx x i=cx++[(kidD x 0,none)]:=λo r=>by unfold cy;rw[KX ⟨o,r⟩]
 have one:(x.n.op=4 \/x.n.op=5) ->((kidsT x).map row)[0]?=some (row (kidD x 0)):=λh=>by
  obtain⟨e,_⟩:=iI m h;rw[e]
  rfl
 have fin:(x.n.op=4 \/x.n.op=5) ->i=1 ->PV.sl ((cx.map aA).map bdP++[[ah (row (kidD x 0)),.sl []]])=aH ((cy cx x i).map aA):=λo r=>by
  rw[z o r];unfold aH;rw[KB,KB]
  rfl
 refine af (λA=>?_) (λA=>?_)
 ·refine af (λs=>?_) (λs=>?_)
  ·refine az 0 (one (.inl A)) ?_
   refine bi ?_;refine vm 0 a ?_;exact vn<|⟨_,_,rfl,rfl,fin (.inl A) Uo⟩
  ·refine vm 0 a ?_
   refine vn ?_;exact aE (h3:=by rw[f Uo Uo];rfl)
 refine vm 0 a ?_;refine af (λC=>?_) (λC=>?_)
 ·refine af (λs=>?_) (λs=>?_)
  ·refine az 0 (one (.inr C)) ?_
   refine bi ?_;refine vm 0 a ?_;exact vn<|⟨_,_,rfl,rfl,fin (.inr C) Uo⟩
  ·refine vm 0 a ?_
   refine vn ?_;exact aE (h3:=by rw[f Uo Uo];rfl)
 refine vm 0 a ?_;refine af (λd=>?_) (λd=>?_)
 ·refine pT Uo Uo Uo ?_
  refine af (λs=>?_) (λs=>?_)
  ·have W:=fA m.ok d
   have L:=dp m.ok d;have M:cy cx x i=cx++aQ x:=by unfold cy;rw[KY Uo,KX ⟨d,Uo⟩]
   have O:(aQ x).length=x.n.b.toNat:=by simp[aQ]
   refine aB τok (σ:=Nat) [(1,_),(8,_)] [] (λj=>[(7,.c (.row 1000)),(9,vI j)]) (λj=>[(1000,.rw 87 2 ((cx.map aA).map bdP++(((aQ x).take j).map aA).map bdP))]) (λj=>j<=x.n.b.toNat) (λj=>x.n.b.toNat-j) 0 (KV _) ?_ (sw 1000 14) (y1:=⟨KG (λl=>some (SE.rw _ _ l)) (by simp[dN]),trivial⟩);rintro j Y;have Z:((aQ x).take j).length=j:=by rw[VJ];omega
   refine aj<|vm 0 a ?_;refine af (λP=>?_) (λP=>?_)
   ·obtain⟨R,u,lk⟩:=cq m (k:=2*j)
    have D:=(y.kidD (k:=2*j) Uo).2;have S:kb x.n (2*j)=0:=by unfold kb;rw[KX d,KY Uo]
    rw[S]at D;have T:=D.small Uo;have hr:=sW (j:Int) Uo 4096 Uo (kidD x (2*j)) 0 u ⟨Uo,by have:=u.len;omega⟩ u.len;have el:=vZ (x:=kidD x (2*j)) (fr:=0) u.ok T (b:=(j:Int)) Uo;rw[<- el]at hr;have E:=D.lift F (b:=(j:Int)) Uo Uo Uo;have v:=lP 4096 Uo _ (aC E) E.len;refine vi ?_;refine az (2*j) (x:=row (kidD x (2*j))) (by rw[JX,R];rfl) ?_;refine ae (jx u) ?_;refine ae hr ?_;refine ae v ?_;refine bi ?_ (hb:=Uk);refine vi ?_;exact aw (j+1) (by show j+1<=_;omega) (sw 1000 74) (y':=⟨KG (λl=>some (SE.rw _ _ l)) (by
     have U:(aQ x)[j]?=some (aK (kidD x (2*j)) j 0,none):=by
      unfold aQ;rw[JX,List.getElem?_range Uo]
      rfl
     rw[QQ,U,KB,KB,<- List.append_assoc]
     rfl),trivial⟩)
   ·rw[JG Uo]
    exact aE (h3:=by rw[M];unfold aH;rw[KB,KB];rfl)
  ·exact aE (h3:=by
    have e:cy cx x i=cx:=by unfold cy;rw[KY Uo,KY Uo]
    rw[e]
    rfl)
 ·exact aE (h3:=by rw[f Uo d];rfl)
theorem G9(m:Except Int (Bool×Nat)):gL m (λn=>.ok (true,n))=m:=by
 unfold gL;cases m with
 |error e=>rfl
 |ok q=>
  obtain⟨b,n⟩:=q;cases b<;>rfl
def kidsL(rc:RcC)(cx:Ctx)(f:Tr)(u:Bool):Nat ->List Tr ->List Tr ->Nat ->Except Int (Bool×Nat)
 |i,x::r,y::s,n=>gL (rc (cy cx f i) x y ((u && decide (f.n.op=4)) && decide (i=1)) n) (kidsL rc cx f u (i+1) r s)
 |_,_,_,n=>.ok (true,n)
def Bp(B:ak)(rc:RcC)(cx:Ctx)(f g:Tr)(u:Bool)(n:Nat):Except Int (Bool×Nat):=
 if f.n.op=2/\iC B f g u=false then .ok (false,n)
 else if (f.n.op≠2/\f.n.op≠4/\f.n.op≠5)/\f.n≠g.n then .ok (false,n)
 else if funsT f≠funsT g then .ok (false,n)
 else kidsL rc cx f u 0 (kidsT f) (kidsT g) n
theorem Ha{rc:RcC}{cx:Ctx}{f:Tr}{u:Bool}(h4:f.n.op≠4)(b:f.n.op≠5)(a:f.n.op≠12):∀(l m:List Tr) (i n:Nat),kidsL rc cx f u i l m n=dh rc cx l m n
 |[],_,_,_=>by simp[kidsL,dh]
 |_::_,[],_,_=>by simp[kidsL,dh]
 |x::r,y::s,i,n=>by
  have e:cy cx f i=cx:=by unfold cy;rw[KY Uo,KY Uo]
  simp only[kidsL,dh];rw[e,KH h4,Bool.and_false,Bool.false_and]
  congr 1
  funext n
  exact Ha h4 b a r s (i+1) n
theorem Hc{rc:RcC}{cx:Ctx}{f:Tr}{u:Bool}(c:f.n.op=12):∀(l m:List Tr) (i n:Nat),i%2=0 ->l.length%2=0 ->l.length=m.length ->kidsL rc cx f u i l m n=eJ rc cx (cx++aQ f) l m n
 |[],[],_,_,_,_,_=>by simp[kidsL,eJ]
 |[],_::_,_,_,_,_,h=>by simp at h
 |_::_,[],_,_,_,_,h=>by simp at h
 |[_],_,_,_,_,h,_=>by simp at h
 |_::_::_,[_],_,_,_,_,h=>by simp at h
 |x::a::r,y::b::s,i,n,k,hl,he=>by
  have d:cy cx f i=cx:=by unfold cy;rw[KY Uo,KY Uo]
  have e:cy cx f (i+1)=cx++aQ f:=by unfold cy;rw[KY Uo,KX Uo]
  have j:¬ f.n.op=4:=Uo
  simp only[kidsL,eJ];rw[d,e,KH j,Bool.and_false,Bool.false_and,Bool.false_and]
  congr 1
  funext n
  congr 1
  funext n
  exact Hc c r s (i+1+1) n Uo (by simp only[JV]at hl;omega) (by simpa using he)
theorem wQ{f:Tr}(m:Wf f)(d:f.n.op=12):funsT f=(placesM f).map λa=>⟨13,a,0⟩:=by
 unfold funsT placesM;rw[KX d,List.map_map];refine List.map_congr_left λk e=>?_;obtain⟨j,p⟩:=JH e;obtain⟨q,r,_,c,l,_⟩:=lM m.ok d p;have i:k.n.b=0:=by
  simp[aG,c]at l;exact l.2
 show k.n=⟨13,k.n.a,0⟩
 cases e:k.n with
 |mk o a b=>
  rw[e]at c i;simp only at c i;rw[c,i]
theorem OJ(B:ak)(rc:RcC)(cx:Ctx){f g:Tr}(j:Wf f)(k:Wf g)(y:f.n.op=g.n.op)(u:Bool)(n:Nat):jq B rc cx f g u n=Bp B rc cx f g u n:=by
 have a:∀x:Tr,x.n.op≠12 ->funsT x=[]:=λx h=>KY h;unfold jq Bp
 by_cases e:f.n.op=2
 ·have r:kidsT f=[]:=by unfold kidsT;cases f;exact KX e
  rw[KX e];cases z:iC B f g u with
  |false=>rw[KX ⟨e,rfl⟩]
  |true=>
   rw[KY (by rintro⟨_,h⟩;cases h),KY (λh=>h.1.1 e),a f Uo,a g Uo,KY Ud,r];simp[kidsL]
 rw[KY e,KY (show ¬ (f.n.op=2/\iC B f g u=false)from λh=>e h.1)]
 by_cases d:f.n.op=4
 ·obtain⟨m,_⟩:=iI j (.inl d)
  obtain⟨o,_⟩:=iI k (.inl Uo);have p:cy cx f 0=cx:=by unfold cy;rw[KY Uo,KY Uo]
  have q:cy cx f 1=cx++[(kidD f 0,none)]:=by unfold cy;rw[KX Uo]
  rw[KX d,KY (λh=>h.1.2.1 d),a f Uo,a g Uo,KY Ud,m,o];simp only[kidsL];rw[p,q,KU d];simp only[Bool.and_true]
  congr 1
  ·simp
  ·funext n
   simp[G9]
 rw[KY d]
 by_cases i:f.n.op=5
 ·obtain⟨m,_⟩:=iI j (.inr i)
  obtain⟨o,_⟩:=iI k (.inr Uo);have p:cy cx f 0=cx:=by unfold cy;rw[KY Uo,KY Uo]
  have q:cy cx f 1=cx++[(kidD f 0,none)]:=by unfold cy;rw[KX Uo]
  rw[KX i,KY (λh=>h.1.2.2 i),a f Uo,a g Uo,KY Ud,m,o];simp only[kidsL];rw[p,q,KH d];simp only[Bool.and_false,Bool.false_and]
  congr 1
  funext n
  simp[G9]
 rw[KY i]
 by_cases b:f.n.op=12
 ·rw[KX b]
  by_cases c:f.n=g.n
  ·rw[KX c,KY (show ¬ ((f.n.op≠2/\f.n.op≠4/\f.n.op≠5)/\f.n≠g.n)from λh=>h.2 c)]
   have s:=fA j.ok b;have v:=fA k.ok Uo;have A:f.n.b=g.n.b:=by rw[c]
   unfold nf
   by_cases l:placesM f=placesM g
   ·rw[KX l,KY (by rw[wQ j b,wQ k Uo,l];simp),Hc b _ _ 0 n rfl Uo Uo]
   ·rw[KY l,KX]
    intro h;rw[wQ j b,wQ k Uo]at h;refine l ?_;have:=KG (List.map Nd.a) h;rw[List.map_map,List.map_map]at this;exact(List.map_id _).symm.trans (this.trans (List.map_id _))
  ·rw[KY c,KX ⟨⟨e,d,i⟩,c⟩]
 ·rw[KY b]
  by_cases c:f.n=g.n
  ·rw[KX c,KY (show ¬ ((f.n.op≠2/\f.n.op≠4/\f.n.op≠5)/\f.n≠g.n)from λh=>h.2 c),a f b,a g Uo,KY Ud,Ha d i b]
  ·rw[KY c,KX ⟨⟨e,d,i⟩,c⟩]
def qP(r:Except Int (Bool×Nat)):PV:=match r with
 | .ok q=>.tup [.bool q.1,pI q.2,pI 0]
 | .error e=>.tup [.bool false,pI 0,pI e]
def ti(B:ak)(g:Nat):Prop:=∀(cx:Ctx) (x y:Tr) (u:Bool) (n:Nat),CxOk B cx ->cx.length<=260 ->Ft (QB B) (cx.length:Int) x ->Ft (QB B) (cx.length:Int) y ->n<=g ->n<=100000 ->VC prog 206 [bw B,aH (cx.map aA),ah (row x),ah (row y),pI n,.bool u] (qP (db B g cx x y u n))
theorem Hd{B:ak}{cx:Ctx}(hB:GoodB B)(hcx:CxOk B cx)(hN:cx.length<=300){x z:Tr}{n b:Nat}(d:Ft (QB B) (cx.length:Int) x)(i:n<=100000)(h:cW B cx 4096 n x= .ok (z,b)):Ft (QB B) (cx.length:Int) z/\b<=n:=by
 have e:=wL hB hcx Uo d (n:Int);have f:bA (n:Int)=n:=by unfold bA;omega
 rw[f,h]at e;unfold dW at e;obtain⟨a,_,c⟩:=qr hB hcx Uo _ x 4096 _ z b d (by have:=d.len;unfold len;omega) Uo e;exact⟨a,by rw[f]at c;exact c⟩
theorem Bq{B:ak}{cx:Ctx}{room:Int}:∀(n:Nat) (x:Tr) (e:Int),cW B cx room n x= .error e ->e=9 \/e=10
 |0,x,e,h=>by
  simp only[cW]at h;split at h
  ·cases h
  ·injection h with h
   exact .inr h.symm
 |n+1,x,e,h=>by
  simp only[cW]at h;split at h
  ·cases h
  ·split at h
   ·injection h with h
    exact .inl h.symm
   ·exact Bq n _ e h
theorem wU{B:ak}{cx:Ctx}:∀(g:Nat) (x:Tr) (room:Int) (n:Nat) (e:Int),cz B cx g x room n= .error e ->e≠0
 |0,x,room,n,e,h=>by
  injection h with h
  omega
 |g+1,x,room,n,e,h=>by
  simp only[cz]at h;cases a:jl (cz B cx g) x room n with
  |error d=>
   rw[a]at h;have h:(.error d:Except Int (Tr×Nat))= .error e:=h;injection h with h
   subst h;unfold jl at a;cases f:cE x with
   |none=>rw[f]at a;cases a
   |some p=>
    rw[f]at a;simp only at a;cases hr:cz B cx g p (room-len x+len p) n with
    |error b=>
     rw[hr]at a;have a:(.error b:Except Int (Tr×Nat))= .error d:=a;injection a with a
     subst a;exact wU g _ _ _ _ hr
    |ok q=>rw[hr]at a;cases a
  |ok q=>
   rw[a]at h;have h:jm B cx (cz B cx g) room q= .error e:=h;unfold jm at h;split at h
   ·split at h
    ·injection h with h;omega
    ·cases c:hY B cx q.1 with
     |error b=>
      rw[c]at h;have h:(.error b:Except Int (Tr×Nat))= .error e:=h;injection h with h
      have:=Ff c;omega
     |ok z=>
      rw[c]at h;simp only at h;split at h
      ·injection h with h;omega
      ·exact wU g _ _ _ _ h
   ·cases h
def wV(rc:RcC):Prop:=∀cx x y u n e,rc cx x y u n= .error e ->e≠0
theorem qQ{m:Except Int (Bool×Nat)}{k:Nat ->Except Int (Bool×Nat)}{e:Int}(h1:∀e,m= .error e ->e≠0)(h2:∀n e,k n= .error e ->e≠0)(h:gL m k= .error e):e≠0:=by
 unfold gL at h;cases m with
 |error a=>
  injection h with h
  exact h▸h1 a rfl
 |ok q=>
  simp only at h;split at h
  ·exact h2 _ _ h
  ·cases h
theorem Bs{rc:RcC}(hr:wV rc)(cx:Ctx):∀(l m:List Tr) (n:Nat) (e:Int),dh rc cx l m n= .error e ->e≠0
 |[],_,_,_,h=>by simp[dh]at h
 |_::_,[],_,_,h=>by simp[dh]at h
 |x::r,y::s,n,e,h=>by
  simp only[dh]at h;exact qQ (λe h=>hr _ _ _ _ _ _ h) (λn e h=>Bs hr cx r s n e h) h
theorem He{rc:RcC}(hr:wV rc)(cx c:Ctx):∀(l m:List Tr) (n:Nat) (e:Int),eJ rc cx c l m n= .error e ->e≠0
 |[],_,_,_,h=>by simp[eJ]at h
 |[_],_,_,_,h=>by simp[eJ]at h
 |_::_::_,[],_,_,h=>by simp[eJ]at h
 |_::_::_,[_],_,_,h=>by simp[eJ]at h
 |x::a::r,y::b::s,n,e,h=>by
  simp only[eJ]at h;exact qQ (λe h=>hr _ _ _ _ _ _ h) (λn e h=>qQ (λe h=>hr _ _ _ _ _ _ h) (λn e h=>He hr cx c r s n e h) h) h
theorem OK{B:ak}{rc:RcC}(hr:wV rc)(cx:Ctx)(f g:Tr)(u:Bool)(n:Nat)(e:Int)(h:jq B rc cx f g u n= .error e):e≠0:=by
 unfold jq at h;split at h
 ·cases h
 split at h
 ·exact qQ (λe h=>hr _ _ _ _ _ _ h) (λn e h=>hr _ _ _ _ _ _ h) h
 split at h
 ·exact qQ (λe h=>hr _ _ _ _ _ _ h) (λn e h=>hr _ _ _ _ _ _ h) h
 split at h
 ·split at h
  ·unfold nf at h
   split at h
   ·exact He hr _ _ _ _ _ _ h
   ·cases h
  ·cases h
 split at h
 ·exact Bs hr _ _ _ _ _ h
 ·cases h
theorem Bt(B:ak):∀g,wV (db B g)
 |0,cx,x,y,u,n,e,h=>by
  injection h with h
  omega
 |g+1,cx,x,y,u,n,e,h=>by
  simp only[db]at h;split at h
  ·injection h with h;omega
  split at h
  ·cases h
  split at h
  ·injection h with h;omega
  split at h
  ·rename_i a h1
   injection h with h
   subst h;exact wU _ _ _ _ _ h1
  ·split at h
   ·rename_i a h1
    injection h with h
    subst h;exact wU _ _ _ _ _ h1
   ·unfold ol at h
    split at h
    ·cases h
    ·exact qQ (λe h=>OK (Bt B g) _ _ _ _ _ _ h) (λn e h=>Bs (Bt B g) _ _ _ _ _ h) h
theorem tj{B:ak}(hB:GoodB B)(g:Nat)(cx:Ctx)(x y:Tr)(u:Bool)(n:Nat)(e:Int)(h:db B g cx x y u n= .error e):e≠0:=Bt B g _ _ _ _ _ _ h
theorem Hf{B:ak}{cx:Ctx}{room:Int}:∀(n:Nat) (x z:Tr) (a:Nat),cW B cx room n x= .ok (z,a) ->(aU B cx z).2.1=false
 |0,x,z,a,h=>by
  simp only[cW]at h;split at h
  ·rename_i g
   injection h with h
   injection h with h1 h2
   subst h1;exact g
  ·cases h
 |n+1,x,z,a,h=>by
  simp only[cW]at h;split at h
  ·rename_i g
   injection h with h
   injection h with h1 h2
   subst h1;exact g
  ·split at h
   ·cases h
   ·exact Hf n _ z a h
theorem OL{B:ak}{cx:Ctx}{z:Tr}(a:Wf z)(h:(aU B cx z).2.1=false):(headT z).n.op≠7:=λb=>by
 have hr:cD B cx z=true:=by
  unfold cD;rw[KY Uo,KX (.inl b)]
 rw[ml a,KX hr]at h;cases h
theorem OM{B:ak}{cx:Ctx}{f:Tr}(hcx:CxOk B cx)(hN:cx.length<=300)(d:Ft (QB B) (cx.length:Int) f)(o:f.n.op≠7)(i:Nat):CxOk B (cy cx f i)/\((cy cx f i).length:Int)=cx.length+kb f.n i:=by
 have m:=aC d;unfold cy
 by_cases c:(f.n.op=4 \/f.n.op=5)/\i=1
 ·rw[KX c]
  obtain⟨e,_⟩:=iI m c.1;have f0:=(d.kidD (k:=0) (by rw[e];simp)).2;have j:kb f.n 0=0:=by unfold kb;rw[KY Uo];simp[bh]
  have l:kb f.n i=1:=by unfold kb;rw[KY Uo];simp[bh];omega
  rw[j,Int.add_zero]at f0;rw[l];exact⟨hcx.snoc f0 (λx p=>by cases p),Ud⟩
 rw[KY c]
 by_cases a:f.n.op=12/\i%2=1
 ·rw[KX a]
  have r:=dp m.ok a.1;have l:kb f.n i=f.n.b:=by unfold kb;rw[KX a.1,KX a.2]
  rw[l];refine⟨ng hcx Uo d a.1,?_⟩;rw[JK];simp only[aQ,KF,List.length_range];omega
 rw[KY a];have j:kb f.n i=0:=by
  unfold kb
  by_cases b:f.n.op=12
  ·rw[KX b,KY (λq=>a ⟨b,q⟩)]
  ·rw[KY b]
   unfold bh;rw[KY];rintro(q|q)
   ·exact c ⟨q.1,Uo⟩
   ·exact o q.1
 rw[j];exact⟨hcx,Uo⟩
section
variable{B:ak}(hS:dG B)(hB:GoodB B)
include hS hB
theorem ON{g:Nat}(ih:ti B g){cx:Ctx}{x y:Tr}{u:Bool}{n:Nat}(hcx:CxOk B cx)(hcl:cx.length<=260)(hx:Ft (QB B) (cx.length:Int) x)(hy:Ft (QB B) (cx.length:Int) y)(b9:n<=g+1)(N:n<=100000):VC prog 206 [bw B,aH (cx.map aA),ah (row x),ah (row y),pI n,.bool u] (qP (db B (g+1) cx x y u n)):=by
 have eC:=au bdP (cx.map aA);have b':=au aA cx;have c0:=hx.len;have c2:=hy.len;generalize c:db B (g+1) cx x y u n=v;simp only[db]at c;refine cR 262 [.tmp 12,.tmp 13,.tmp 14] τok func206 ?_;refine aD<|aD<|af (λg0=>?_) (λg0=>?_)
 ·rw[KX Uo]at c
  subst c;exact aE
 rw[KY Uo]at c;obtain⟨m,rfl⟩:∃m,n=m+1:=⟨n-1,Uo⟩
 rw[Nat.add_sub_cancel]at c;have em:((m+1:Nat):Int)-1=(m:Int):=Uo
 refine aD<|vi ?_;refine aD<|bV (AA (a:=row x) (b:=row y) Uo Uo) (λs=>?_) (λs=>?_)
 ·rw[KX (of_decide_eq_true s)]at c
  subst c;exact aE (h3:=by rw[em];rfl)
 rw[KY (of_decide_eq_false s)]at c;refine aD<|af (λg1=>?_) (λg1=>?_)
 ·rw[KX Uo]at c
  subst c;exact aE
 rw[KY Uo]at c;refine aD ?_;have b4:bA (m:Int)=m:=by unfold bA;omega
 rw[wL hB hcx Uo hx,b4]at c;have wx:=Bm hB hcx Uo hx (n:=m) Uo;cases I:cW B cx 4096 m x with
 |error e=>
  rw[I]at wx c;obtain rfl:(.error e:Except Int (Bool×Nat))=v:=c;refine ae (r:=th (.error e)) (by rw[em];exact wx) ?_;refine aD ?_;have he:=Bq _ _ _ I;refine vy (p:=e≠0) ?_;exact aE
 |ok p=>
 rw[I]at wx c;obtain⟨x',m1⟩:=p;obtain⟨O,c3⟩:=Hd hB hcx Uo hx Uo I;refine ae (r:=th (.ok (x',m1))) (by rw[em];exact wx) ?_;refine aD<|vn ?_;refine aD ?_;simp only at c;have a5:bA (m1:Int)=m1:=by unfold bA;omega
 rw[wL hB hcx Uo hy,a5]at c;have wy:=Bm hB hcx Uo hy (n:=m1) Uo;cases P:cW B cx 4096 m1 y with
 |error e=>
  rw[P]at wy c;obtain rfl:(.error e:Except Int (Bool×Nat))=v:=c;refine ae wy ?_;refine aD ?_;have he:=Bq _ _ _ P;refine vy (p:=e≠0) ?_;exact aE
 |ok p=>
 rw[P]at wy c;obtain⟨y',W⟩:=p;obtain⟨K,c4⟩:=Hd hB hcx Uo hy Uo P;refine ae wy ?_;refine aD<|vn ?_;simp only at c;have sx:=AI (aC O);have sy:=AI (aC K);refine aD<|ae sx ?_;refine aD<|ae sy ?_;unfold ol at c;have ff:=O.head;have fg:=K.head;have la:=O.args;have lb:=K.args;have wf:=aC ff;have L:=aC fg;have bl:=oG (aC K) 4096 K.len;have e7:=au row (argsT x');have e8:=au row (argsT y')
 generalize hf:headT x'=f at *
 generalize hg:headT y'=h at *
 generalize hl:argsT x'=l at *
 generalize hm:argsT y'=k at *
 refine aD<|vm 0 (aL wf) ?_;refine aD<|vm 0 (aL L) ?_;refine af (λT=>?_) (λT=>?_)
 ·rw[KX (.inl T)]at c
  subst c;exact aE
 have T:f.n.op=h.n.op:=QY T;have e9:((l.map row).map λt=>[ah t]).length=l.length:=Ud
 have c5:((k.map row).map λt=>[ah t]).length=k.length:=Ud
 refine af (λg3=>?_) (λg3=>?_)
 ·rw[KX (.inr Uo)]at c
  subst c;exact aE
 rw[KY (by
  rintro(q|q)
  ·exact q T
  ·omega),OJ B _ cx wf L T u W]at c
 unfold Bp at c;have lf:=λh2=>wO wf h2;have lg:=λh2=>wO L h2;have c6:=wf.len;have g7:f.n.op≠7:=by
  rw[<- hf];exact OL (aC O) (Hf _ _ _ _ I)
 refine eo τok (σ:=Unit) [(1,_),(4,_),(5,_),(6,_),(16,_),(17,_),(18,_),(19,_),(20,_)] [(6,_)] (λ_=>[]) (λ_=>[]) (λ_=>¬ (f.n.op=2/\iC B f h u=false)) ?_ ?_
 ·refine af (λH=>?_) (λH=>?_)
  rotate_left
  ·exact aw () λq=>H q.1
  have H:f.n.op=2:=H;have lf:=lf H;have lg:=lg Uo;have R:∀z:Tr,Wf z ->z.n.op=2 ->(bX z).length<=1000000:=λz hz h2=>by
   have hr:=KG List.length (jL hz.ok);have ha:atmsT z=z.ks.map (·.n):=by unfold atmsT;rw[KX h2]
   have:=hz.len;rw[ha]at hr;simp only[JV,JK,KF]at hr;simp only[bX,KF];omega
  have ul:=FT (vars:=B.vars) hS.o (R f wf H) (R h L Uo);have ur:=FT (vars:=B.vars) hS.o (R h L Uo) (R f wf H);have no:iC B f h u=false ->v= .ok (false,W):=λhs=>by
   rw[KX ⟨H,hs⟩]at c;exact c.symm
  refine ae lf ?_;refine ae lg ?_;refine vm 0 (aL wf) ?_;refine vm 0 (aL L) ?_;refine af (λU=>?_) (λU=>?_);rotate_left
  ·have:=no (by unfold iC;rw[KH (show ¬ f.n.a=h.n.a from U),Bool.false_and])
   subst this;exact kA9
  refine bV ul (λs1=>?_) (λs1=>?_);rotate_left
  ·have:=no (by unfold iC;rw[s1];simp)
   subst this;exact kA9
  cases u with
  |true=>
   refine vk ?_;exact aw () λq=>by
    have hs:iC B f h true=true:=by unfold iC;rw[KU (show f.n.a=h.n.a from U),s1];simp
    rw[hs]at q;cases q.2
  |false=>
   refine bV ur (λs2=>?_) (λs2=>?_)
   ·refine vk ?_
    exact aw () λq=>by
     have hs:iC B f h false=true:=by unfold iC;rw[KU (show f.n.a=h.n.a from U),s1,s2];rfl
     rw[hs]at q;cases q.2
   ·have:=no (by unfold iC;rw[s1,s2];simp)
    subst this;exact kA9
 rintro⟨⟩ hM;rw[KY hM]at c;refine eo τok (σ:=Unit) [(1,_),(4,_),(5,_),(6,_),(16,_),(17,_),(18,_),(19,_),(20,_)] [(6,_)] (λ_=>[]) (λ_=>[]) (λ_=>¬ ((f.n.op≠2/\f.n.op≠4/\f.n.op≠5)/\f.n≠h.n)) ?_ ?_
 ·refine af (λH=>?_) (λH=>?_)
  rotate_left
  ·exact vk (aw () λq=>H q.1.1)
  refine af (λU=>?_) (λU=>?_);rotate_left
  ·exact vk (aw () λq=>U q.1.2.1)
  refine af (λg6=>?_) (λg6=>?_);rotate_left
  ·exact vk (aw () λq=>g6 q.1.2.2)
  refine vm 0 (aL wf) ?_;refine vm 0 (aL L) ?_;refine sO ?_
  by_cases N:f.n=h.n
  ·rw[KU N]
   exact vk (aw () λq=>q.2 N)
  ·rw[KH N]
   rw[KX ⟨⟨H,U,g6⟩,N⟩]at c;obtain rfl:(.ok (false,W):Except Int (Bool×Nat))=v:=c;exact vk ⟨_,_,rfl,rfl,rfl⟩
 rintro⟨⟩ Y;rw[KY Y]at c;refine aj ?_;have c7:(funsT f).length<=4096:=by have:=GY wf.ok;omega
 have c8:=iy wf.ok;have c9:=au ndP (funsT f);have c':=au trP (kidsT f);have b5:f.n.op=2 ->kidsT f=[]:=λq=>by unfold kidsT;cases f;exact KX q
 have d':(kidsT f).length=(kidsT h).length:=by
  have V:=(qt wf.ok).1;have a2:=(qt L.ok).1;have c1:cA f.n=cA h.n:=by
   by_cases q:f.n.op=2 \/f.n.op=4 \/f.n.op=5
   ·unfold cA
    rw[<- T];rcases q with q|q|q<;>simp[q]
   ·rw[Decidable.byContradiction λN:¬ f.n=h.n=>Y ⟨Uo,N⟩]
  omega
 have e0:(funsT f).length=(funsT h).length:=by
  by_cases a6:f.n.op=12
  ·have V:=(qt wf.ok).2.2 a6
   have a2:=(qt L.ok).2.2 Uo;omega
  ·rw[show funsT f=[]from KY a6,show funsT h=[]from KY Uo]
 refine ae (jx wf) ?_;refine ae (jx L) ?_;refine aB τok (σ:=Nat) [(1,_),(4,_),(5,_),(6,_),(16,_),(17,_),(19,_),(20,_),(24,_),(26,_)] [(6,_),(24,_),(26,_)] (λi=>[(28,vI i)]) (λ_=>[]) (λi=>i<=(funsT f).length/\∀j,j<i ->(funsT f)[j]?=(funsT h)[j]?) (λi=>(funsT f).length-i) 0 ⟨KV _,λj hj=>absurd hj Uo⟩ ?_;rintro i ⟨p1,p2⟩;refine aj<|af (λp3=>?_) (λp3=>?_)
 ·obtain⟨V,D,_⟩:=ay (l:=funsT f) (k:=i)
  obtain⟨b1,F,_⟩:=ay (l:=funsT h) (k:=i);refine vm i D ?_;refine vm i F ?_;refine sO ?_
  by_cases p4:V=b1
  ·rw[KU p4]
   refine vk ?_;refine vi ?_;refine aw (i+1) ⟨Uo,λj hj=>?_⟩
   by_cases p5:j=i
   ·rw[p5,D,F,p4]
   ·exact p2 j Uo
  ·rw[KH p4]
   have b6:funsT f≠funsT h:=λq=>p4 (by rw[q,F]at D;exact(JB D).symm);rw[KX b6]at c;obtain rfl:(.ok (false,W):Except Int (Bool×Nat))=v:=c;exact vk ⟨_,_,rfl,rfl,rfl⟩
 have b7:funsT f=funsT h:=List.ext_getElem? λj=>by
  by_cases p4:j<(funsT f).length
  ·exact p2 j Uo
  ·rw[QF Uo,QF Uo]
 rw[KY (λq=>q b7)]at c;refine aB τok (σ:=Nat×Nat) [(1,_),(5,_),(6,_),(16,_),(17,_),(19,_),(20,_),(24,_),(26,_)] [(6,_),(24,_),(26,_)] (λq=>[(29,vI q.1),(4,vI q.2)]) (λ_=>[]) (λq=>q.1<=(kidsT f).length/\q.2<=W/\gL (kidsL (db B g) cx f u q.1 ((kidsT f).drop q.1) ((kidsT h).drop q.1) q.2) (dh (db B g) cx l k)=v) (λq=>(kidsT f).length-q.1) (0,W) ⟨KV _,KJ _,c⟩ ?_
 clear c
 rintro⟨i,Z⟩ ⟨r1,r2,o⟩;simp only at r1 r2 o;refine aj<|af (λM=>?_) (λM=>?_)
 ·simp only at M
  obtain⟨a7,a8,e1⟩:=cq wf (k:=i);obtain⟨a9,a',eU⟩:=cq L (k:=i);have b0:=(ff.kidD (k:=i) Uo).2;have a0:=(fg.kidD (k:=i) Uo).2;obtain⟨ic,il⟩:=OM hcx Uo ff g7 i;have e2:=oE wf.ok i;have b8:kb h.n i=kb f.n i:=by
   have q2:f.n.op≠2:=λq=>by
    rw[b5 q]at M;simp only[List.map_nil,JU]at M;omega
   by_cases q:f.n.op=4 \/f.n.op=5
   ·simp[kb,bh,<- T,show ¬ f.n.op=12 by omega,q]
   ·rw[Decidable.byContradiction λN:¬ f.n=h.n=>Y ⟨⟨q2,Uo⟩,N⟩]
  rw[b8]at a0;rw[<- il]at b0 a0;have A:=λb=>ih (cy cx f i) (kidD f i) (kidD h i) b Z ic Uo b0 a0 Uo Uo;obtain⟨z1,b2,a3⟩:=ay (l:=kidsT f) (k:=i);obtain⟨z2,b3,a4⟩:=ay (l:=kidsT h) (k:=i);rw[a7]at b2;rw[a9]at b3;obtain rfl:=JB b2;obtain rfl:=JB b3;rw[a3,a4]at o;simp only[kidsL]at o;refine ae (wP (qk B) ff Uo Uo Uo i Uo) ?_;refine vt i a7 ?_;refine ae (lP 4096 Uo _ a8 a8.len) ?_;refine vt i a9 ?_;refine ae (lP 4096 Uo _ a' a'.len) ?_;cases u with
  |true=>
   refine af (λq4=>?_) (λq4=>?_)
   ·rw[KU (show f.n.op=4 from q4),Bool.and_true,Bool.true_and]at o
    refine af (λgi=>?_) (λgi=>?_)
    ·rw[KU (show i=1 by omega)]at o
     have A:=A true;cases d:db B g (cy cx f i) (kidD f i) (kidD h i) true Z with
     |error e=>
      rw[d]at A o;obtain rfl:(.error e:Except Int (Bool×Nat))=v:=o;refine ae A ?_;refine vk ?_;refine vy (p:=e≠0) ?_ (tj hB _ _ _ _ _ _ _ d);exact aE
     |ok q=>
      obtain⟨S,E⟩:=q;have C:=lR B g _ _ _ _ _ _ d;rw[d]at A o;refine ae A ?_;refine vk ?_;refine vn ?_;cases S with
      |false=>
       obtain rfl:(.ok (false,E):Except Int (Bool×Nat))=v:=o;exact aE
      |true=>
       refine vi ?_;exact aw (i+1,E) ⟨Us,by simp only at C ⊢;omega,o⟩
    ·rw[KH (show ¬ i=1 by omega)]at o
     have A:=A false;cases d:db B g (cy cx f i) (kidD f i) (kidD h i) false Z with
     |error e=>
      rw[d]at A o;obtain rfl:(.error e:Except Int (Bool×Nat))=v:=o;refine ae A ?_;refine vk ?_;refine vy (p:=e≠0) ?_ (tj hB _ _ _ _ _ _ _ d);exact aE
     |ok q=>
      obtain⟨S,E⟩:=q;have C:=lR B g _ _ _ _ _ _ d;rw[d]at A o;refine ae A ?_;refine vk ?_;refine vn ?_;cases S with
      |false=>
       obtain rfl:(.ok (false,E):Except Int (Bool×Nat))=v:=o;exact aE
      |true=>
       refine vi ?_;exact aw (i+1,E) ⟨Us,by simp only at C ⊢;omega,o⟩
   ·rw[KH (show ¬ f.n.op=4 from q4),Bool.and_false,Bool.false_and]at o
    have A:=A false;cases d:db B g (cy cx f i) (kidD f i) (kidD h i) false Z with
    |error e=>
     rw[d]at A o;obtain rfl:(.error e:Except Int (Bool×Nat))=v:=o;refine ae A ?_;refine vk ?_;refine vy (p:=e≠0) ?_ (tj hB _ _ _ _ _ _ _ d);exact aE
    |ok q=>
     obtain⟨S,E⟩:=q;have C:=lR B g _ _ _ _ _ _ d;rw[d]at A o;refine ae A ?_;refine vk ?_;refine vn ?_;cases S with
     |false=>
      obtain rfl:(.ok (false,E):Except Int (Bool×Nat))=v:=o;exact aE
     |true=>
      refine vi ?_;exact aw (i+1,E) ⟨Us,by simp only at C ⊢;omega,o⟩
  |false=>
   rw[Bool.false_and,Bool.false_and]at o;have A:=A false;cases d:db B g (cy cx f i) (kidD f i) (kidD h i) false Z with
   |error e=>
    rw[d]at A o;obtain rfl:(.error e:Except Int (Bool×Nat))=v:=o;refine ae A ?_;refine vk ?_;refine vy (p:=e≠0) ?_ (tj hB _ _ _ _ _ _ _ d);exact aE
   |ok q=>
    obtain⟨S,E⟩:=q;have C:=lR B g _ _ _ _ _ _ d;rw[d]at A o;refine ae A ?_;refine vk ?_;refine vn ?_;cases S with
    |false=>
     obtain rfl:(.ok (false,E):Except Int (Bool×Nat))=v:=o;exact aE
    |true=>
     refine vi ?_;exact aw (i+1,E) ⟨Us,by simp only at C ⊢;omega,o⟩
 ·simp only at M
  have d1:(kidsT f).drop i=[]:=JY Uo;rw[d1]at o;have o:dh (db B g) cx l k Z=v:=by
   rw[<- o];simp[kidsL,gL]
  refine aB τok (σ:=Nat×Nat) [(1,_),(6,_),(17,_),(19,_)] [(6,_)] (λq=>[(31,vI q.1),(4,vI q.2)]) (λ_=>[]) (λq=>q.1<=l.length/\q.2<=W/\dh (db B g) cx (l.drop q.1) (k.drop q.1) q.2=v) (λq=>l.length-q.1) (0,Z) ⟨KV _,r2,o⟩ ?_
  clear r1 r2 o M d1
  rintro⟨j,n2⟩ ⟨r1,r2,o⟩;simp only at r1 r2 o;refine aj<|af (λM=>?_) (λM=>?_)
  ·simp only at M
   obtain⟨V,D,a3⟩:=ay (l:=l) (k:=j);obtain⟨b1,F,a4⟩:=ay (l:=k) (k:=j);rw[a3,a4]at o;simp only[dh]at o;have A:=ih cx V b1 false n2 hcx hcl (la V (JQ D)) (lb b1 (JQ F)) Uo Uo;refine az j (x:=row V) (by rw[JX,D];rfl) ?_;refine az j (x:=row b1) (by rw[JX,F];rfl) ?_;cases d:db B g cx V b1 false n2 with
   |error e=>
    rw[d]at A o;obtain rfl:(.error e:Except Int (Bool×Nat))=v:=o;refine ae A ?_;refine vk ?_;refine vy (p:=e≠0) ?_ (tj hB _ _ _ _ _ _ _ d);exact aE
   |ok q=>
    obtain⟨S,E⟩:=q;have C:=lR B g _ _ _ _ _ _ d;rw[d]at A o;refine ae A ?_;refine vk ?_;refine vn ?_;cases S with
    |false=>
     obtain rfl:(.ok (false,E):Except Int (Bool×Nat))=v:=o;exact aE
    |true=>
     have o:dh (db B g) cx (l.drop (j+1)) (k.drop (j+1)) E=v:=o;refine vi ?_;exact aw (j+1,E) ⟨Us,by simp only at C ⊢;omega,o⟩
  ·simp only at M
   rw[JY Uo]at o;have o:(.ok (true,n2):Except Int (Bool×Nat))=v:=by rw[<- o];simp[dh]
   subst o;exact aE
end
abbrev RS(α:Type):=Except (Int×Nat) (α×Nat)
def dR{α:Type}(r:RS α):Except Int (α×Nat):=match r with
 | .ok q=>.ok q
 | .error e=>.error e.1
def aY{α β:Type}(m:RS α)(k:α ->Nat ->RS β):RS β:=match m with
 | .error e=>.error e
 | .ok q=>k q.1 q.2
def dK{α:Type}(m:Except Int α)(n:Nat):RS α:=match m with
 | .error e=>.error (e,n)
 | .ok x=>.ok (x,n)
theorem jS{α β:Type}(a:α)(n:Nat)(k:α ->Nat ->RS β):aY (.ok (a,n)) k=k a n:=rfl
theorem iK{α β:Type}(e:Int×Nat)(k:α ->Nat ->RS β):aY (.error e) k= .error e:=rfl
theorem Bu{α:Type}(x:α)(n:Nat):dK (.ok x) n= .ok (x,n):=rfl
theorem Bv{α:Type}(e:Int)(n:Nat):dK (.error e:Except Int α) n= .error (e,n):=rfl
def Bw{α:Type}(m:Except Int (α×Nat)):RS α:=match m with
 | .error e=>.error (e,0)
 | .ok q=>.ok q
def gf(B:ak)(cx:Ctx)(t:Tr)(n:Nat):RS Tr:=if 256<cx.length then .error (5,n)else Bw (dW B cx t (n:Int))
def lh(B:ak)(cx:Ctx)(x y:Tr)(u:Bool)(n:Nat):RS Bool:=if 256<cx.length then .error (5,n)else Bw (lS B cx x y (n:Int) u)
abbrev RcS:=Ctx ->Tr ->Nat ->RS Tr
def fD(B:ak)(rc:RcS)(cx:Ctx)(t:Tr)(n:Nat):RS (Int×List Atom):=
 aY (rc cx t n) λty n=>aY (gf B cx ty n) λz n=>if (headT z).n.op≠2 \/0<(argsT z).length then .error (11,n)else .ok (((headT z).n.a,bX (headT z)),n)
def iL(B:ak)(rc:RcS)(cx:Ctx)(t ty:Tr)(n:Nat):RS Unit:=
 aY (rc cx t n) λz n=>aY (lh B cx z ty true n) λb n=>if b=true then .ok ((),n)else .error (13,n)
def oI(B:ak)(a:Int)(ps:List Tr)(ni:Nat):Nat ->Nat ->Ctx ->Tr ->Nat ->RS Int
 |0,_,cx,m,n=>aY (gf B cx m n) λf n=>if (headT f).n.op≠2 \/0<(argsT f).length then .error (16,n)else .ok ((headT f).n.a,n)
 |k+1,i,cx,m,n=>aY (gf B cx m n) λf n=>if (headT f).n.op≠4 \/0<(argsT f).length then .error (16,n)else
   aY (dK (jP B a ps i ni) n) λw n=>aY (lh B cx (kidD (headT f) 0) w false n) λb n=>if b=true then oI B a ps ni k (i+1) (cx++[(kidD (headT f) 0,none)]) (kidD (headT f) 1) n else .error (16,n)
def Bx(B:ak)(cx:Ctx)(a:Int)(ps:List Tr)(m:Tr)(n:Nat):RS Int:=oI B a ps (kc B a).length ((kc B a).length+1) 0 cx m n
def px(B:ak)(rc:RcS):Ctx ->List Tr ->Nat ->RS Bool
 |_,[],n=>.ok (true,n)
 |cx,a::r,n=>aY (fD B rc cx a n) λq n=>if q.1≠0 then .ok (false,n)else px B rc (cx++[(a,none)]) r n
def nG(B:ak)(rc:RcS)(a:Int)(n:Nat):RS Bool:=
 if (aR B a).ctors.length=0 then .ok (true,n)else if 1<(aR B a).ctors.length then .ok (false,n)else px B rc (cr (ie B a)) (ja B a 0) n
def oJ(B:ak)(rc:RcS)(cx:Ctx)(a:Int)(ps:List Tr)(mo:Tr):Nat ->List Tr ->Nat ->RS Unit
 |_,[],n=>.ok ((),n)
 |k,b::r,n=>aY (dK (jt B a (k:Int) ps mo) n) λty n=>aY (iL B rc cx b ty n) λ_ n=>oJ B rc cx a ps mo (k+1) r n
def smatch(B:ak)(rc:RcS)(cx:Ctx)(nd:Nd)(ks:List Tr)(n:Nat):RS Tr:=
 let np:=(ie B nd.a).length
 let mo:=ks.getD 0 (varX 0)
 let sc:=ks.getD 1 (varX 0)
 aY (rc cx sc n) λty n=>aY (gf B cx ty n) λz n=>
  if (headT z).n.op≠9 \/(headT z).n.a≠nd.a \/(argsT z).length≠np+(kc B nd.a).length then .error (14,n)
  else if (ks.drop 2).length≠(aR B nd.a).ctors.length then .error (15,n)
  else aY (rc cx mo n) λmt n=>aY (Bx B cx nd.a ((argsT z).take np) mt n) λkind n=>
   aY (if (tr (aR B nd.a).sort).n.a=0/\kind=1 then nG B rc nd.a n else .ok (true,n)) λs n=>if s=false then .error (17,n)else
    aY (oJ B rc cx nd.a ((argsT z).take np) mo 0 (ks.drop 2) n) λ_ n=>dK (aO mo ((argsT z).drop np++[sc])) n
def qR(B:ak)(rc:RcS)(cx:Ctx)(t:Tr):Nat ->Nat ->Nat ->RS Unit
 |0,_,n=>.ok ((),n)
 |k+1,i,n=>aY (fD B rc cx (kidD t (2*i)) n) λ_ n=>qR B rc cx t k (i+1) n
def py(B:ak)(rc:RcS)(cx:Ctx)(t:Tr)(nb:Nat):Nat ->Nat ->Nat ->RS Unit
 |0,_,n=>.ok ((),n)
 |k+1,i,n=>aY (iL B rc cx (kidD t (2*i+1)) (aK (kidD t (2*i)) nb 0) n) λ_ n=>py B rc cx t nb k (i+1) n
def tk(B:ak)(rc:RcS)(cx:Ctx)(t:Tr)(n:Nat):RS Tr:=
 aY (qR B rc cx t t.n.b.toNat 0 n) λ_ n=>if gw B t≠0 then .error (gw B t,n)else
  aY (py B rc (cx++aQ t) t t.n.b.toNat t.n.b.toNat 0 n) λ_ n=>.ok (kidD t (2*t.n.a.toNat),n)
def tl(t:Tr)(n:Nat):RS Tr:=if dy (bX t) 1≠0 then .error (dy (bX t) 1,n)else .ok (fd 1 (fZ (bX t) 1),n)
def tn(B:ak)(rc:RcS)(cx:Ctx)(t:Tr)(n:Nat):RS Tr:=
 aY (fD B rc cx (kidD t 0) n) λp n=>aY (fD B rc (cx++[(kidD t 0,none)]) (kidD t 1) n) λq n=>
  if cK p.2 q.2≠0 then .error (cK p.2 q.2,n)else .ok (fd q.1 (dx p.2 q.2),n)
def tu(B:ak)(rc:RcS)(cx:Ctx)(t:Tr)(n:Nat):RS Tr:=
 aY (fD B rc cx (kidD t 0) n) λ_ n=>aY (rc (cx++[(kidD t 0,none)]) (kidD t 1) n) λz n=>dK (bk [kidD t 0] z) n
def tv(B:ak)(rc:RcS)(cx:Ctx)(t:Tr)(n:Nat):RS Tr:=
 aY (rc cx (kidD t 0) n) λty n=>aY (gf B cx ty n) λz n=>if (headT z).n.op≠4 \/0<(argsT z).length then .error (12,n)else
  aY (iL B rc cx (kidD t 1) (kidD (headT z) 0) n) λ_ n=>dK (bq (kidD (headT z) 1) (kidD t 1) 0) n
def tw(B:ak)(rc:RcS)(cx:Ctx)(t:Tr)(n:Nat):RS Tr:=
 aY (fD B rc cx (kidD t 0) n) λ_ n=>aY (iL B rc cx (kidD t 1) (kidD t 0) n) λ_ n=>
  aY (rc (cx++[(kidD t 0,some (kidD t 1))]) (kidD t 2) n) λz n=>dK (bq z (kidD t 1) 0) n
def qS(B:ak)(rc:RcS)(cx:Ctx)(t:Tr)(n:Nat):RS Tr:=
 if t.n.op=1 then .ok (aK (fY cx t.n.a).1 (t.n.a+1) 0,n)
 else if t.n.op=2 then tl t n
 else if t.n.op=8 then .ok (tr (aR B t.n.a).type,n)
 else if t.n.op=9 then dK (gx B t.n.a) n
 else if t.n.op=10 then dK (ig B t.n.a t.n.b) n
 else if t.n.op=4 then tn B rc cx t n
 else if t.n.op=5 then tu B rc cx t n
 else if t.n.op=6 then tv B rc cx t n
 else if t.n.op=7 then tw B rc cx t n
 else if t.n.op=11 then smatch B rc cx t.n (kidsT t) n
 else tk B rc cx t n
def lj(B:ak):Nat ->RcS
 |0,_,_,n=>.error (10,n)
 |g+1,cx,t,n=>qS B (lj B g) cx t n
section
variable{B:ak}{cx:Ctx}{rs:RcS}{rc:RcJ}
theorem kr{α β:Type}(m:RS α)(k:α ->Nat ->RS β):dR (aY m k)=aJ (dR m) λa n=>dR (k a n):=by
 cases m<;>rfl
theorem wW{α:Type}(m:Except Int α)(n:Nat):dR (dK m n)=di m n:=by
 cases m<;>rfl
theorem Hg{α:Type}(m:Except Int (α×Nat)):dR (Bw m)=m:=by
 cases m<;>rfl
theorem ik(t:Tr)(n:Nat):dR (gf B cx t n)=dz B cx t n:=by
 unfold gf dz;split
 ·rfl
 ·exact Hg _
theorem tx(x y:Tr)(u:Bool)(n:Nat):dR (lh B cx x y u n)=ii B cx x y u n:=by
 unfold lh ii;split
 ·rfl
 ·exact Hg _
theorem mn{α:Type}{p:Prop} [Decidable p](a b:RS α):dR (if p then a else b)=if p then dR a else dR b:=by
 split<;>rfl
theorem mp{α:Type}(q:α×Nat):dR (.ok q)= .ok q:=rfl
theorem qT{α:Type}(e:Int×Nat):dR (.error e:RS α)= .error e.1:=rfl
def Fg(rs:RcS)(rc:RcJ):Prop:=∀cx t n,dR (rs cx t n)=rc cx t n
section
variable(h:Fg rs rc)
include h
theorem io(t:Tr)(n:Nat):dR (fD B rs cx t n)=dP B rc cx t n:=by
 unfold fD dP;simp only[kr,ik,mn,mp,qT,h cx]
theorem mq(t ty:Tr)(n:Nat):dR (iL B rs cx t ty n)=fP B rc cx t ty n:=by
 unfold iL fP;simp only[kr,tx,mn,mp,qT,h cx]
theorem vQ':∀(l:List Tr) (cx:Ctx) (n:Nat),dR (px B rs cx l n)=nj B rc cx l n
 |[],cx,n=>rfl
 |a::r,cx,n=>by
  simp only[px,nj,kr,io h,mn,mp,vQ' r]
theorem By(a:Int)(n:Nat):dR (nG B rs a n)=ke B rc a n:=by
 simp only[nG,ke,mn,mp,vQ' h]
theorem Hh{a:Int}{ps:List Tr}{mo:Tr}:∀(l:List Tr) (k n:Nat),dR (oJ B rs cx a ps mo k l n)=lZ B rc cx a ps mo k l n
 |[],k,n=>rfl
 |b::r,k,n=>by
  simp only[oJ,lZ,kr,wW,mq h,Hh r]
theorem Hi{t:Tr}:∀(k i n:Nat),dR (qR B rs cx t k i n)=nk B rc cx t k i n
 |0,i,n=>rfl
 |k+1,i,n=>by
  simp only[qR,nk,kr,io h,Hi k]
theorem Hj{t:Tr}{nb:Nat}:∀(k i n:Nat),dR (py B rs cx t nb k i n)=nl B rc cx t nb k i n
 |0,i,n=>rfl
 |k+1,i,n=>by
  simp only[py,nl,kr,mq h,Hj k]
end
theorem Hk{a:Int}{ps:List Tr}{b:Nat}:∀(k i:Nat) (cx:Ctx) (m:Tr) (n:Nat),dR (oI B a ps b k i cx m n)=ju B a ps b k i cx m n
 |0,i,cx,m,n=>by
  simp only[oI,ju,kr,ik,mn,mp,qT]
 |k+1,i,cx,m,n=>by
  simp only[oI,ju,kr,ik,mn,mp,qT,wW,tx,Hk k]
theorem OO(h:Fg rs rc)(nd:Nd)(ks:List Tr)(n:Nat):dR (smatch B rs cx nd ks n)=kg B rc cx nd ks n:=by
 simp only[smatch,kg,Bx,qC,kr,ik,mn,mp,qT,wW,Hk,By h,Hh h,h cx]
theorem OP(h:Fg rs rc):Fg (qS B rs) (jv B rc):=λcx t n=>by
 simp only[qS,jv,tl,ot,tn,ou,tu,ov,tv,ow,tw,ox,tk,ma,kr,ik,mn,mp,qT,wW,io h,mq h,OO h,Hi h,Hj h,h _]
theorem dt':∀g:Nat,Fg (lj B g) (gb B g)
 |0=>λ_ _ _=>rfl
 |g+1=>OP (dt' g)
theorem eb{α:Type}{r:RS α}{j:Except Int (α×Nat)}(h:dR r=j){q:α×Nat}(e:r= .ok q):j= .ok q:=by rw[<- h,e];rfl
theorem dL{α:Type}{r:RS α}{j:Except Int (α×Nat)}(h:dR r=j){x:Int×Nat}(e:r= .error x):j= .error x.1:=by rw[<- h,e];rfl
end
section
variable{B:ak}(hS:dG B)(hB:GoodB B)
theorem OQ(cx:List (List Nd×List Nd))(x y:List Nd)(u:Bool):VC prog 206 [bw B,aH cx,ah x,ah y,pI 0,.bool u] (qP (.error 10)):=by
 refine vf 262 [.tmp 12,.tmp 13,.tmp 14] τok func206 ?_;exact vz<|aE
include hS hB
theorem cmpV:∀g,ti B g
 |0=>λcx x y u n _ _ _ _ h _=>by
  obtain rfl:n=0:=Uo
  exact OQ _ _ _ u
 |g+1=>λcx x y u n a b c d e f=>ON hS hB (cmpV g) a b c d e f
theorem Bz{cx:Ctx}{x y:Tr}{u:Bool}{n:Nat}(hcx:CxOk B cx)(hcl:cx.length<=260)(a:Ft (QB B) (cx.length:Int) x)(b:Ft (QB B) (cx.length:Int) y)(c:n<=100000):VC prog 206 [bw B,aH (cx.map aA),ah (row x),ah (row y),pI n,.bool u] (qP (lS B cx x y (n:Int) u)):=by
 have e:bA (n:Int)=n:=by unfold bA;omega
 unfold lS;rw[e];exact cmpV hS hB GC cx x y u n hcx hcl a b (by have:=EV';omega) c
end
def cC(B:ak)(F E:Int):List PV:=[.int .i64 B.vars,.sl (B.orders.map eZ),.sl (B.ents.map cj),.int .i64 B.nat,.sl (B.prims.map iU),pI F,pI E]
def dS{α:Type}(B:ak)(r:RS α):List PV:=match r with
 | .ok q=>cC B q.2 0
 | .error e=>cC B e.2 e.1
def qU(r:RS Tr):PV:=match r with
 | .ok q=>ah (row q.1)
 | .error _=>.sl []
def OR(r:RS (Int×List Atom)):PV:=match r with
 | .ok q=>.tup [pI q.1.1,cF q.1.2]
 | .error _=>.tup [pI 0,.sl []]
def BA(r:RS Bool):PV:=match r with
 | .ok q=>.bool q.1
 | .error _=>.bool false
section
variable{B:ak}
theorem jT(F E e:Int):VP prog 150 103 (cC B F E) (cC B F (if E=0 then e else E)) [pI e] (.tup []):=by
 refine aP (r:=.ok (_,_)) 13 [] τok func150 ?_;refine aj<|af (λh=>?_) (λh=>?_)
 ·rw[KX h]
  exact eP9
 ·rw[KY h]
  exact eP9
theorem ip(F:Int)(t:List (List PV)):VP prog 92 103 (cC B F 0) (cC B F 0) [.sl t,pI 0] (.sl t):=by
 refine aP (r:=.ok (_,_)) 16 [.tmp 6] τok func92 ?_;refine aj<|ax (jT F 0 0) ?_;exact v0<|eP9
theorem qV(F:Int){E e:Int}(h:E≠0 \/e≠0)(t:PV):VP prog 92 103 (cC B F E) (cC B F (if E=0 then e else E)) [t,pI e] (.sl []):=by
 refine aP (r:=.ok (_,_)) 16 [.tmp 6] τok func92 ?_;refine aj<|ax (jT F E e) ?_;refine vy (p:=(if E=0 then e else E)≠0) ?_ (by split<;>omega);exact eP9
theorem mr(F:Int){e:Int}(h:e≠0)(t:PV):VP prog 92 103 (cC B F 0) (cC B F e) [t,pI e] (.sl []):=by
 have:=qV (B:=B) F (E:=0) (.inr h) t
 rwa [KX rfl]at this
theorem OS{c:List (List Nd×List Nd)}(x:List Nd×List Nd)(hc:c.length<=1000):VC prog 57 [aH c,.agg (bdP x)] (aH (c++[x])):=by
 have b:=au bdP c;refine vf 11 [.tmp 4] τok func57 ?_;refine va (p:=bdP) ?_ (λy _=>⟨rfl,λq a=>?_⟩)
 ·refine bi ?_
  refine vk ?_;exact aE (h3:=by unfold aH;rw[KB];rfl)
 ·simp only[bdP,JJ,JZ,or_false]at a
  rcases a with rfl|rfl<;>rfl
theorem leftV(F E:Int):VP prog 26 103 (cC B F E) (cC B F E) [] (if E=0 then .tup [pI F,pI 0]else .tup [pI 0,pI E]):=by
 refine aP (r:=.ok (_,_)) 17 [.tmp 2,.tmp 3] τok func26 ?_;refine aj<|af (λh=>?_) (λh=>?_)
 ·rw[KY h]
  exact kP9
 ·rw[KX (QY h)]
  exact eP9
theorem tz(F:Int){E:Int}(a:E≠0)(c t:List (List PV)):VP prog 99 103 (cC B F E) (cC B F E) [.sl c,.sl t] (.sl []):=by
 refine aP (r:=.ok (_,_)) 51 [.tmp 6] τok func99 ?_;exact aj<|vF a<|vE a<|eP9
theorem BB(F:Int){E:Int}(a:E≠0)(c x y:List (List PV))(u:Bool):VP prog 154 103 (cC B F E) (cC B F E) [.sl c,.sl x,.sl y,.bool u] (.bool false):=by
 refine aP (r:=.ok (_,_)) 64 [.tmp 10] τok func154 ?_;exact aj<|vF a<|vE a<|eP9
theorem tA(F:Int){E:Int}(a:E≠0)(c t:List (List PV)):VP prog 53 103 (cC B F E) (cC B F E) [.sl c,.sl t] (.sl []):=by
 refine aP (r:=.ok (_,_)) 379 [.tmp 6] τok func53 ?_;exact aj<|vE a<|eP9
theorem BC(F:Int){E:Int}(a:E≠0)(c t:List (List PV)):VP prog 91 103 (cC B F E) (cC B F E) [.sl c,.sl t] (.tup [pI 0,.sl []]):=by
 refine aP (r:=.ok (_,_)) 42 [.tmp 6,.tmp 7] τok func91 ?_;refine aj<|ax (tA F a c t) ?_;refine ax (tz F a c _) ?_;exact vF a<|vE a<|eP9
theorem OT(F:Int){E:Int}(a:E≠0)(c t ty:List (List PV)):VP prog 100 103 (cC B F E) (cC B F E) [.sl c,.sl t,.sl ty] (.tup []):=by
 refine aP (r:=.ok (_,_)) 21 [] τok func100 ?_;refine aj<|ax (tA F a c t) ?_;refine ax (BB F a c _ ty true) ?_;have:=jT (B:=B) F E 13;rw[KY a]at this;refine ax this ?_;exact eP9
end
section
variable{B:ak}{cx:Ctx}(hS:dG B)(hB:GoodB B)(hcx:CxOk B cx)(hcl:cx.length<=260)
include hS hB hcx hcl
theorem OU{x:Tr}(a:Ft (QB B) (cx.length:Int) x){n:Nat}(b:n<=100000):cW B cx 4096 n x=dW B cx x (n:Int):=by
 rw[wL hB hcx Uo a]
 congr 1
 unfold bA;omega
theorem qW{x:Tr}(c:Ft (QB B) (cx.length:Int) x){n:Nat}(d:n<=100000):VP prog 99 103 (cC B n 0) (dS B (gf B cx x n)) [aH (cx.map aA),ah (row x)] (qU (gf B cx x n)):=by
 have eC:=au bdP (cx.map aA);have f:=au aA cx;have b:=Bm hB hcx Uo c d;rw[OU hS hB hcx hcl c d]at b;generalize a:gf B cx x n=i;unfold gf at a;refine aP (r:=.ok (_,_)) 51 [.tmp 6] τok func99 ?_;refine aj<|vz<|af (λh=>?_) (λh=>?_)
 ·rw[KX Uo]at a
  subst a;refine vy (p:=(5:Int)≠0) ?_ UO;exact eP9
 rw[KY Uo]at a;refine v0 ?_;cases hr:dW B cx x (n:Int)with
 |error e=>
  have j:=qD hr;rw[hr]at a b;subst a;refine ae (r:=th (.error e)) b ?_;refine vk ?_;refine ax (qV 0 (.inr j) _) ?_;rw[KX rfl];exact eP9
 |ok q=>
  rw[hr]at a b;subst a;refine ae (r:=th (.ok q)) b ?_;refine vk ?_;refine ax (ip q.2 _) ?_;exact eP9
theorem Hl{x y:Tr}(d:Ft (QB B) (cx.length:Int) x)(f:Ft (QB B) (cx.length:Int) y){n:Nat}(i:n<=100000)(u:Bool):VP prog 154 103 (cC B n 0) (dS B (lh B cx x y u n)) [aH (cx.map aA),ah (row x),ah (row y),.bool u] (BA (lh B cx x y u n)):=by
 have eC:=au bdP (cx.map aA);have j:=au aA cx;have c:=Bz hS hB hcx hcl d f (u:=u) i;generalize a:lh B cx x y u n=k;unfold lh at a;refine aP (r:=.ok (_,_)) 64 [.tmp 10] τok func154 ?_;refine aj<|vz<|af (λh=>?_) (λh=>?_)
 ·rw[KX Uo]at a
  subst a;refine vy (p:=(5:Int)≠0) ?_ UO;exact eP9
 rw[KY Uo]at a;refine v0 ?_;cases hr:lS B cx x y (n:Int) u with
 |error e=>
  rw[hr]at a c;subst a;refine ae (r:=qP (.error e)) c ?_;refine vk ?_;refine ax (jT 0 0 e) ?_;rw[KX rfl];exact eP9
 |ok q=>
  obtain⟨b,m⟩:=q;rw[hr]at a c;subst a;refine ae (r:=qP (.ok (b,m))) c ?_;refine vk ?_;refine ax (jT m 0 0) ?_;rw[KX rfl];cases b with
  |true=>
   exact vz<|eP9
  |false=>exact eP9
end
theorem OV(kind:Int)(l:List Atom):row (fd kind l)=⟨2,kind,(l.length:Int)⟩::l.map λa=>⟨3,a.var,a.add⟩:=by
 have:∀l:List Atom,rows (l.map λa=>Tr.mk ⟨3,a.var,a.add⟩ [])=l.map λa=>(⟨3,a.var,a.add⟩:Nd):=by
  intro l
  induction l with
  |nil=>rfl
  |cons a l b=>simp[rows,row,b]
 simp[fd,row,this]
theorem Hm(kind:Int){l:List Atom}(hl:l.length<=1000):VC prog 96 [pI kind,cF l] (ah (row (fd kind l))):=by
 have d:=au atP l;generalize b:row (fd kind l)=f;rw[OV]at b;refine vf 33 [.tmp 4] τok func96 ?_;refine aB τok (σ:=Nat) [(1,_)] [] (λi=>[(5,.c (.row 1000)),(6,vI i)]) (λi=>[(1000,.rw 46 3 ([pI 2,pI kind,pI ((l.map atP).length:Int)]::(l.take i).map λa=>[pI 3,pI a.var,pI a.add]))]) (λi=>i<=l.length) (λi=>l.length-i) 0 (KV _) ?_ (sw 1000 11);intro i j;refine aj<|af (λg=>?_) (λg=>?_)
 ·have g:(i:Int)<l.length:=by simpa[d]using g
  obtain⟨a,e,_⟩:=ay (l:=l) (k:=i);refine vm (p:=atP) i e ?_;refine vm (p:=atP) i e ?_;refine bi ?_ (hb:=Uk);refine vk ?_;refine vi ?_;exact aw (i+1) (by show i+1<=_;omega) (sw 1000 31) (y':=⟨KG (λl=>some (SE.rw _ _ l)) (by
   rw[dB e];simp[dN];exact⟨rfl,rfl,rfl⟩),trivial⟩)
 ·have:i=l.length:=by simp[d]at g;omega
  subst this;exact aE (h3:=by
   rw[List.take_length,<- b,d];simp[ah,ge',ndP])
section
variable{B:ak}{cx:Ctx}{rs:RcS}{rc:RcJ}
theorem kt(h:Fg rs rc){t:Tr}{n:Nat}{q:Tr×Nat}(e:rs cx t n= .ok q):rc cx t n= .ok q:=eb (h cx t n) e
theorem pz(h:Fg rs rc){t:Tr}{n:Nat}{x:Int×Nat}(e:rs cx t n= .error x):rc cx t n= .error x.1:=dL (h cx t n) e
def ec(B:ak)(rs:RcS)(cx:Ctx)(t:Tr)(n:Nat):Prop:=VP prog 53 103 (cC B n 0) (dS B (rs cx t n)) [aH (cx.map aA),ah (row t)] (qU (rs cx t n))
theorem oK{x:Tr}(c:Wf x){o:Int}(i:o≠6):((headT x).n.op≠o \/0<(argsT x).length)↔x.n.op≠o:=by
 by_cases b:x.n.op=6
 ·have:0<(argsT x).length:=by
   obtain⟨n,j⟩:=x;obtain⟨f,a,rfl,_⟩:=pc c.ok b;rw[mW (n:=n) b];simp
  exact⟨λ_=>Uo,λ_=>.inr this⟩
 ·obtain⟨d,e⟩:=ij b
  rw[d,e];simp
variable(hS:dG B)(hB:GoodB B)(hfg:Fg rs rc)(hr:cG B rc)(hcx:CxOk B cx)(hcl:cx.length<=260)
include hS hB hfg hr hcx hcl
theorem pA{t:Tr}(ht:Ft (QB B) (cx.length:Int) t){n:Nat}(v:n<=100000)(i:ec B rs cx t n):VP prog 91 103 (cC B n 0) (dS B (fD B rs cx t n)) [aH (cx.map aA),ah (row t)] (OR (fD B rs cx t n)):=by
 generalize b:fD B rs cx t n=c;unfold fD at b;unfold ec at i;refine aP (r:=.ok (_,_)) 42 [.tmp 6,.tmp 7] τok func91 ?_;refine aj ?_;cases j:rs cx t n with
 |error e=>
  have d:=hr.er _ _ _ _ (pz hfg j);rw[j]at b i;obtain rfl:(.error e:RS (Int×List Atom))=c:=b;refine ax i ?_;refine ax (tz e.2 d _ _) ?_;exact vF d<|vE d<|eP9
 |ok q=>
 obtain⟨y,m⟩:=q;have l:=hr.ft _ _ _ _ hcx hcl ht (kt hfg j);have u:=hr.le _ _ _ _ (kt hfg j);simp only at l u;rw[j]at b i;have hW:=qW hS hB hcx hcl l (n:=m) Uo;have b:aY (gf B cx y m) (λz n=>if (headT z).n.op≠2 \/0<(argsT z).length then .error (11,n)else .ok (((headT z).n.a,bX (headT z)),n))=c:=b;refine ax i ?_;cases k:gf B cx y m with
 |error e=>
  have d:=ki (dL (ik y m) k);rw[k]at b hW;obtain rfl:(.error e:RS (Int×List Atom))=c:=b;refine ax hW ?_;exact vF d<|vE d<|eP9
 |ok q=>
 obtain⟨z,s⟩:=q;obtain⟨_,o,f⟩:=jb hB hcx l (eb (ik y m) k);simp only at f o;rw[k]at b hW;have b:(if (headT z).n.op≠2 \/0<(argsT z).length then .error (11,s)else .ok (((headT z).n.a,bX (headT z)),s))=c:=b;refine ax hW ?_;refine vz<|aI 0 (aL (aC f)) ?_;refine af (λg=>?_) (λg=>?_)
 ·rw[KX ((oK (aC f) UO).2 g)]at b
  subst b;refine vy (p:=(11:Int)≠0) ?_ UO;exact eP9
 ·rw[KY (λh=>g ((oK (aC f) UO).1 h))]at b
  have g:z.n.op=2:=QY g;rw[(ij (x:=z) Uo).1]at b;subst b;refine v0<|aI 0 (aL (aC f)) ?_;refine ae (wO (aC f) g) ?_;exact kP9
theorem wX{t ty:Tr}(ht:Ft (QB B) (cx.length:Int) t)(k:Ft (QB B) (cx.length:Int) ty){n:Nat}(s:n<=100000)(d:ec B rs cx t n):VP prog 100 103 (cC B n 0) (dS B (iL B rs cx t ty n)) [aH (cx.map aA),ah (row t),ah (row ty)] (.tup []):=by
 generalize a:iL B rs cx t ty n=c;unfold iL at a;unfold ec at d;refine aP (r:=.ok (_,_)) 21 [] τok func100 ?_;refine aj ?_;cases f:rs cx t n with
 |error e=>
  have j:=hr.er _ _ _ _ (pz hfg f);rw[f]at a d;obtain rfl:(.error e:RS Unit)=c:=a;refine ax d ?_;refine ax (BB e.2 j _ _ _ true) ?_;have:=jT (B:=B) e.2 e.1 13;rw[KY j]at this;refine ax this ?_;exact eP9
 |ok q=>
 obtain⟨y,m⟩:=q;have o:=hr.ft _ _ _ _ hcx hcl ht (kt hfg f);have p:=hr.le _ _ _ _ (kt hfg f);simp only at o p;rw[f]at a d;have hW:=Hl hS hB hcx hcl o k (n:=m) Uo true;have a:aY (lh B cx y ty true m) (λb n=>if b=true then .ok ((),n)else .error (13,n))=c:=a;refine ax d ?_;cases l:lh B cx y ty true m with
 |error e=>
  have j:=vO (dL (tx y ty true m) l);rw[l]at a hW;obtain rfl:(.error e:RS Unit)=c:=a;refine ax hW ?_;have:=jT (B:=B) e.2 e.1 13;rw[KY j]at this;refine ax this ?_;exact eP9
 |ok q=>
  obtain⟨b,i⟩:=q;rw[l]at a hW;have a:(if b=true then .ok ((),i)else .error (13,i))=c:=a;refine ax hW ?_;cases b with
  |true=>
   obtain rfl:(.ok ((),i):RS Unit)=c:=a;exact eP9
  |false=>
   obtain rfl:(.error (13,i):RS Unit)=c:=a;have:=jT (B:=B) i 0 13;rw[KX rfl]at this;refine ax this ?_;exact eP9
end
theorem OW{a:List Atom}(ha:a.length<=1000000){by_:Int}:VC prog 94 [cF a,pI by_] (.tup [cF (fZ a by_),pI (dy a by_)]):=by
 have C:=au atP a;have hr:=sP ha 16;have f:∀e,dy a by_=e ->e≠0 ->PV.tup [.sl [],pI e]= .tup [cF (fZ a by_),pI (dy a by_)]:=λe h m=>by
  have:fZ a by_=[]:=by unfold fZ;rw[KY Uo]
  rw[this,h]
  rfl
 refine cR 48 [.tmp 4,.tmp 5] τok func94 ?_;refine aj<|bV hr (λr=>?_) (λr=>?_)
 ·have v:=j7 r
  refine af (λo=>?_) (λo=>?_)
  ·exact⟨_,_,rfl,rfl,f 1 (by unfold dy;rw[KY (by simp[r]),KX o]) UO⟩
  have s:dy a by_=if a.any (λx=>decide (1000<x.add+by_))then 6 else 0:=by unfold dy;rw[KY (by simp[r]),KY o]
  refine dC 6 1000 220 2 rfl rfl<|aB τok (σ:=Nat) [(0,_),(1,_),(4,_),(5,_)] [] (λi=>[(6,.c (.row 1000)),(7,vI i)]) (λi=>[(1000,.rw 220 2 ((iB (a.take i) by_).map atP))]) (λi=>i<=a.length/\∀x∈a.take i,¬ 1000<x.add+by_) (λi=>a.length-i) 0 ⟨KV _,Ud⟩ ?_;rintro i ⟨D,p⟩;refine aj<|af (λg=>?_) (λg=>?_)
  ·obtain⟨x,b,E⟩:=ay (l:=a) (k:=i)
   have j:=JQ b;obtain⟨x1,x2,F,H⟩:=v.2 x j;have d:1000<x.add+by_ ->PV.tup [.sl [],pI 6]= .tup [cF (fZ a by_),pI (dy a by_)]:=λh=>f 6 (by rw[s,KX (List.any_eq_true.2 ⟨x,j,KU h⟩)]) UO;refine af (λy=>?_) (λy=>?_)
   ·exact⟨_,_,rfl,rfl,d Uo⟩
   refine vm i b ?_;refine vi ?_;refine af (λq=>?_) (λq=>?_)
   ·exact⟨_,_,rfl,rfl,d q⟩
   refine vm i b ?_;refine vm i b ?_;refine vi ?_;refine bi ?_ (hb:=by simp[iB];omega);refine vk ?_;refine vi ?_;refine aw (i+1) ⟨Uo,λz u=>?_⟩ (sw 1000 46) (y':=⟨KG (λl=>some (SE.rw _ _ l)) (by rw[QQ,b];simp[iB,dN];rfl),trivial⟩);rw[QQ,b,Option.toList]at u;rcases List.mem_append.1 u with h|h
   ·exact p z h
   ·obtain rfl:=List.mem_singleton.1 h
    exact q
  ·rw[JG Uo]at p
   have m:dy a by_=0:=by
    rw[s,KY];intro h;obtain⟨x,b,A⟩:=List.any_eq_true.1 h;exact p x b (of_decide_eq_true A)
   exact aE (h3:=by
    have:fZ a by_=iB a by_:=KX m;rw[this,m,JG Uo]
    rfl)
 ·exact⟨_,_,rfl,rfl,f 19 (by unfold dy;rw[KX r]) UO⟩
def mv(l:List Atom)(v:Nat):Int:=(mapF l v).getD (-1)
theorem Hn{l:List Atom}{x:Atom}{v:Nat}(h:x.var≠(v:Int)):mv (l++[x]) v=mv l v:=by
 unfold mv;rw[vw,z7 (λe=>h e.symm)]
theorem BE{l:List Atom}{x:Atom}{v:Nat}(h:x.var=(v:Int))(a:0<=x.add):mv (l++[x]) v=if mv l v<x.add then x.add else mv l v:=by
 unfold mv;rw[vw,<- h,vA];cases mapF l x.var with
 |none=>simp;omega
 |some u=>simp
theorem OX{l:List Atom}(hl:∀x∈l,0<=x.add/\x.add<=1000)(v:Nat):-1<=mv l v/\mv l v<=1000/\(mv l v<0 ->mapF l v=none)/\(0<=mv l v ->mapF l v=some (mv l v)):=by
 unfold mv;cases a:mapF l v with
 |none=>simp
 |some u=>
  obtain⟨y,b,_,rfl⟩:=vB a;have:=hl y b;simp;omega
def oL(a b:List Atom)(k:Nat):List Atom:=(List.range k).filterMap λ(v:Nat)=>(mapF (a++b) v).map λn=>⟨(v:Int),n⟩
theorem Ho(a b:List Atom)(k:Nat):oL a b (k+1)=oL a b k++((mapF (a++b) k).map λn=>(⟨(k:Int),n⟩:Atom)).toList:=by
 unfold oL;rw[List.range_succ,List.filterMap_append];cases h:mapF (a++b) k with
 |none=>simp[h]
 |some n=>simp[h]
theorem OY(a b:List Atom)(k:Nat):(oL a b k).length<=k:=by
 have:=List.length_filterMap_le (λ(v:Nat)=>(mapF (a++b) v).map λn=>(⟨(v:Int),n⟩:Atom)) (List.range k)
 simpa[oL]using this
theorem BF{a b:List Atom}(ha:a.length<=1000000)(hb:b.length<=1000000):VC prog 97 [cF a,cF b] (.tup [cF (dx a b),pI (cK a b)]):=by
 have Y:=au atP a;have Z:=au atP b;have A:=sP ha 16;have C:=sP hb 16;have m:∀e,cK a b=e ->e≠0 ->PV.tup [.sl [],pI e]= .tup [cF (dx a b),pI (cK a b)]:=λe h D=>by
  have:dx a b=[]:=by unfold dx;rw[KY Uo]
  rw[this,h]
  rfl
 refine cR 80 [.tmp 4,.tmp 5] τok func97 ?_;refine aj<|bV A (λq=>?_) (λq=>?_)
 ·refine bV C (λs=>?_) (λs=>?_)
  ·have L:=j7 q
   have M:=j7 s;have E:=(z8 q).1;have F:∀x∈a++b,0<=x.add/\x.add<=1000:=λx d=>by
    rcases List.mem_append.1 d with h|h
    ·have:=L.2 x h;omega
    ·have:=M.2 x h;omega
   have N:cK a b=if 4<(maxL a b).length then 5 else 0:=by unfold cK;rw[KY (by simp[q,s])]
   refine dC 6 1000 220 2 rfl rfl<|aB τok (σ:=Nat) [(0,_),(1,_),(4,_),(5,_)] [] (λv=>[(6,.c (.row 1000)),(7,vI v)]) (λv=>[(1000,.rw 220 2 ((oL a b v).map atP))]) (λv=>v<=17) (λv=>17-v) 0 UO ?_;rintro v g1;have O:=OY a b v;refine aj<|af (λg=>?_) (λg=>?_)
   ·refine aB τok (σ:=Nat) [(0,_),(1,_),(4,_),(5,_),(6,_),(7,_)] [(1000,_)] (λi=>[(8,vI (mv (a.take i) v)),(9,vI i)]) (λ_=>[]) (λi=>i<=a.length) (λi=>a.length-i) 0 (KV _) ?_
    rintro i u;refine aj<|af (λP=>?_) (λP=>?_)
    ·obtain⟨x,d,R⟩:=ay (l:=a) (k:=i)
     have o:=JQ d;have f:a.take (i+1)=a.take i++[x]:=by rw[QQ,d];rfl
     refine vm i d ?_;refine af (λz=>?_) (λz=>?_)
     ·have S:mapF (a.take i) v=none:=Me λy T e=>by
       have U:(a.take i++[x]).Pairwise (λx y=>x.var<y.var):=by rw[<- f];exact E.sublist (List.take_sublist _ _)
       have:=(List.pairwise_append.1 U).2.2 y T x Ud;omega
      refine vm i d ?_;refine vi ?_;exact aw (i+1) (by show i+1<=_;omega) (x:=⟨by
       have:=(L.2 x o).1;have e:mv (a.take (i+1)) v=x.add:=by
        rw[f,BE z this,KX];unfold mv;rw[S];simp;omega
       rw[e];rfl,rfl,trivial⟩)
     ·refine vi ?_
      exact aw (i+1) (by show i+1<=_;omega) (x:=⟨by rw[f,Hn z];rfl,rfl,trivial⟩)
    ·rw[JG Uo]
     refine aB τok (σ:=Nat) [(0,_),(1,_),(4,_),(5,_),(6,_),(7,_)] [(1000,_)] (λi=>[(8,vI (mv (a++b.take i) v)),(10,vI i)]) (λ_=>[]) (λi=>i<=b.length) (λi=>b.length-i) 0 (KV _) ?_ (x1:=⟨by rw[List.take_zero,JD];rfl,rfl,trivial⟩);rintro i z;have p:=OX (l:=a++b.take i) (λx d=>F x (by
      rcases List.mem_append.1 d with h|h
      ·simp[h]
      ·simp[List.mem_of_mem_take h])) v
     refine aj<|af (λV=>?_) (λV=>?_)
     ·obtain⟨x,d,R⟩:=ay (l:=b) (k:=i)
      have o:=JQ d;have r:=(M.2 x o).1;have f:a++b.take (i+1)=(a++b.take i)++[x]:=by rw[QQ,d];simp
      refine vm i d ?_;refine af (λj=>?_) (λj=>?_)
      ·refine vm i d ?_
       refine af (λH=>?_) (λH=>?_)
       ·refine vm i d ?_
        refine vi ?_;exact aw (i+1) (by show i+1<=_;omega) (x:=⟨by rw[f,BE j r,KX H];rfl,rfl,trivial⟩)
       ·refine vi ?_
        exact aw (i+1) (by show i+1<=_;omega) (x:=⟨by rw[f,BE j r,KY H];rfl,rfl,trivial⟩)
      ·refine vi ?_
       exact aw (i+1) (by show i+1<=_;omega) (x:=⟨by rw[f,Hn j];rfl,rfl,trivial⟩)
     ·rw[JG Uo]at p
      have f:b.take i=b:=JG Uo;refine af (λj=>?_) (λj=>?_)
      ·rw[f]at j
       have I:=p.2.2.2 j;refine bi ?_ (hb:=Uk);refine vi ?_;exact aw (v+1) (by show v+1<=17;omega) (sw 1000 75) (y':=⟨KG (λl=>some (SE.rw _ _ l)) (by rw[Ho,I,f];simp[dN];rfl),trivial⟩)
      ·rw[f]at j
       have I:=p.2.2.1 Uo;refine vi ?_;exact aw (v+1) (by show v+1<=17;omega) (y':=⟨KG (λl=>some (SE.rw _ _ l)) (by rw[Ho,I];simp),trivial⟩)
   ·have K:v=17:=Uo
    subst K;have W:oL a b 17=maxL a b:=rfl;have el:=au atP (oL a b 17);refine af (λu=>?_) (λu=>?_)<;>simp only[el]at u<;>rw[W]at u
    ·exact⟨_,_,rfl,rfl,m 5 (by rw[N,KX Uo]) UO⟩
    ·have D:cK a b=0:=by rw[N,KY Uo]
     exact aE (h3:=by
      have:dx a b=maxL a b:=KX D;rw[this,D]
      rfl)
  ·exact⟨_,_,rfl,rfl,m 19 (by unfold cK;rw[KX (.inr s)]) UO⟩
 ·exact⟨_,_,rfl,rfl,m 19 (by unfold cK;rw[KX (.inl q)]) UO⟩
theorem ln{cx:Ctx}(k:Tr)(v:Option Tr)(hc:cx.length<=1000):VC prog 57 [aH (cx.map aA),.agg [ah (row k),ah (nF' v)]] (aH ((cx++[(k,v)]).map aA)):=by
 have:=OS (c:=cx.map aA) (aA (k,v)) (by simpa using hc);rw[KB];exact this
section
variable{B:ak}{cx:Ctx}{t:Tr}{n:Nat}
def fe(B:ak)(cx:Ctx)(t:Tr)(n:Nat)(r:RS Tr):Prop:=VP prog 53 103 (cC B n 0) (dS B r) [aH (cx.map aA),ah (row t)] (qU r)
variable(hS:dG B)(hR:cT B=0)(hB:GoodB B)(hcx:CxOk B cx)(hcl:cx.length<=260)(ht:Ft (QB B) (cx.length:Int) t)
include hB hcx hcl ht
theorem OZ(h1:t.n.op=1):fe B cx t n (.ok (aK (fY cx t.n.a).1 (t.n.a+1) 0,n)):=by
 unfold fe;generalize a:(.ok (aK (fY cx t.n.a).1 (t.n.a+1) 0,n):RS Tr)=e;have wt:=aC ht;have eC:=au bdP (cx.map aA);have f:=au aA cx;refine aP (r:=.ok (_,_)) 379 [.tmp 6] τok func53 ?_;refine aj<|v0<|aI 0 (aL wt) ?_;refine ae (iH wt) ?_;refine vY t.n.op 1 ?_ h1;have c:0<=t.n.a/\t.n.a<cx.length:=by
  obtain⟨j,k⟩:=t;obtain⟨v0,i,_⟩:=ht.var_lt h1;exact⟨v0,i⟩
 have d:=oe c.1 c.2;obtain⟨c1,l⟩:=hcx _ _ d;refine vi ?_;refine vi ?_;refine vm (p:=bdP) (cx.length-1-t.n.a.toNat) (x:=aA (fY cx t.n.a)) (by rw[JX,d];rfl) ?_;refine vi ?_;refine ae (qI (x:=(fY cx t.n.a).1) (aC c1) (c1.small Uo) (b:=t.n.a+1) (fr:=0) Uo Uo) ?_;refine ax (ip n _) ?_;refine vk ?_;subst a;exact eP9
theorem O0(h2:t.n.op=2):fe B cx t n (tl t n):=by
 unfold fe;generalize b:tl t n=d;have wt:=aC ht;refine aP (r:=.ok (_,_)) 379 [.tmp 6] τok func53 ?_;refine aj<|v0<|aI 0 (aL wt) ?_;refine ae (iH wt) ?_;refine vN t.n.op 1 ?_;refine vY t.n.op 2 ?_ h2;have e:=(sL ht h2).hi;refine ae (wO wt h2) ?_;refine ae (OW (a:=bX t) Uo (by_:=1)) ?_;have c:(fZ (bX t) 1).length<=1000:=by
  by_cases h:dy (bX t) 1=0
  ·have:=(Ai (sL ht h2) h).hi
   omega
  ·unfold fZ
   simp[h]
 refine ae (Hm 1 c) ?_;unfold tl at b
 by_cases h:dy (bX t) 1=0
 ·rw[KY Uo]at b
  subst b;rw[h];refine ax (ip n _) ?_;exact eP9
 ·rw[KX h]at b
  subst b;refine ax (mr n h _) ?_;exact eP9
theorem O1(b:t.n.op=8):fe B cx t n (.ok (tr (aR B t.n.a).type,n)):=by
 unfold fe;generalize a:(.ok (tr (aR B t.n.a).type,n):RS Tr)=d;have wt:=aC ht;refine aP (r:=.ok (_,_)) 379 [.tmp 6] τok func53 ?_;refine aj<|v0<|aI 0 (aL wt) ?_;refine ae (iH wt) ?_;refine vN t.n.op 1 ?_;refine vN t.n.op 2 ?_;refine vN t.n.op 4 ?_;refine vN t.n.op 5 ?_;refine vN t.n.op 6 ?_;refine vN t.n.op 7 ?_;refine vY t.n.op 8 ?_ b;obtain⟨i,x,j,k,l,e,f,c⟩:=hB.dfn ht.node' b;refine de i e ?_;refine vk ?_;subst a;refine⟨_,_,_,rfl,rfl,?_,rfl,rfl⟩;simp only[qU,f,c.type,jJ c.ft.ok,ge']
 rfl
include hS hR
theorem O2(d:t.n.op=9):fe B cx t n (dK (gx B t.n.a) n):=by
 unfold fe;generalize a:dK (gx B t.n.a) n=b;have wt:=aC ht;refine aP (r:=.ok (_,_)) 379 [.tmp 6] τok func53 ?_;refine aj<|v0<|aI 0 (aL wt) ?_;refine ae (iH wt) ?_;refine vN t.n.op 1 ?_;refine vN t.n.op 2 ?_;refine vN t.n.op 4 ?_;refine vN t.n.op 5 ?_;refine vN t.n.op 6 ?_;refine vN t.n.op 7 ?_;refine vN t.n.op 8 ?_;refine vY t.n.op 9 ?_ d;have f:=dn ht.ok.pl;have c:=Ng hS hR hB (zy ht.node' d f.2.2.1);cases hr:gx B t.n.a with
 |ok x=>
  rw[hr]at c a;obtain rfl:(.ok (x,n):RS Tr)=b:=a;refine ae c ?_;refine ax (ip n _) ?_;exact kP9
 |error e=>
  have i:=An hr;rw[hr]at c a;obtain rfl:(.error (e,n):RS Tr)=b:=a;refine ae c ?_;refine ax (mr n (show e≠0 by omega) _) ?_;exact kP9
theorem O3(b:t.n.op=10):fe B cx t n (dK (ig B t.n.a t.n.b) n):=by
 unfold fe;generalize a:dK (ig B t.n.a t.n.b) n=c;have wt:=aC ht;refine aP (r:=.ok (_,_)) 379 [.tmp 6] τok func53 ?_;refine aj<|v0<|aI 0 (aL wt) ?_;refine ae (iH wt) ?_;refine vN t.n.op 1 ?_;refine vN t.n.op 2 ?_;refine vN t.n.op 4 ?_;refine vN t.n.op 5 ?_;refine vN t.n.op 6 ?_;refine vN t.n.op 7 ?_;refine vN t.n.op 8 ?_;refine vN t.n.op 9 ?_;refine vY t.n.op 10 ?_ b;have f:=dn ht.ok.pl;have d:=Nk hS hR hB (iS ht.node' (.inl b)) f.1 (uV ht.node' b);cases hr:ig B t.n.a t.n.b with
 |ok x=>
  rw[hr]at d a;obtain rfl:(.ok (x,n):RS Tr)=c:=a;refine ae d ?_;refine ax (ip n _) ?_;exact kP9
 |error e=>
  have i:=Ao hr;rw[hr]at d a;obtain rfl:(.error (e,n):RS Tr)=c:=a;refine ae d ?_;refine ax (mr n (show e≠0 by omega) _) ?_;exact kP9
variable{rs:RcS}{rc:RcJ}(hfg:Fg rs rc)(hr:cG B rc)
include hfg hr
theorem O4(h4:t.n.op=4)(K:n<=100000)(A:∀n,n<=100000 ->ec B rs cx (kidD t 0) n)(C:cx.length<=256 ->∀n,n<=100000 ->ec B rs (cx++[(kidD t 0,none)]) (kidD t 1) n):fe B cx t n (tn B rs cx t n):=by
 unfold fe;generalize c:tn B rs cx t n=f;have wt:=aC ht;have M:=au aA cx;refine aP (r:=.ok (_,_)) 379 [.tmp 6] τok func53 ?_;refine aj<|v0<|aI 0 (aL wt) ?_;refine ae (iH wt) ?_;refine vN t.n.op 1 ?_;refine vN t.n.op 2 ?_;refine vY t.n.op 4 ?_ h4;obtain⟨T,D,N⟩:=dq ht (.inl h4);unfold tn at c;have l:=pA hS hB hfg hr hcx hcl D K (A n K);cases m:fD B rs cx (kidD t 0) n with
 |error e=>
  have o:=jc hr (dL (io hfg _ _) m);rw[m]at l c;obtain rfl:(.error e:RS Tr)=f:=c;refine az 0 (aF wt) ?_;refine ax l ?_;refine az 0 (aF wt) ?_;refine ae (ln (kidD t 0) none Uo) ?_;refine az 1 (aF wt) ?_;refine ax (BC e.2 o _ _) ?_;refine vk ?_;exact vE o<|eP9
 |ok p=>
 obtain⟨⟨O,d⟩,s⟩:=p;have f1:=eb (io hfg _ _) m;obtain⟨c1,E,_⟩:=fQ hB hr f1;obtain⟨_,P,F⟩:=kX hB hr hcx D f1;simp only at E P F;rw[m]at l c;refine az 0 (aF wt) ?_;refine ax l ?_;have i:=hcx.snoc D (v:=none) λx R=>by cases R
 have k:Ft (QB B) ((cx++[(kidD t 0,none)]).length:Int) (kidD t 1):=by rw[bB];exact N.mono Uo
 have u:=pA hS hB hfg hr i (by rw[bB];omega) k (n:=s) Uo (C Uo s Uo);have c:aY (fD B rs (cx++[(kidD t 0,none)]) (kidD t 1) s) (λq n=>if cK d q.2≠0 then .error (cK d q.2,n)else .ok (fd q.1 (dx d q.2),n))=f:=c;refine az 0 (aF wt) ?_;refine ae (ln (kidD t 0) none Uo) ?_;refine az 1 (aF wt) ?_;cases y:fD B rs (cx++[(kidD t 0,none)]) (kidD t 1) s with
 |error e=>
  have o:=jc hr (dL (io hfg _ _) y);rw[y]at u c;obtain rfl:(.error e:RS Tr)=f:=c;refine ax u ?_;refine vk ?_;exact vE o<|eP9
 |ok p=>
 obtain⟨⟨L,j⟩,z⟩:=p;obtain⟨_,S,H⟩:=kX hB hr i k (eb (io hfg _ _) y);simp only at S H;rw[y]at u c;have c:(if cK d j≠0 then .error (cK d j,z)else .ok (fd L (dx d j),z))=f:=c;refine ax u ?_;refine vk ?_;refine v0 ?_;have:=F.hi;have:=H.hi;refine ae (BF (a:=d) (b:=j) Uo Uo) ?_;have I:(dx d j).length<=1000:=by
  by_cases h:cK d j=0
  ·have:=(Aj F H h).hi
   omega
  ·unfold dx
   simp[h]
 refine ae (Hm L I) ?_
 by_cases h:cK d j=0
 ·rw[KY Uo]at c
  subst c;rw[h];refine ax (ip z _) ?_;exact eP9
 ·rw[KX h]at c
  subst c;refine ax (mr z h _) ?_;exact eP9
theorem O5(E:t.n.op=5)(F:n<=100000)(q:∀n,n<=100000 ->ec B rs cx (kidD t 0) n)(s:cx.length<=256 ->∀n,n<=100000 ->ec B rs (cx++[(kidD t 0,none)]) (kidD t 1) n):fe B cx t n (tu B rs cx t n):=by
 unfold fe;generalize a:tu B rs cx t n=b;have wt:=aC ht;have I:=au aA cx;refine aP (r:=.ok (_,_)) 379 [.tmp 6] τok func53 ?_;refine aj<|v0<|aI 0 (aL wt) ?_;refine ae (iH wt) ?_;refine vN t.n.op 1 ?_;refine vN t.n.op 2 ?_;refine vN t.n.op 4 ?_;refine vY t.n.op 5 ?_ E;obtain⟨R,j,K⟩:=dq ht (.inr E);unfold tu at a;have k:=pA hS hB hfg hr hcx hcl j F (q n F);cases l:fD B rs cx (kidD t 0) n with
 |error e=>
  have c:=jc hr (dL (io hfg _ _) l);rw[l]at k a;obtain rfl:(.error e:RS Tr)=b:=a;refine az 0 (aF wt) ?_;refine ax k ?_;refine az 0 (aF wt) ?_;refine ae (ln (kidD t 0) none Uo) ?_;refine az 1 (aF wt) ?_;refine ax (tA e.2 c _ _) ?_;refine vk ?_;exact vE c<|eP9
 |ok p=>
 obtain⟨⟨L,S⟩,u⟩:=p;have f1:=eb (io hfg _ _) l;obtain⟨c1,A,_⟩:=fQ hB hr f1;obtain⟨_,M,N⟩:=kX hB hr hcx j f1;simp only at A M N;rw[l]at k a;refine az 0 (aF wt) ?_;refine ax k ?_;have d:=hcx.snoc j (v:=none) λx O=>by cases O
 have C:Ft (QB B) ((cx++[(kidD t 0,none)]).length:Int) (kidD t 1):=by rw[bB];exact K.mono Uo
 have f:=s Uo u Uo;unfold ec at f;have a:aY (rs (cx++[(kidD t 0,none)]) (kidD t 1) u) (λz n=>dK (bk [kidD t 0] z) n)=b:=a;refine az 0 (aF wt) ?_;refine ae (ln (kidD t 0) none Uo) ?_;refine az 1 (aF wt) ?_;cases m:rs (cx++[(kidD t 0,none)]) (kidD t 1) u with
 |error e=>
  have c:=hr.er _ _ _ _ (pz hfg m);rw[m]at f a;obtain rfl:(.error e:RS Tr)=b:=a;refine ax f ?_;refine vk ?_;exact vE c<|eP9
 |ok p=>
 obtain⟨z,i⟩:=p;have H:=hr.ft _ _ _ _ d (by rw[bB];omega) C (kt hfg m);simp only at H;rw[m]at f a;have a:dK (bk [kidD t 0] z) i=b:=a;refine ax f ?_;refine vk ?_;refine v0<|az 0 (aF wt) ?_;have o:=wa (x:=z) (aC H) (ys:=[kidD t 0]) (λy P=>by
  obtain rfl:y=kidD t 0:=by simpa using P
  exact aC j) Ud
 cases D:bk [kidD t 0] z with
 |ok x=>
  rw[D]at o a;obtain rfl:(.ok (x,i):RS Tr)=b:=a;refine ae o ?_;refine ax (ip i _) ?_;exact eP9
 |error e=>
  have c:=kY D;rw[D]at o a;obtain rfl:(.error (e,i):RS Tr)=b:=a;refine ae o ?_;refine ax (mr i (show e≠0 by omega) _) ?_;exact eP9
end
section
variable{B:ak}{cx:Ctx}{t:Tr}{n:Nat}{rs:RcS}{rc:RcJ}
variable(hS:dG B)(hR:cT B=0)(hB:GoodB B)(hcx:CxOk B cx)(hcl:cx.length<=260)(ht:Ft (QB B) (cx.length:Int) t)(hfg:Fg rs rc)(hr:cG B rc)
include hS hR hB hcx hcl ht hfg hr
theorem O6(K:t.n.op=6)(L:n<=100000)(A:∀n,n<=100000 ->ec B rs cx (kidD t 0) n)(C:∀n,n<=100000 ->ec B rs cx (kidD t 1) n):fe B cx t n (tv B rs cx t n):=by
 unfold fe;generalize a:tv B rs cx t n=b;have wt:=aC ht;have M:=au aA cx;refine aP (r:=.ok (_,_)) 379 [.tmp 6] τok func53 ?_;refine aj<|v0<|aI 0 (aL wt) ?_;refine ae (iH wt) ?_;refine vN t.n.op 1 ?_;refine vN t.n.op 2 ?_;refine vN t.n.op 4 ?_;refine vN t.n.op 5 ?_;refine vY t.n.op 6 ?_ K;obtain⟨S,N,D⟩:=nc ht K;unfold tv at a;refine az 0 (aF wt) ?_;have f:=A n L;unfold ec at f;cases i:rs cx (kidD t 0) n with
 |error e=>
  have c:=hr.er _ _ _ _ (pz hfg i);rw[i]at f a;obtain rfl:(.error e:RS Tr)=b:=a;refine ax f ?_;refine ax (tz e.2 c _ _) ?_;exact vF c<|vE c<|eP9
 |ok q=>
 obtain⟨y,m⟩:=q;have E:=hr.ft _ _ _ _ hcx hcl N (kt hfg i);have O:=hr.le _ _ _ _ (kt hfg i);simp only at E O;rw[i]at a f;have hW:=qW hS hB hcx hcl E (n:=m) Uo;have a:aY (gf B cx y m) (λz n=>if (headT z).n.op≠4 \/0<(argsT z).length then .error (12,n)else
  aY (iL B rs cx (kidD t 1) (kidD (headT z) 0) n) λ_ n=>dK (bq (kidD (headT z) 1) (kidD t 1) 0) n)=b:=a
 refine ax f ?_;cases l:gf B cx y m with
 |error e=>
  have c:=ki (dL (ik y m) l);rw[l]at a hW;obtain rfl:(.error e:RS Tr)=b:=a;refine ax hW ?_;exact vF c<|vE c<|eP9
 |ok q=>
 obtain⟨z,j⟩:=q;obtain⟨_,F,d⟩:=jb hB hcx E (eb (ik y m) l);simp only at d F;rw[l]at a hW;have a:(if (headT z).n.op≠4 \/0<(argsT z).length then .error (12,j)else
  aY (iL B rs cx (kidD t 1) (kidD (headT z) 0) j) λ_ n=>dK (bq (kidD (headT z) 1) (kidD t 1) 0) n)=b:=a
 refine ax hW ?_;refine vz<|aI 0 (aL (aC d)) ?_;refine af (λg=>?_) (λg=>?_)
 ·rw[KX ((oK (aC d) UO).2 g)]at a
  subst a;refine vy (p:=(12:Int)≠0) ?_ UO;exact eP9
 rw[KY (λh=>g ((oK (aC d) UO).1 h))]at a;have g:z.n.op=4:=QY g;rw[(ij (x:=z) Uo).1]at a;refine v0<|ae (iH (aC d)) ?_;obtain⟨T,P,R⟩:=dq d (.inl g);refine az 1 (aF wt) ?_;refine az 0 (aF (aC d)) ?_;have o:=wX hS hB hfg hr hcx hcl D P (n:=j) Uo (C j Uo);cases H:iL B rs cx (kidD t 1) (kidD z 0) j with
 |error e=>
  have c:=oz hr (dL (mq hfg _ _ _) H);rw[H]at a o;obtain rfl:(.error e:RS Tr)=b:=a;refine ax o ?_;refine vk ?_;exact vE c<|eP9
 |ok q=>
 obtain⟨_,k⟩:=q;rw[H]at a o;have a:dK (bq (kidD z 1) (kidD t 1) 0) k=b:=a;refine ax o ?_;refine vk ?_;refine v0<|az 1 (aF (aC d)) ?_;refine az 1 (aF wt) ?_;have s:=v7 (x:=kidD z 1) (aC R) (u:=kidD t 1) (aC D) (D.small Uo) (v:=0) Uo;cases I:bq (kidD z 1) (kidD t 1) 0 with
 |ok x=>
  rw[I]at s a;obtain rfl:(.ok (x,k):RS Tr)=b:=a;refine ae s ?_;refine ax (ip k _) ?_;exact kP9
 |error e=>
  have c:=jp I;rw[I]at s a;obtain rfl:(.error (e,k):RS Tr)=b:=a;refine ae s ?_;refine ax (mr k (show e≠0 by omega) _) ?_;exact kP9
theorem O7(N:t.n.op=7)(O:n<=100000)(A:∀n,n<=100000 ->ec B rs cx (kidD t 0) n)(C:∀n,n<=100000 ->ec B rs cx (kidD t 1) n)(D:cx.length<=256 ->∀n,n<=100000 ->ec B rs (cx++[(kidD t 0,some (kidD t 1))]) (kidD t 2) n):fe B cx t n (tw B rs cx t n):=by
 unfold fe;generalize a:tw B rs cx t n=b;have wt:=aC ht;have R:=au aA cx;refine aP (r:=.ok (_,_)) 379 [.tmp 6] τok func53 ?_;refine aj<|v0<|aI 0 (aL wt) ?_;refine ae (iH wt) ?_;refine vN t.n.op 1 ?_;refine vN t.n.op 2 ?_;refine vN t.n.op 4 ?_;refine vN t.n.op 5 ?_;refine vN t.n.op 6 ?_;refine vY t.n.op 7 ?_ N;obtain⟨T,E,j,S⟩:=kU ht N;unfold tw at a;have k:=pA hS hB hfg hr hcx hcl E O (A n O);refine az 0 (aF wt) ?_;cases l:fD B rs cx (kidD t 0) n with
 |error e=>
  have c:=jc hr (dL (io hfg _ _) l);rw[l]at k a;obtain rfl:(.error e:RS Tr)=b:=a;refine ax k ?_;refine az 1 (aF wt) ?_;refine az 0 (aF wt) ?_;refine ax (OT e.2 c _ _ _) ?_;refine vk ?_;refine az 0 (aF wt) ?_;refine az 1 (aF wt) ?_;refine ae (ln (kidD t 0) (some (kidD t 1)) Uo) ?_;refine az 2 (aF wt) ?_;refine ax (tA e.2 c _ _) ?_;refine vk ?_;exact vE c<|eP9
 |ok p=>
 obtain⟨q1,m⟩:=p;obtain⟨c1,F,_⟩:=fQ hB hr (eb (io hfg _ _) l);simp only at F;rw[l]at k a;have o:=wX hS hB hfg hr hcx hcl j E (n:=m) Uo (C m Uo);have a:aY (iL B rs cx (kidD t 1) (kidD t 0) m) (λ_ n=>
  aY (rs (cx++[(kidD t 0,some (kidD t 1))]) (kidD t 2) n) λz n=>dK (bq z (kidD t 1) 0) n)=b:=a
 refine ax k ?_;refine az 1 (aF wt) ?_;refine az 0 (aF wt) ?_;cases q:iL B rs cx (kidD t 1) (kidD t 0) m with
 |error e=>
  have c:=oz hr (dL (mq hfg _ _ _) q);rw[q]at a o;obtain rfl:(.error e:RS Tr)=b:=a;refine ax o ?_;refine vk ?_;refine az 0 (aF wt) ?_;refine az 1 (aF wt) ?_;refine ae (ln (kidD t 0) (some (kidD t 1)) Uo) ?_;refine az 2 (aF wt) ?_;refine ax (tA e.2 c _ _) ?_;refine vk ?_;exact vE c<|eP9
 |ok p=>
 obtain⟨_,H⟩:=p;have I:=(mb hr (eb (mq hfg _ _ _) q)).2;simp only at I;rw[q]at a o;have d:=hcx.snoc E (v:=some (kidD t 1)) λx K=>by injection K with K;rw[<- K];exact j
 have L:Ft (QB B) ((cx++[(kidD t 0,some (kidD t 1))]).length:Int) (kidD t 2):=by rw[bB];exact S.mono Uo
 have f:=D Uo H Uo;unfold ec at f;have a:aY (rs (cx++[(kidD t 0,some (kidD t 1))]) (kidD t 2) H) (λz n=>dK (bq z (kidD t 1) 0) n)=b:=a;refine ax o ?_;refine vk ?_;refine az 0 (aF wt) ?_;refine az 1 (aF wt) ?_;refine ae (ln (kidD t 0) (some (kidD t 1)) Uo) ?_;refine az 2 (aF wt) ?_;cases s:rs (cx++[(kidD t 0,some (kidD t 1))]) (kidD t 2) H with
 |error e=>
  have c:=hr.er _ _ _ _ (pz hfg s);rw[s]at f a;obtain rfl:(.error e:RS Tr)=b:=a;refine ax f ?_;refine vk ?_;exact vE c<|eP9
 |ok p=>
 obtain⟨z,i⟩:=p;have P:=hr.ft _ _ _ _ d (by rw[bB];omega) L (kt hfg s);simp only at P;rw[s]at f a;have a:dK (bq z (kidD t 1) 0) i=b:=a;refine ax f ?_;refine vk ?_;refine v0<|az 1 (aF wt) ?_;have y:=v7 (x:=z) (aC P) (u:=kidD t 1) (aC j) (j.small Uo) (v:=0) Uo;cases M:bq z (kidD t 1) 0 with
 |ok x=>
  rw[M]at y a;obtain rfl:(.ok (x,i):RS Tr)=b:=a;refine ae y ?_;refine ax (ip i _) ?_;exact eP9
 |error e=>
  have c:=jp M;rw[M]at y a;obtain rfl:(.error (e,i):RS Tr)=b:=a;refine ae y ?_;refine ax (mr i (show e≠0 by omega) _) ?_;exact eP9
end
theorem O8(B:ak)(x:Tr):gw B x=0 \/gw B x=18:=by
 unfold gw
 generalize (0:Nat)=i
 induction x.n.b.toNat generalizing i with
 |zero=>exact .inl rfl
 |succ k a=>
  simp only[lW];split
  ·first|exact .inr rfl|exact a _
  ·first|exact .inr rfl|exact a _
section
variable{B:ak}{cx:Ctx}{t:Tr}{n:Nat}{rs:RcS}{rc:RcJ}
variable(hS:dG B)(hR:cT B=0)(hB:GoodB B)(hcx:CxOk B cx)(hcl:cx.length<=260)(ht:Ft (QB B) (cx.length:Int) t)(hfg:Fg rs rc)(hr:cG B rc)
include hS hR hB hcx hcl ht hfg hr
theorem O9(d:t.n.op=12)(hn:n<=100000)(D:∀i,i<t.n.b.toNat ->∀n,n<=100000 ->ec B rs cx (kidD t (2*i)) n)(s:cx.length<=256 ->∀i,i<t.n.b.toNat ->∀n,n<=100000 ->ec B rs (cx++aQ t) (kidD t (2*i+1)) n):fe B cx t n (tk B rs cx t n):=by
 unfold fe;obtain⟨l1,l2,l3,l4,l5⟩:=dp ht.ok d;have V:=fA ht.ok d;obtain⟨u,E⟩:∃k,t.n.b.toNat=k:=⟨_,rfl⟩
 have O:t.n.b=(u:Int):=Uo
 generalize c:tk B rs cx t n=l;have wt:=aC ht;have W:=au aA cx;refine aP (r:=.ok (_,_)) 379 [.tmp 6] τok func53 ?_;refine aj<|v0<|aI 0 (aL wt) ?_;refine ae (iH wt) ?_;refine vN t.n.op 1 ?_;refine vN t.n.op 2 ?_;refine vN t.n.op 4 ?_;refine vN t.n.op 5 ?_;refine vN t.n.op 6 ?_;refine vN t.n.op 7 ?_;refine vN t.n.op 8 ?_;refine vN t.n.op 9 ?_;refine vN t.n.op 10 ?_;refine vN t.n.op 11 ?_;unfold tk at c;rw[E]at c D s;obtain⟨T,F⟩:∃f:Unit ->Nat ->RS Tr,f=λ_ n=>if gw B t≠0 then .error (gw B t,n)else aY (py B rs (cx++aQ t) t u u 0 n) λ_ n=>.ok (kidD t (2*t.n.a.toNat),n):=⟨_,rfl⟩
 rw[<- F]at c;refine aB τok (σ:=Nat×RS Unit) [(0,_),(1,_),(2,_),(7,_),(8,_)] [(7,_)] (λq=>[(21,vI q.1)]) (λq=>[(0,.st 1 103 ((dS B q.2).map .p))]) (λq=>q.1<=u/\(match q.2 with
  | .ok p=>p.2<=n/\(0<q.1 ->cx.length<=256)/\aY (qR B rs cx t (u-q.1) q.1 p.2) T=l
  | .error e=>e.1≠0/\ .error e=l)) (λq=>u-q.1) (0,.ok ((),n)) ⟨KV _,KJ _,λh=>absurd h (Nat.lt_irrefl _),c⟩ ?_
 clear c
 rintro⟨i,r⟩ ⟨Y,a⟩;simp only at Y a;refine aj<|af (λg=>?_) (λg=>?_)
 ·have g:(i:Int)<t.n.b:=g
  refine vi ?_;refine az (2*i) (aF wt) ?_;cases r with
  |error e=>
   refine ax (BC e.2 a.1 _ _) ?_;refine vi ?_;refine aw (i+1,.error e) ⟨Us,a⟩
  |ok p=>
   obtain⟨_,m⟩:=p;obtain⟨K,L,a⟩:=a;simp only at K a;rw[show u-i=(u-(i+1))+1 by omega]at a;simp only[qR]at a;obtain⟨_,_,f0,_⟩:=gM ht d (i:=i) Uo;have M:=pA hS hB hfg hr hcx hcl f0 (n:=m) Uo (D i Uo m Uo);cases v:fD B rs cx (kidD t (2*i)) m with
   |error e=>
    have o:=jc hr (dL (io hfg _ _) v);rw[v]at M a;refine ax M ?_;refine vi ?_;refine aw (i+1,.error e) ⟨Us,o,a⟩
   |ok q=>
    obtain⟨q1,y⟩:=q;obtain⟨c1,z,_⟩:=fQ hB hr (eb (io hfg _ _) v);simp only at z;rw[v]at M a;refine ax M ?_;refine vi ?_;refine aw (i+1,.ok ((),y)) ⟨Us,Us,λ_=>c1,a⟩
 have g:¬ (i:Int)<t.n.b:=g;obtain rfl:i=u:=Uo
 cases r with
 |error e=>
  obtain⟨o,a⟩:=a;subst a;exact vE o<|eP9
 |ok p=>
 obtain⟨_,m⟩:=p;obtain⟨K,L,a⟩:=a;have L:=L Uo;simp only at K a;rw[Nat.sub_self]at a;have a:T () m=l:=a;rw[F]at a;simp only at a;have s:=s L;have H:=ng hcx Uo ht d;have U:(cx++aQ t).length=cx.length+i:=by rw[JK,oq,E]
 refine v0<|ae (jx wt) ?_;refine bV (NE hB ht d) (λA=>?_) (λA=>?_);rotate_left
 ·have A:=of_decide_eq_false A
  have P:=(O8 B t).resolve_left A;rw[KX A,P]at a;subst a;refine vk ?_;refine aB τok (σ:=Unit) [(0,_),(1,_),(2,_),(7,_),(8,_),(24,vI 0)] [(7,_),(0,.st 1 103 ((cC B m 18).map .p))] (λ_=>[]) (λ_=>[]) (λ_=>True) (λ_=>0) () trivial ?_;rintro⟨⟩ -
  refine aj<|vy (p:=(0:Int)<t.n.b) ?_;refine vn (p:=(18:Int)=0) ?_ UO;refine vi ?_;refine az (2*t.n.a.toNat) (aF wt) ?_;refine ax (qV m (.inl UO) _) ?_;exact eP9
 have A:=of_decide_eq_true A;rw[KY Uo]at a;refine vk ?_;refine aB τok (σ:=Nat×RS Unit) [(0,_),(1,_),(2,_),(7,_),(8,_)] [(7,_)] (λq=>[(24,vI q.1)]) (λq=>[(0,.st 1 103 ((dS B q.2).map .p))]) (λq=>q.1<=i/\(match q.2 with
  | .ok p=>p.2<=n/\aY (py B rs (cx++aQ t) t i (i-q.1) q.1 p.2) (λ_ n=>.ok (kidD t (2*t.n.a.toNat),n))=l
  | .error e=>e.1≠0/\ .error e=l)) (λq=>i-q.1) (0,.ok ((),m)) ⟨KV _,K,a⟩ ?_
 clear a
 rintro⟨j,r⟩ ⟨Z,a⟩;simp only at Z a;refine aj ?_;cases r with
 |error e=>
  obtain⟨o,a⟩:=a;subst a;refine af (λC=>?_) (λC=>?_)
  ·refine vF o ?_
   refine vi ?_;refine az (2*t.n.a.toNat) (aF wt) ?_;refine ax (qV e.2 (.inl o) _) ?_;rw[KY o];exact eP9
  ·refine vi ?_
   refine az (2*t.n.a.toNat) (aF wt) ?_;refine ax (qV e.2 (.inl o) _) ?_;rw[KY o];exact eP9
 |ok p=>
 obtain⟨_,y⟩:=p;obtain⟨z,a⟩:=a;simp only at z a;refine af (λC=>?_) (λC=>?_)
 ·have C:(j:Int)<t.n.b:=C
  refine vz ?_;rw[show i-j=(i-(j+1))+1 by omega]at a;simp only[py]at a;obtain⟨_,_,f0,f1⟩:=gM ht d (i:=j) Uo;have R:=f0.lift (qk B) (b:=(i:Int)) Uo Uo Uo;refine vi ?_;refine az (2*j) (aF wt) ?_;refine ae (qI (x:=kidD t (2*j)) (aC f0) (f0.small Uo) (b:=t.n.b) (fr:=0) Uo Uo) ?_;refine ax (ip y _) ?_;refine vk ?_;have hI:cy cx t (2*j+1)=cx++aQ t:=by
   unfold cy;rw[KY Uo,KX Uo]
  have I:=wP (cx:=cx) (qk B) ht Uo Uo Uo (2*j+1) Uo;rw[hI]at I;refine vi ?_;refine vi ?_;refine ae I ?_;refine vi ?_;refine vi ?_;refine az (2*j+1) (aF wt) ?_;have f1:Ft (QB B) ((cx++aQ t).length:Int) (kidD t (2*j+1)):=f1.mono Uo;have R:Ft (QB B) ((cx++aQ t).length:Int) (aK (kidD t (2*j)) i 0):=R.mono Uo;have N:=wX hS hB hfg hr H Uo f1 R (n:=y) Uo (s j Uo y Uo);rw[O];cases v:iL B rs (cx++aQ t) (kidD t (2*j+1)) (aK (kidD t (2*j)) i 0) y with
  |error e=>
   have o:=oz hr (dL (mq hfg _ _ _) v);rw[v]at N a;refine ax N ?_;refine vk ?_;refine vi ?_;refine aw (j+1,.error e) ⟨Us,o,a⟩
  |ok q=>
   obtain⟨_,m2⟩:=q;have S:=(mb hr (eb (mq hfg _ _ _) v)).2;simp only at S;rw[v]at N a;refine ax N ?_;refine vk ?_;refine vi ?_;refine aw (j+1,.ok ((),m2)) ⟨Us,Us,a⟩
 ·have C:¬ (j:Int)<t.n.b:=C
  obtain rfl:j=i:=Uo
  rw[Nat.sub_self]at a;obtain rfl:(.ok (kidD t (2*t.n.a.toNat),y):RS Tr)=l:=a;refine vi ?_;refine az (2*t.n.a.toNat) (aF wt) ?_;refine ax (ip y _) ?_;exact eP9
end
def qX(B:ak)(rs:RcS)(g:Nat):Prop:=∀(cx:Ctx) (k:Nat) (t:Tr) (n:Nat),CxOk B cx ->cx.length<=260 ->Ft (QB B) (cx.length:Int) t ->Mt k t ->k*5000+(row t).length<=g ->n<=100000 ->ec B rs cx t n
section
variable{B:ak}{n g:Nat}{rs:RcS}{rc:RcJ}
variable(hS:dG B)(hB:GoodB B)(hfg:Fg rs rc)(hr:cG B rc)
include hS hB hfg hr
theorem Pa(O:qX B rs g)(hn:n<=100000){a:Int}(ha:bF B B.ents.length a=true)(U:a.toNat*5000+4096<=g):VP prog 160 103 (cC B n 0) (dS B (nG B rs a n)) [pI a] (BA (nG B rs a n)):=by
 obtain⟨i,x,s,f,qi,rfl,_,F,P,u⟩:=hB.fam ha (KJ _);obtain⟨H,e2,e3⟩:=u.ps_eq F;have U:i*5000+4096<=g:=by simpa using U
 generalize d:nG B rs (i:Int) n=v;unfold nG at d;rw[H,P]at d;have Z:=u.lp;have a0:=u.lc;have l1:=au cd x.ctors;have l2:=au (λt=>[ah t]) x.params;have l3:=KG List.length u.params;rw[KF]at l3;refine aP (r:=.ok (_,_)) 87 [.tmp 4] τok func160 ?_;refine aj<|de i F ?_;refine af (λI=>?_) (λI=>?_)
 ·have I:¬ ((x.ctors.map cd).length:Int)=1:=I
  refine af (λz=>?_) (λz=>?_)
  ·have z:((x.ctors.map cd).length:Int)=0:=z
   rw[KX Uo]at d;subst d;exact eP9
  ·have z:¬ ((x.ctors.map cd).length:Int)=0:=z
   rw[KY Uo,KX Uo]at d;subst d;exact eP9
 have I:¬ ¬ ((x.ctors.map cd).length:Int)=1:=I;rw[KY Uo,KY Uo]at d;obtain⟨c,K,_⟩:=ay (l:=x.ctors) (k:=0);obtain⟨o,go,C⟩:=u.ct 0 c K;obtain⟨R,V,e6⟩:=C.ag_eq F K;have R:ja B (i:Int) 0=o:=R;rw[R]at d;have a1:=C.la;have l4:=au (λt=>[ah t]) c.args;have l5:=KG List.length C.args;rw[KF]at l5;have L:∀(k:Nat) y,f[k]?=some y ->Ft (QB B) (k:Int) y:=λk y A=>u.up_p hB F A;refine dC 6 1000 87 2 rfl rfl<|aB τok (σ:=Nat) [(0,_),(1,_),(5,_)] [(0,_),(5,_)] (λj=>[(6,.c (.row 1000)),(7,vI j)]) (λj=>[(1000,.rw 87 2 (((cr (f.take j)).map aA).map bdP))]) (λj=>j<=f.length) (λj=>f.length-j) 0 (KV _) ?_;intro j W;have V:(f.take j).length=j:=by rw[VJ];omega
 have e7:((cr (f.take j)).map aA).length=j:=by rw[KF,te,V]
 refine aj<|af (λg=>?_) (λg=>?_)
 ·have g:(j:Int)<((x.params.map λt=>[ah t]).length:Int):=g
  obtain⟨p,D,_⟩:=ay (l:=f) (k:=j);refine az j (x:=row p) (by rw[u.params,JX,D];rfl) ?_;refine bi ?_ (hb:=by rw[au];omega);refine vi ?_;exact aw (j+1) (by show j+1<=_;omega) (sw 1000 42) (y':=⟨KG (λl=>some (SE.rw _ _ l)) (by
   rw[dB D,wD,KB,KB]
   rfl),trivial⟩)
 have g:¬ (j:Int)<((x.params.map λt=>[ah t]).length:Int):=g;obtain rfl:j=f.length:=Uo
 show VCode _ _ _ _ _;refine nV 6 1000 ?_;refine aB τok (σ:=Nat×Nat) [(0,_),(5,_)] [(5,_)] (λq=>[(6,vP (aH ((cr (f++o.take q.1)).map aA))),(8,vI q.1)]) (λq=>[(0,.st 1 103 ((cC B q.2 0).map .p))]) (λq=>q.1<=o.length/\q.2<=n/\px B rs (cr (f++o.take q.1)) (o.drop q.1) q.2=v) (λq=>o.length-q.1) (0,n) ⟨KV _,KJ _,by simpa using d⟩ ?_ (x1:=⟨by simp[aH];rfl,rfl,trivial⟩)
 clear d
 rintro⟨j,m⟩ ⟨W,hm,b⟩;simp only at W hm b;refine aj<|gI 0 K ?_;refine af (λg=>?_) (λg=>?_);rotate_left
 ·have g:¬ (j:Int)<((c.args.map λt=>[ah t]).length:Int):=g
  obtain rfl:j=o.length:=Uo
  rw[List.drop_length]at b;obtain rfl:(.ok (true,m):RS Bool)=v:=b;exact eP9
 have g:(j:Int)<((c.args.map λt=>[ah t]).length:Int):=g;obtain⟨p,D,hd⟩:=ay (l:=o) (k:=j);rw[hd]at b;simp only[px]at b;have M:(cr (f++o.take j)).length=f.length+j:=by rw[te];simp;omega
 have E:Ft (QB B) ((cr (f++o.take j)).length:Int) p:=by rw[M];exact C.up_a F u.kind D
 have hcx:CxOk B (cr (f++o.take j)):=wE λk y A=>by
  by_cases hk:k<f.length
  ·rw[QH hk]at A
   exact L k y A
  ·rw[QU Uo]at A
   rw[List.getElem?_take]at A;split at A
   ·have:=C.up_a F u.kind A
    exact this.mono Uo
   ·cases A
 have N:=pA hS hB hfg hr hcx Uo E (n:=m) Uo (O _ i _ _ hcx Uo E (GU (C.fa j p D)) (by have:=E.len;omega) Uo);refine gI 0 K ?_;refine az j (x:=row p) (by rw[C.args,JX,D];rfl) ?_;cases H:fD B rs (cr (f++o.take j)) p m with
 |error e=>
  have he:=jc hr (dL (io hfg _ _) H);rw[H]at N b;obtain rfl:(.error e:RS Bool)=v:=b;refine ax N ?_;exact vE he<|eP9
 |ok q=>
 obtain⟨⟨kd,lv⟩,S⟩:=q;obtain⟨_,T,_⟩:=fQ hB hr (eb (io hfg _ _) H);simp only at T;rw[H]at N b;have b:(if kd≠0 then .ok (false,S)else px B rs (cr (f++o.take j)++[(p,none)]) (o.drop (j+1)) S)=v:=b;refine ax N ?_;refine v0<|af (λz=>?_) (λz=>?_)
 ·rw[KX z]at b
  subst b;exact eP9
 rw[KY z]at b;refine gI 0 K ?_;refine az j (x:=row p) (by rw[C.args,JX,D];rfl) ?_;refine ae (ln (cx:=cr (f++o.take j)) p none Uo) ?_;refine vi ?_;have Y:cr (f++o.take (j+1))=cr (f++o.take j)++[(p,none)]:=by rw[dB D,<- List.append_assoc,wD]
 exact aw (j+1,S) ⟨Us,Us,by simp only;rw[Y];exact b⟩ (x:=⟨KG (λc:Ctx=>some (vP (aH (c.map aA)))) Y.symm,rfl,trivial⟩)
end
end Go.Q
