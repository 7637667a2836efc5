import Derived.Test.YtjnjbghlemiklaaGreatMk09
set_option linter.unusedVariables false
set_option linter.unusedSimpArgs false
set_option linter.unusedSectionVars false
set_option maxRecDepth 100000
set_option maxHeartbeats 4000000
open Go.Proofs.Tryz
namespace Go.Proofs.YtjnjbghlemiklaaGreat
open Go.Wx Cd Tm Lv
def mO(t:List Nd)(i:Nat):Int:=if i=0 then -1 else ((t[i]?).map (·.a)).getD 0
theorem Ji{n:Nd}{r:List Nd}(h2:n.op=2)(y:aw n=true)(N:(n::r).length<=1000000):VC prog 114 [ah (n::r)] (gn (n::r)):=by
 have o:=BF (n::r) (a:=0) (n:=n) rfl h2 y;have Z:=cY y;have z:aD n=true:=by simp[aD,y,h2]
 have A:bv n=0:=by simp[bv,h2]
 have b:gc (n::r) n.b.toNat (-1) (0+1)=none ->PV.tup [z6P,pI 0,.bool false]=gn (n::r):=λh=>yi (by rw[o,h]);have O:=xu n;rw[z,A]at O;have Q:=ak ndP (n::r);refine vf 183 [.cell 2 111,.tmp 3,.tmp 4] τok func114 ?_;refine vn ?_ (by rw[Q,JV];omega);refine vm 0 rfl ?_;refine af O ?_;refine vm 0 rfl ?_;refine vm 0 rfl ?_;refine vy ?_;refine lw 7 4 1001 42 3 rfl rfl rfl (by decide) ?_;refine aB τok (σ:=Nat) [(0,_),(2,_),(3,_),(4,_),(5,_),(7,_)] [(2,_)] (λi=>[(8,vI ((1+i:Nat):Int)),(9,vI i)]) (λi=>[(7,.st 0 111 [.p (pI n.op),.p (pI n.a),.p (pI n.b),.p (.raw (.slice none 0 0)),.row 1001,.p (.raw (.slice none 0 0))]),(1001,.rw 42 3 ((r.take i).map ndP))]) (λi=>i<=n.b.toNat/\i<=r.length/\gc (n::r) n.b.toNat (-1) (0+1)=gc (n::r) (n.b.toNat-i) (mO (n::r) i) (1+i)) (λi=>n.b.toNat-i) 0 ⟨KV _,KV _,rfl⟩ ?_;rintro i ⟨h1,R,t⟩;rw[t]at o b;refine aj τok ?_;refine vm 0 rfl ?_;refine ae (λg=>?_) (λg=>?_)
 ·obtain⟨c,D⟩:∃c,n.b.toNat-i=c+1:=⟨n.b.toNat-i-1,by omega⟩
  rw[D]at o b t;simp only[gc]at o b t;refine ae (λS=>?_) (λS=>?_)
  ·rw[List.getElem?_eq_none (by omega)]at b
   exact vk ⟨_,_,rfl,rfl,b rfl⟩
  ·obtain⟨m,j⟩:∃m,(n::r)[1+i]?=some m:=⟨_,gE⟩
   rw[j]at b t;simp only at b t;refine vm (1+i) j ?_;refine ae (λs=>?_) (λs=>?_)
   ·exact vk ⟨_,_,rfl,rfl,b (if_neg λq=>s q.1)⟩
   have s:m.op=3:=by omega
   refine vm (1+i) j ?_;refine bB (iC _ _ _) (λu=>?_) (λu=>?_)
   ·refine vm (1+i) j ?_
    refine bB (iC _ _ _) (λE=>?_) (λE=>?_)
    ·have F:aw m=true:=by simp[aw,s,u,E]
     have H:mO (n::r) i<m.a ->gc (n::r) n.b.toNat (-1) (0+1)=gc (n::r) (n.b.toNat-(i+1)) (mO (n::r) (i+1)) (1+(i+1)):=λT=>by
      rw[t,if_pos ⟨s,F,T⟩,show n.b.toNat-(i+1)=c by omega];have e:mO (n::r) (i+1)=m.a:=by
       unfold mO;rw[if_neg (by omega),Nat.add_comm i 1,j]
       rfl
      rw[e]
      rfl
     have P:(r.take i).map ndP++[ndP m]=(r.take (i+1)).map ndP:=by
      have I:r[i]?=some m:=by rwa [Nat.add_comm,List.getElem?_cons_succ]at j
      rw[List.take_add_one,I];simp
     refine ae (λU=>?_) (λU=>?_)
     ·obtain⟨p,v⟩:∃p,(n::r)[i]?=some p:=⟨_,List.getElem?_eq_getElem (by rw[JV];omega)⟩
      have K:mO (n::r) i=p.a:=by unfold mO;rw[if_neg (by omega),v];rfl
      rw[K]at b H;refine vm (1+i) j ?_;refine vi ?_;refine vm i v ?_;refine ae (λV=>?_) (λV=>?_)
      ·exact vk ⟨_,_,rfl,rfl,b (if_neg λq=>by have:=q.2.2;omega)⟩
      ·refine vk ?_
       refine vm (1+i) j ?_;refine bi ?_;refine vk ?_;refine vi ?_;refine vi ?_;exact au (i+1) ⟨by omega,by have:=aH j;rw[JV]at this;omega,H (by omega)⟩ (sw 1001 101) (y':=⟨rfl,congrArg (λl=>some (SE.rw _ _ l)) P,trivial⟩)
     ·refine vk ?_
      refine vm (1+i) j ?_;refine bi ?_;refine vk ?_;refine vi ?_;refine vi ?_;exact au (i+1) ⟨by omega,by have:=aH j;rw[JV]at this;omega,H (by rw[mO,if_pos (by omega)];have:=dn.1 u;omega)⟩ (sw 1001 101) (y':=⟨rfl,congrArg (λl=>some (SE.rw _ _ l)) P,trivial⟩)
    ·exact vk ⟨_,_,rfl,rfl,b (if_neg λq=>by simp[aw,s,u,E]at q)⟩
   ·exact vk ⟨_,_,rfl,rfl,b (if_neg λq=>by simp[aw,s,u]at q)⟩
 ·rw[show n.b.toNat-i=0 by omega]at o
  simp only[gc]at o;obtain⟨x,W,X,L,Y⟩:=DB o;have M:=Jg W h2 X L;refine aB τok (σ:=Unit) [(2,_),(3,_),(4,_),(5,_),(7,_),(8,_)] [(2,_),(7,_),(1001,_)] (λ_=>[(10,vI 0)]) (λ_=>[]) (λ_=>True) (λ_=>0) () True.intro ?_;rintro _ _;refine aj τok ?_;refine vn ?_;exact⟨_,_,rfl,rfl,by rw[Y,M,show 1+i-1=i by omega];rfl⟩
theorem qK(t:List Nd)(s:Md)(c a:Nat):gb t s (c+1) a=(endS t s a).bind (gb t s c):=by
 simp only[gb];cases endS t s a<;>rfl
theorem DC{t:List Nd}{n:Nd}{i a:Nat}(h:n.op=12 ->i%2=1)(hi:(i:Int)<bv n)(hb:n.op=12 ->bv n=2*n.b/\0<=n.b):ip t n i a=(endS t .tm a).bind (ip t n (i+1)):=by
 unfold ip
 by_cases c:n.op=12
 ·have:=h c
  rw[if_pos c,if_neg (by omega)]
  congr 1
  funext b
  rw[if_pos c,if_pos (by omega)]
 ·rw[if_neg c,show (bv n).toNat-i=(bv n).toNat-(i+1)+1 by omega,qK]
  congr 1
  funext b
  rw[if_neg c]
theorem Jj{t:List Nd}{n f:Nd}{i a:Nat}(b:n.op=12)(h:i%2=0)(hi:(i:Int)<bv n)(hb:n.op=12 ->bv n=2*n.b/\0<=n.b)(l:t[a]?=some f)(j:f.op=13)(m:aw f=true):ip t n i a=(endS t .tm (a+1)).bind (ip t n (i+1)):=by
 obtain⟨o,b2⟩:=hb b;unfold ip;rw[if_pos b,if_pos h,show n.b.toNat-i/2=n.b.toNat-(i+1+1)/2+1 by omega,qK,qt t .fn l (c:=2) (by simp[cnt,j,m]) (λe=>by cases e) (s':=.tm) (λk=>rfl) (by omega),qK t .tm 1];cases endS t .tm (a+1)with
 |none=>rfl
 |some e=>
  simp only[Option.bind_some,if_pos b];rw[if_neg (by omega),qK t .tm 0];cases endS t .tm e<;>rfl
theorem DD{t:List Nd}{n:Nd}{i a:Nat}(b:n.op=12)(h:i%2=0)(hi:(i:Int)<bv n)(hb:n.op=12 ->bv n=2*n.b/\0<=n.b)(c:∀f,t[a]?=some f ->¬ (f.op=13/\aw f=true)):ip t n i a=none:=by
 obtain⟨j,b2⟩:=hb b;unfold ip;rw[if_pos b,if_pos h,show n.b.toNat-i/2=n.b.toNat-(i+1+1)/2+1 by omega,qK,sP t .fn λf h=>by
  simp only[cnt];rw[if_neg (c f h)]]
 rfl
theorem Jk(t:List Nd)(a:Nat):PV.sl (((t.map ndP).take (t.map ndP).length).drop a)=ah (t.drop a):=by
 rw[List.take_length,<- List.map_drop]
 rfl
theorem Jl{n:Nd}{r:List Nd}(h2:n.op≠2)(I:aD n=true)(a7:(n::r).length<=1000000)(ih:∀a,1<=a ->a<=(n::r).length ->VC prog 114 [ah ((n::r).drop a)] (gn ((n::r).drop a))):VC prog 114 [ah (n::r)] (gn (n::r)):=by
 have A:aw n=true/\n.op≠3/\n.op≠13:=by simpa[aD]using I
 obtain⟨A,h3,D⟩:=A;have Y:=cY A;have t:n.op=12 ->bv n=2*n.b/\0<=n.b:=λb=>by
  have L:IntKind.i64.wrap (2*n.b)=2*n.b:=by rw[IntKind.wrap_i64];omega
  exact⟨by simp[bv,b,L],Y.1⟩
 have a8:0<=bv n/\bv n<=100:=by
  have hk:=ml A
  by_cases b:n.op=12
  ·have:=t b
   have:aE n.b 1 4=true:=by simp[aw,b]at A;exact A.1
   have:=dn.1 this;omega
  ·have L:IntKind.i64.wrap (2+n.b)=2+n.b:=by rw[IntKind.wrap_i64];omega
   have:bq n=bv n:=by
    simp only[bq,bv,b,D,if_false,L,or_false]
    repeat' split
    all_goals first|rfl|omega
   omega
 have hE:endS (n::r) .tm 0=ip (n::r) n 0 1:=by
  have M:cnt .tm n=some (bq n).toNat:=by simp[cnt,A,h3,D,h2]
  unfold ip
  by_cases b:n.op=12
  ·have:=t b
   rw[if_pos b,if_pos (by decide),qt (n::r) .tm (a:=0) (n:=n) rfl M (λ_=>h2) (s':=.fn) (λk=>by simp[nx,b]) h2]
   congr 1
   simp[bq,b]
  ·rw[if_neg b,qt (n::r) .tm (a:=0) (n:=n) rfl M (λ_=>h2) (s':=.tm) (λk=>by simp[nx,b,h2]) h2]
   have L:IntKind.i64.wrap (2+n.b)=2+n.b:=by rw[IntKind.wrap_i64];omega
   have:bq n=bv n:=by
    simp only[bq,bv,b,D,if_false,L,or_false]
    repeat' split
    all_goals first|rfl|omega
   rw[this]
   rfl
 have M:=xu n;rw[I]at M;have eL:=ak ndP (n::r);have eC:(n::r).length=r.length+1:=rfl;refine cN 183 [.cell 2 111,.tmp 3,.tmp 4] τok func114 ?_;refine aj τok ?_;refine vn ?_;refine vm 0 rfl ?_;refine af M ?_;refine vm 0 rfl ?_;refine vm 0 rfl ?_;refine vn ?_;refine lw 7 3 1000 111 6 rfl rfl rfl (by decide) ?_;refine lw 7 5 1002 42 3 rfl rfl rfl (by decide) ?_;refine aB τok (σ:=Nat×Nat×List Tr×List Nd) [(0,_),(2,_),(3,_),(4,_),(5,_),(7,_)] [(2,_)] (λq=>[(8,vI (q.2.1:Int)),(10,vI q.1)]) (λq=>[(7,.st 0 111 [.p (pI n.op),.p (pI n.a),.p (pI n.b),.row 1000,.p (.raw (.slice none 0 0)),.row 1002]),(1000,.rw 111 6 (q.2.2.1.map trP)),(1002,.rw 42 3 (q.2.2.2.map ndP))])
  (λq=>(q.1:Int)<=bv n/\1<=q.2.1/\q.2.1<=(n::r).length/\endS (n::r) .tm 0=ip (n::r) n q.1 q.2.1/\q.2.2.1.length=q.1/\(∀k∈q.2.2.1,Ok .tm k)/\(n.op=12 ->q.2.2.2.length=(q.1+1)/2)/\(n.op≠12 ->q.2.2.2=[])/\(n::r).take q.2.1=n::cj n.op q.2.2.2 0 q.2.2.1) (λq=>(bv n).toNat-q.1) (0,1,[],[]) ⟨by simp only;omega,by decide,by simp,hE,rfl,by simp,λ_=>rfl,λ_=>rfl,by simp[cj]⟩ ?_
 rintro⟨i,a,K,F⟩ ⟨g1,Z,g3,R,S,g6,N,T,U⟩;simp only at g1 Z g3 R S g6 N T U;have V:ip (n::r) n i a=none ->PV.tup [z6P,pI 0,.bool false]=gn (n::r):=λh=>yi (by rw[R,h]);refine aC τok ?_;refine ae (λg=>?_) (λg=>?_)
 ·refine VCode.seq (VCode.blk ?_)
  refine dJ τok (σ:=Nat×List Nd) [(0,_),(2,_),(3,_),(4,_),(5,_),(7,_),(10,_)] [(2,_),(1000,_)] (λq=>[(8,vI (q.1:Int))]) (λq=>[(7,.st 0 111 [.p (pI n.op),.p (pI n.a),.p (pI n.b),.row 1000,.p (.raw (.slice none 0 0)),.row 1002]),(1002,.rw 42 3 (q.2.map ndP))])
   (λq=>1<=q.1/\q.1<=(n::r).length/\ip (n::r) n i a=(endS (n::r) .tm q.1).bind (ip (n::r) n (i+1))/\(n.op=12 ->q.2.length=(i+2)/2)/\(n.op≠12 ->q.2=[])/\∀y,(n::r).take q.1++row y=n::cj n.op q.2 0 (K++[y])) ?_ ?_
  ·have v:∀y,(n::r).take a++((if n.op=12/\i%2=0 then (F[i/2]?).toList else [])++row y)=n::cj n.op F 0 (K++[y]):=λy=>by
    rw[yh,U,KW,S];simp
   refine vm 0 rfl ?_;refine ae (λb=>?_) (λb=>?_)
   ·refine om (by omega) (by omega) (by omega) ?_
    refine ae (λW=>?_) (λW=>?_)
    ·refine ae (λq1=>?_) (λq1=>?_)<;>simp only at q1
     ·exact⟨_,_,rfl,rfl,V (DD b (by omega) g t λf c=>by rw[List.getElem?_eq_none (by omega)]at c;cases c)⟩
     obtain⟨f,c⟩:∃f,(n::r)[a]?=some f:=⟨_,gE⟩
     have E:¬ (f.op=13/\aw f=true) ->PV.tup [z6P,pI 0,.bool false]=gn (n::r):=λq=>V (DD b (by omega) g t λf' O=>by rw[c]at O;obtain rfl:=JB O;exact q);refine vm a c ?_;refine ae (λH=>?_) (λH=>?_)
     ·exact⟨_,_,rfl,rfl,E λq=>H q.1⟩
     have H:f.op=13:=by omega
     refine vm a c ?_;refine bB (iC _ _ _) (λX=>?_) (λX=>?_)
     ·refine vm a c ?_
      refine ae (λq4=>?_) (λq4=>?_)
      ·exact⟨_,_,rfl,rfl,E λq=>by simp[aw,H,X,q4]at q⟩
      have a0:aw f=true:=by simp[aw,H,X];omega
      have a1:=Jj b (by omega) g t c H a0;refine vm a c ?_;refine bi ?_;refine vk ?_;refine vi ?_;refine au (a+1,F++[f]) ⟨by simp only;omega,aH c,a1,λ_=>by simp only[JK,List.length_singleton,N b];omega,λq=>absurd b q,λy=>?_⟩ (sw 1002 157);have a9:=N b;simp only;rw[yh,<- Dz (F:=F) K 0 λ_ j _ hj b0=>by rw[List.getElem?_append_left (by omega)],KW,S,if_pos ⟨b,by omega⟩,List.getElem?_append_right (by omega),List.take_add_one,c,U,show i/2-F.length=0 by omega];simp
     ·exact⟨_,_,rfl,rfl,E λq=>by simp[aw,H,X]at q⟩
    ·refine au (a,F) ⟨Z,g3,DC (λ_=>by omega) g t,λq=>by have:=N q;simp only;omega,T,λy=>?_⟩
     rw[<- v,if_neg λq=>W (by have:=q.2;simp only;omega)]
     rfl
   ·refine au (a,F) ⟨Z,g3,DC (λq=>absurd q b) g t,λq=>absurd q b,T,λy=>?_⟩
    rw[<- v,if_neg λq=>b q.1]
    rfl
  ·rintro⟨o,F'⟩ ⟨m1,m2,m3,m4,m5,m6⟩
   simp only at m1 m2 m3 m4 m5 m6;have s:=ih o m1 m2;rw[<- Jk]at s;have u:=tv m2;have a2:∀x∈(n::r).map ndP,x.length=3:=λx hx=>by
    obtain⟨m,_,rfl⟩:=List.mem_map.1 hx
    rfl
   refine aj τok ?_;refine bM o _ ?_ a2;cases P:jX ((n::r).drop o)with
   |none=>
    rw[P]at u;rw[m3,u]at V;rw[show gn ((n::r).drop o)= .tup [z6P,pI 0,.bool false] by unfold gn;rw[P]]at s;refine af s ?_;exact⟨_,_,rfl,rfl,V rfl⟩
   |some q=>
    obtain⟨y,r'⟩:=q;rw[P]at u;rw[show gn ((n::r).drop o)= .tup [bA y,pI ((((n::r).drop o).length-r'.length:Nat):Int),.bool true] by unfold gn;rw[P]]at s;obtain⟨Q,a3⟩:=yg P;have a4:=congrArg List.length Q;rw[JK,List.length_drop]at a4;have b1:=aR y;refine af s ?_;refine bi ?_;refine vi ?_ (by rw[List.length_drop];omega) (by rw[List.length_drop];omega);refine aj τok ?_;refine vi ?_;have e1:(o:Int)+((((n::r).drop o).length-r'.length:Nat):Int)=((o+(row y).length:Nat):Int):=by rw[List.length_drop];omega
    refine au (i+1,o+(row y).length,K++[y],F') ⟨by simp only;omega,by simp only;omega,by simp only;omega,?_,by simp[S],λk hk=>?_,λq=>by have:=m4 q;simp only;omega,m5,?_⟩ (sw 1000 176) (x:=⟨congrArg (λz=>some (vI z)) e1,rfl,trivial⟩) (y':=⟨rfl,congrArg (λl=>some (SE.rw _ _ l)) (by rw[List.map_append];exact congrArg (List.map trP K++[·]) (jR y).symm),rfl,trivial⟩)
    ·rw[R,m3,u]
     simp only[Option.map_some,Option.bind_some];rw[show (n::r).length-r'.length=o+(row y).length by omega]
    ·rcases List.mem_append.1 hk with h|h
     ·exact g6 k h
     ·obtain rfl:=List.mem_singleton.1 h
      exact a3
    ·simp only
     rw[<- m6 y,List.take_add,Q,List.take_left]
 ·have W:endS (n::r) .tm 0=some a:=by
   rw[R];unfold ip
   by_cases b:n.op=12
   ·have:=t b
    rw[if_pos b,if_pos (by omega),show n.b.toNat-i/2=0 by omega]
    rfl
   ·rw[if_neg b,show (bv n).toNat-i=0 by omega]
    rfl
  obtain⟨x,hx,ht,a5,hr⟩:=DB W;have a6:=Jh hx h2 ht a5 g6 (by omega) (λb=>by have:=N b;have:=t b;omega) T U;exact⟨_,_,rfl,rfl,by rw[hr,a6];rfl⟩
theorem Dc':∀(N:Nat) (t:List Nd),t.length<=N ->N<=1000000 ->VC prog 114 [ah t] (gn t):=by
 intro N
 induction N with
 |zero=>
  intro t h _;obtain rfl:t=[]:=List.length_eq_zero_iff.1 (by omega);refine vf 183 [.cell 2 111,.tmp 3,.tmp 4] τok func114 ?_;exact⟨_,_,rfl,rfl,rfl⟩
 |succ N j=>
  intro t h l;cases t with
  |nil=>
   refine vf 183 [.cell 2 111,.tmp 3,.tmp 4] τok func114 ?_;exact⟨_,_,rfl,rfl,rfl⟩
  |cons n r=>
   cases b:aD n with
   |false=>
    have c:=xu n;rw[b]at c;have m:=ak ndP (n::r);have eC:(n::r).length=r.length+1:=rfl;refine vf 183 [.cell 2 111,.tmp 3,.tmp 4] τok func114 ?_;refine vn ?_;refine vm 0 rfl ?_;refine af c ?_;exact⟨_,_,rfl,rfl,yi (Jf b)⟩
   |true=>
    by_cases i:n.op=2
    ·exact Ji i (by simp[aD]at b;exact b.1) (by omega)
    ·exact Jl i b (by omega) λa o p=>j _ (by rw[List.length_drop];omega) (by omega)
section
variable(f:Int ->Nd ->Tr)
mutual
def mT:Tr ->Int ->Int ->Tr
 | .mk n ks,d,nb=>if n.op=1 then f d n else .mk n (mK ks n nb 0 d)
def mK:List Tr ->Nd ->Int ->Int ->Int ->List Tr
 |[],_,_,_,_=>[]
 |x::r,n,nb,k,d=>mT x (d+arC n nb k) n.b::mK r n nb (k+1) d
end
end
theorem Jm{n:Nd}(h1:n.op=1)(b:aw n=true):0<=n.a/\n.a<=1048576/\n.b=0:=by
 have a:aE n.a 0 1048576=true/\n.b=0:=by simpa[aw,h1]using b
 have:=dn.1 a.1;exact⟨this.1,this.2,a.2⟩
section
variable{f g f3:Int ->Nd ->Tr}{h:Int ->Nd ->Option Tr}
theorem qL{n:Nd}{ks:List Tr}{d nb:Int}(h1:n.op=1):mT f (.mk n ks) d nb=f d n:=by simp[mT,h1]
theorem nN{n:Nd}{ks:List Tr}{d nb:Int}(h1:n.op≠1):mT f (.mk n ks) d nb= .mk n (mK f ks n nb 0 d):=by simp[mT,h1]
mutual
theorem wi':∀(x:Tr) (s:Md) (d nb:Int),okT cnt nx x s ->(∀q∈varsT x d nb,∀n:Nd,n.op=1 ->aw n=true ->n.a=q.1 ->h q.2 n=some (f q.2 n)) ->gT h x d nb=some (mT f x d nb)
 | .mk n ks,s,d,nb,b,H=>by
  have c:=fs' (.mk n ks) s b n (by simp[row]);obtain⟨j,hk⟩:=b
  by_cases a:n.op=1
  ·simp only[gT,mT,if_pos a]
   exact H (n.a,d) (by simp[varsT,a]) n a c rfl
  ·simp only[gT,mT,if_neg a]
   rw[De' ks n s nb 0 d 0 hk λq i=>H q (by simpa[varsT,a]using i)]
theorem De':∀(ks:List Tr) (n:Nd) (s:Md) (nb k d:Int) (j:Nat),okL cnt nx ks n s j ->(∀q∈varsK ks n nb k d,∀n:Nd,n.op=1 ->aw n=true ->n.a=q.1 ->h q.2 n=some (f q.2 n)) ->gK h ks n nb k d=some (mK f ks n nb k d)
 |[],n,s,nb,k,d,j,_,_=>rfl
 |x::r,n,s,nb,k,d,j,hk,H=>by
  obtain⟨b,hr⟩:=hk;simp only[gK,mK];rw[wi' x (nx s n j) _ _ b λq a=>H q (by simp[varsK,a]),De' r n s nb (k+1) d (j+1) hr λq a=>H q (by simp[varsK,a])]
end
variable{e:Int}
mutual
theorem tR':∀(x:Tr) (s:Md) (d nb:Int),okT cnt nx x s ->(∀q∈varsT x d nb,∀n:Nd,n.op=1 ->aw n=true ->n.a=q.1 ->f (q.2+e) n=f3 q.2 n) ->mT f x (d+e) nb=mT f3 x d nb
 | .mk n ks,s,d,nb,b,H=>by
  have c:=fs' (.mk n ks) s b n (by simp[row]);obtain⟨j,hk⟩:=b
  by_cases a:n.op=1
  ·rw[qL a,qL a]
   exact H (n.a,d) (by simp[varsT,a]) n a c rfl
  ·rw[nN a,nN a,xS' ks n s nb 0 d 0 hk λq i=>H q (by simpa[varsT,a]using i)]
theorem xS':∀(ks:List Tr) (n:Nd) (s:Md) (nb k d:Int) (j:Nat),okL cnt nx ks n s j ->(∀q∈varsK ks n nb k d,∀n:Nd,n.op=1 ->aw n=true ->n.a=q.1 ->f (q.2+e) n=f3 q.2 n) ->mK f ks n nb k (d+e)=mK f3 ks n nb k d
 |[],n,s,nb,k,d,j,_,_=>rfl
 |x::r,n,s,nb,k,d,j,hk,H=>by
  obtain⟨b,hr⟩:=hk;simp only[mK];rw[show d+e+arC n nb k=d+arC n nb k+e by omega,tR' x (nx s n j) _ _ b λq a=>H q (by simp[varsK,a]),xS' r n s nb (k+1) d (j+1) hr λq a=>H q (by simp[varsK,a])]
end
mutual
theorem tS':∀(x:Tr) (s:Md) (d nb:Int),okT cnt nx x s ->(∀q∈varsT x d nb,∀n:Nd,n.op=1 ->aw n=true ->n.a=q.1 ->f (q.2+e) n= .mk n []) ->mT f x (d+e) nb=x
 | .mk n ks,s,d,nb,b,H=>by
  have c:=fs' (.mk n ks) s b n (by simp[row]);obtain⟨i,hk⟩:=b
  by_cases a:n.op=1
  ·have:ks=[]:=List.length_eq_zero_iff.1 (oz i a)
   subst this;rw[qL a];exact H (n.a,d) (by simp[varsT,a]) n a c rfl
  ·rw[nN a,tT' ks n s nb 0 d 0 hk λq j=>H q (by simpa[varsT,a]using j)]
theorem tT':∀(ks:List Tr) (n:Nd) (s:Md) (nb k d:Int) (j:Nat),okL cnt nx ks n s j ->(∀q∈varsK ks n nb k d,∀n:Nd,n.op=1 ->aw n=true ->n.a=q.1 ->f (q.2+e) n= .mk n []) ->mK f ks n nb k (d+e)=ks
 |[],n,s,nb,k,d,j,_,_=>rfl
 |x::r,n,s,nb,k,d,j,hk,H=>by
  obtain⟨b,hr⟩:=hk;simp only[mK];rw[show d+e+arC n nb k=d+arC n nb k+e by omega,tS' x (nx s n j) _ _ b λq a=>H q (by simp[varsK,a]),tT' r n s nb (k+1) d (j+1) hr λq a=>H q (by simp[varsK,a])]
end
theorem yj{x:Tr}(c:x.n.op≠13)(d nb a:Int):mT f x d nb=mT f x d a:=by
 obtain⟨n,b⟩:=x;have c:n.op≠13:=c;have hk:∀(b:List Tr) (k:Int),mK f b n nb k d=mK f b n a k d:=λb=>by
  induction b with
  |nil=>intro k;rfl
  |cons y r i=>intro k;simp only[mK,lz c,i]
 simp only[mT,hk]
end
def Jn(d:Int)(n:Nd):Nd:={n with a:=if d<=n.a then n.a+1 else n.a}
def Jo(d:Int)(n:Nd):Tr:=.mk (Jn d n) []
def up(k:Int)(x:Tr):Tr:=mT Jo x k 0
section
variable{x:Tr}{k:Int}
def Sm(x:Tr):Prop:=∀q∈varsT x 0 0,q.1<=400000/\0<=q.2/\q.2<=20000
end
def vK(n:Nd)(d:Int):List Tr ->Nat ->List (Int×Int)
 |[],_=>[]
 |y::r,i=>varsT y (d+kb n i) 0++vK n d r (i+1)
def gO(f:Int ->Nd ->Tr)(n:Nd)(d:Int):List Tr ->Nat ->List Tr
 |[],_=>[]
 |y::r,i=>mT f y (d+kb n i) 0::gO f n d r (i+1)
theorem yk{f:Int ->Nd ->Tr}{n:Nd}{d:Int}:∀(l:List Tr) (i:Nat),(gO f n d l i).length=l.length
 |[],_=>rfl
 |y::r,i=>by simp[gO,yk r]
section
variable{x:Tr}{f:Int ->Nd ->Tr}{d:Int}
theorem yl{n:Nd}{ks:List Tr}(l:Ok .tm (.mk n ks))(a:n.op=12):∀y∈ks,Ok .fn y:=λy m=>by
 obtain⟨p,b,o⟩:=l.kids;obtain⟨j,c⟩:=JH m;have i:=iU ks 0 j y b c;rw[show nx Md.tm n (0+j)= .fn by simp[nx,a]]at i;exact⟨i,dG' ks j y o c⟩
theorem DE{n:Nd}{ks:List Tr}(l:Ok .tm (.mk n ks))(h2:n.op≠2)(a:n.op≠12):∀y∈ks,Ok .tm y:=λy m=>by
 obtain⟨p,b,o⟩:=l.kids;obtain⟨j,c⟩:=JH m;have i:=iU ks 0 j y b c;rw[show nx Md.tm n (0+j)= .tm by simp[nx,h2,a]]at i;exact⟨i,dG' ks j y o c⟩
theorem tw{n:Nd}{ks:List Tr}(c:Ok .tm (.mk n ks))(h2:n.op=2):∀y∈ks,∃m,y= .mk m []/\m.op=3:=λy i=>by
 obtain⟨o,b,p⟩:=c.kids;obtain⟨j,l⟩:=JH i;have a:=iU ks 0 j y b l;rw[show nx Md.tm n (0+j)= .am by simp[nx,h2]]at a;obtain⟨m,q⟩:=y;have a:=a.1;simp only[cnt]at a;split at a
 ·rename_i h
  exact⟨m,by rw[List.length_eq_zero_iff.1 (JB a).symm],h.1⟩
 ·cases a
theorem DF{n:Nd}(a:n.op=12):∀(ks:List Tr) (j:Int) (i:Nat),(∀y∈ks,Ok .fn y) ->i%2=0 ->varsK ks n 0 j d=vK n d (ks.flatMap (·.ks)) i
 |[],j,i,_,_=>rfl
 |y::r,j,i,o,hi=>by
  obtain⟨g,ty,bo,rfl,b,_,c,l⟩:=(o y (by simp)).fn;have p:varsT (.mk g [ty,bo]) (d+arC n 0 j) n.b=varsT ty d 0++varsT bo (d+n.b) 0:=by
   rw[show d+arC n 0 j=d by simp[arC,aX,a]];simp only[varsT,varsK,if_neg (show ¬ g.op=1 by omega),JD];rw[sU c.n13 _ _ 0,sU l.n13 _ _ 0,show d+arC g n.b 0=d by simp[arC,b],show d+arC g n.b (0+1)=d+n.b by simp[arC,b]]
  have m:(Tr.mk g [ty,bo]).ks=[ty,bo]:=rfl;simp only[varsK,p,List.flatMap_cons,m,List.cons_append,List.nil_append,vK];rw[DF a r (j+1) (i+1+1) (λz q=>o z (by simp[q])) (by omega)];have s:kb n i=0:=by simp[kb,a];omega
  have t:kb n (i+1)=n.b:=by simp[kb,a];omega
  rw[s,t];simp
theorem DG{n:Nd}(a:n.op≠12)(b:n.op≠13):∀(ks:List Tr) (i:Nat),(∀y∈ks,Ok .tm y) ->varsK ks n 0 i d=vK n d ks i
 |[],i,_=>rfl
 |y::r,i,c=>by
  have:=DG a b r (i+1) λz j=>c z (by simp[j]);simp only[varsK,vK];rw[show (i:Int)+1=((i+1:Nat):Int) by omega,this,sU (c y (by simp)).n13 _ _ 0];simp[kb,a,arC,b]
theorem ym(i:Ok .tm x)(h1:x.n.op≠1):varsT x d 0=vK x.n d (kidsT x) 0:=by
 obtain⟨n,b⟩:=x;obtain⟨u,q,p⟩:=i.tm;have h1:n.op≠1:=h1;have e:varsT (.mk n b) d 0=varsK b n 0 0 d:=by simp[varsT,h1]
 rw[e]
 by_cases o:n.op=2
 ·have c:kidsT (.mk n b)=[]:=by simp[kidsT,o]
  rw[c];have:∀(l:List Tr) (j:Int),(∀y∈l,∃m,y= .mk m []/\m.op=3) ->varsK l n 0 j d=[]:=by
   intro l
   induction l with
   |nil=>intros;rfl
   |cons y r s=>
    intro j h;obtain⟨m,rfl,q⟩:=h y (by simp);simp only[varsK,varsT,if_neg (show ¬ m.op=1 by omega),List.nil_append];exact s _ λz t=>h z (by simp[t])
  rw[this b 0 (tw i o)]
  rfl
 by_cases a:n.op=12
 ·have c:kidsT (.mk n b)=b.flatMap (·.ks):=by simp[kidsT,a]
  rw[c];exact DF a b 0 0 (yl i a) rfl
 ·have c:kidsT (.mk n b)=b:=by simp[kidsT,o,a]
  rw[c];exact DG a p b 0 (DE i o a)
theorem DH{n:Nd}(c:n.op=12):∀(ks:List Tr) (j:Int) (i:Nat),(∀y∈ks,Ok .fn y) ->i%2=0 ->(mK f ks n 0 j d).flatMap (·.ks)=gO f n d (ks.flatMap (·.ks)) i/\(mK f ks n 0 j d).map (·.n)=ks.map (·.n)
 |[],j,i,_,_=>⟨rfl,rfl⟩
 |y::r,j,i,q,hi=>by
  obtain⟨g,ty,bo,rfl,l,_,m,o⟩:=(q y (by simp)).fn;obtain⟨s,t⟩:=DH c r (j+1) (i+1+1) (λz u=>q z (by simp[u])) (by omega);have v:mT f (.mk g [ty,bo]) (d+arC n 0 j) n.b= .mk g [mT f ty d 0,mT f bo (d+n.b) 0]:=by
   rw[nN (by omega),show d+arC n 0 j=d by simp[arC,aX,c]];simp only[mK];rw[yj m.n13 _ _ 0,yj o.n13 _ _ 0,show d+arC g n.b 0=d by simp[arC,l],show d+arC g n.b (0+1)=d+n.b by simp[arC,l]]
  have A:kb n i=0:=by simp[kb,c];omega
  have D:kb n (i+1)=n.b:=by simp[kb,c];omega
  have p:∀a b:Tr,(Tr.mk g [a,b]).ks=[a,b]:=λ_ _=>rfl;have E:∀a b:Tr,(Tr.mk g [a,b]).n=g:=λ_ _=>rfl;simp only[mK,List.flatMap_cons,List.map_cons,v,p,E,s,t,gO,List.cons_append,List.nil_append,A,D,Int.add_zero,and_self]
theorem DI{n:Nd}(a:n.op≠12)(b:n.op≠13):∀(ks:List Tr) (i:Nat),(∀y∈ks,Ok .tm y) ->mK f ks n 0 i d=gO f n d ks i
 |[],i,_=>rfl
 |y::r,i,c=>by
  have:=DI a b r (i+1) λz j=>c z (by simp[j]);simp only[mK,gO];rw[show (i:Int)+1=((i+1:Nat):Int) by omega,this,yj (c y (by simp)).n13 _ _ 0];simp[kb,a,arC,b]
theorem yn(h1:x.n.op≠1):(mT f x d 0).n=x.n:=by
 obtain⟨n,a⟩:=x;rw[nN (show n.op≠1 from h1)]
 rfl
theorem Jp(p:Ok .tm x)(h1:x.n.op≠1):kidsT (mT f x d 0)=gO f x.n d (kidsT x) 0/\atmsT (mT f x d 0)=atmsT x/\funsT (mT f x d 0)=funsT x:=by
 obtain⟨n,q⟩:=x;obtain⟨E,t,s⟩:=p.tm;have h1:n.op≠1:=h1;rw[nN h1]
 by_cases i:n.op=2
 ·have b:∀l,kidsT (.mk n l)=[]:=λl=>by simp[kidsT,i]
  have o:∀l,atmsT (.mk n l)=l.map (·.n):=λl=>if_pos i;have c:∀l,funsT (.mk n l)=[]:=λl=>if_neg (show ¬ n.op=12 by omega);rw[b,b,o,o,c,c];refine⟨rfl,?_,rfl⟩;have:∀(l:List Tr) (j:Int),(∀y∈l,∃m,y= .mk m []/\m.op=3) ->(mK f l n 0 j d).map (·.n)=l.map (·.n):=by
   intro l
   induction l with
   |nil=>intros;rfl
   |cons y r u=>
    intro j h;obtain⟨m,rfl,t⟩:=h y (by simp);simp only[mK,List.map_cons];rw[nN (by omega),u _ λz v=>h z (by simp[v])]
    rfl
  exact this q 0 (tw p i)
 have o:∀l,atmsT (.mk n l)=[]:=λl=>if_neg i;rw[o,o]
 by_cases a:n.op=12
 ·have b:∀l,kidsT (.mk n l)=l.flatMap (·.ks):=λl=>by simp[kidsT,a]
  have c:∀l,funsT (.mk n l)=l.map (·.n):=λl=>if_pos a;obtain⟨A,D⟩:=DH (f:=f) (d:=d) a q 0 0 (yl p a) rfl;rw[b,b,c,c];exact⟨A,rfl,D⟩
 ·have b:∀l,kidsT (.mk n l)=l:=λl=>by simp[kidsT,i,a]
  have c:∀l,funsT (.mk n l)=[]:=λl=>if_neg a;rw[b,b,c,c];exact⟨DI a s q 0 (DE p i a),rfl,rfl⟩
theorem Jq(a:Ok .tm x)(h1:x.n.op≠1):bA (mT f x d 0)= .agg (eS x.n ((gO f x.n d (kidsT x) 0).map trP) ((atmsT x).map ndP) ((funsT x).map ndP)):=by
 obtain⟨b,c,i⟩:=Jp (f:=f) (d:=d) a h1;show PV.agg (eS _ _ _ _)=_;rw[b,c,i,yn h1]
theorem yp{n:Nd}{y:Tr}:∀(l:List Tr) (i:Nat),gO f n d (l++[y]) i=gO f n d l i++[mT f y (d+kb n (i+l.length)) 0]
 |[],i=>by simp[gO]
 |z::r,i=>by
  simp only[List.cons_append,gO,yp r (i+1),JV];rw[show i+1+r.length=i+(r.length+1) by omega]
end
theorem kJ(t:List Nd)(h:t.length<=1000000):VC prog 99 [ah t] (pI (eH t)):=by
 have n:=ak ndP t;refine vf 23 [.tmp 2] τok func99 ?_;refine ae (λg=>?_) (λg=>?_)
 ·exact⟨_,_,rfl,rfl,by unfold eH;rw[if_pos (by omega)];rfl⟩
 have b:=Dc' _ t (KJ _) (by omega);have a:=BJ t;rw[tv (by omega),List.drop_zero]at a;have c:¬ t.length>4096:=by omega
 unfold gn at b;cases i:jX t with
 |none=>
  rw[i]at b a;refine af b ?_;exact⟨_,_,rfl,rfl,by unfold eH;rw[if_neg c,if_neg λq=>by simpa using a.2 q];rfl⟩
 |some q=>
  obtain⟨x,r⟩:=q;obtain⟨j,o⟩:=yg i;have l:=congrArg List.length j;rw[JK]at l;rw[i]at b a;simp only[Option.map_some,Option.some.injEq]at b a;refine af b ?_;refine ae (λm=>?_) (λm=>?_)
  ·exact⟨_,_,rfl,rfl,by unfold eH;rw[if_neg c,if_neg λq=>by have:=a.2 q;omega];rfl⟩
  ·exact⟨_,_,rfl,rfl,by unfold eH;rw[if_neg c,if_pos (a.1 (by omega))];rfl⟩
theorem lL{x:Tr}(a:Wf x):eH (row x)=0:=jk a.ok a.len
theorem tx{t:List Nd}(h:eH t=0):∃x,Wf x/\t=row x:=by
 unfold eH at h;split at h
 ·cases h
 ·split at h
  ·rename_i i a
   obtain⟨x,b⟩:=Option.isSome_iff_exists.1 a;obtain⟨rfl,c⟩:=BH b;exact⟨x,⟨c,by omega⟩,rfl⟩
  ·cases h
theorem iI{x:Tr}(a:Wf x):VC prog 64 [ah (row x)] (.tup [bA x,.bool true]):=by
 have c:=kJ (row x) (by have:=a.len;omega);rw[lL a]at c;have b:=Dc' _ (row x) (KJ _) (by have:=a.len;omega);have:=yf a.ok [];rw[JD]at this;unfold gn at b;rw[this]at b;refine vf 18 [.cell 2 111,.tmp 3] τok func64 ?_;refine af c ?_;refine vn ?_;refine af b ?_;exact⟨_,_,rfl,rfl,rfl⟩
theorem iJ{x:Tr}(a:Wf x):VC prog 50 [ah (row x)] (bJ ((kidsT x).map row)):=by
 have n:=ak trP (kidsT x);have m:=gB a.ok;refine cN 29 [.tmp 2] τok func50 ?_;refine aj τok ?_;refine af (iI a) ?_;refine dD 5 1000 29 1 rfl rfl ?_;refine aB τok (σ:=Nat) [(3,_)] [(3,_)] (λi=>[(5,.c (.row 1000)),(6,vI i)]) (λi=>[(1000,.rw 29 1 (((kidsT x).take i).map λy=>[ah (row y)]))]) (λi=>i<=(kidsT x).length) (λi=>(kidsT x).length-i) 0 (KV _) ?_;rintro i o;refine aj τok ?_;refine ae (λg=>?_) (λg=>?_)
 ·obtain⟨y,b,p⟩:=ay (l:=kidsT x) (k:=i)
  have j:=a.kid b;refine vt i b ?_;refine af (kt 4096 (by omega) y j j.len) ?_;refine bi ?_;refine vi ?_;exact au (i+1) (by show i+1<=_;omega) (sw 1000 27) (y':=⟨congrArg (λl=>some (SE.rw _ _ l)) (by rw[List.take_add_one,b];simp[dz];rfl),trivial⟩)
 ·exact⟨_,_,rfl,rfl,by rw[JG (by omega)];exact congrArg PV.sl (by rw[List.map_map];rfl)⟩
theorem tz{x y:Operand}{p q:Nd}{k:PV ->Prop}(hk:k (.bool (!decide (p=q)))):nh prog .neq 42 x y (.c (.p (.agg (ndP p)))) (.c (.p (.agg (ndP q)))) k:=by
 refine⟨_,λC ρ va s w j l=>?_,hk⟩;have rd:∀{p:Nd} {v:Value},RA C ρ (.c (.p (.agg (ndP p)))) v ->v=jj p:=λ{p v} h=>by
  have h:RV C (.agg (ndP p)) v:=h;cases h with
  |agg t us m i=>
   match us,m with
   |[a,b,c],_=>
    have n:=i 0 _ _ rfl rfl;have o:=i 1 _ _ rfl rfl;have r:=i 2 _ _ rfl rfl;cases n;cases o;cases r
    rfl
 rw[rd j,rd l];exact⟨_,.bool _,C6 x y p q w⟩
theorem oX{a b:List Nd}(ha:a.length<=1000000000)(hb:b.length<=1000000000):VC prog 10 [ah a,ah b] (.bool (decide (a=b))):=by
 have r:=ak ndP a;have s:=ak ndP b;have n:a≠b ->PV.bool false= .bool (decide (a=b)):=λh=>by rw[decide_eq_false h]
 refine vf 26 [.tmp 4] τok func10 ?_;refine ae (λg=>?_) (λg=>?_)
 ·exact⟨_,_,rfl,rfl,n λh=>by subst h;omega⟩
 refine vl τok (σ:=Nat) [(0,_),(1,_)] (λi=>[(5,vI i)]) (λi=>i<=a.length/\a.take i=b.take i) (λi=>a.length-i) 0 ⟨KV _,by simp⟩ ?_;rintro i ⟨t,j⟩;refine ae (λg=>?_) (λg=>?_)
 ·obtain⟨p,m,u⟩:=ay (l:=a) (k:=i)
  obtain⟨q,c,o⟩:=ay (l:=b) (k:=i);refine vm i m ?_;refine vm i c ?_;refine tz ?_
  by_cases h:p=q
  ·rw[decide_eq_true h]
   refine vk ?_;refine vi ?_;exact au (i+1) ⟨by omega,by rw[List.take_add_one,List.take_add_one,j,m,c,h]⟩
  ·rw[decide_eq_false h]
   exact vk ⟨_,_,rfl,rfl,n λe=>h (by subst e;rw[m]at c;exact JB c)⟩
 ·exact⟨_,_,rfl,rfl,by
   rw[JG (by omega),JG (by omega)]at j;rw[decide_eq_true j]
   rfl⟩
theorem mP{x:Tr}(b:Ok .tm x)(i:Nat):0<=kb x.n i/\kb x.n i<=4:=by
 obtain⟨n,c⟩:=x;obtain⟨a,_,_⟩:=b.tm;show 0<=kb n i/\kb n i<=4;unfold kb;split
 ·rename_i h
  have:aE n.b 1 4=true:=by simp[aw,h]at a;exact a.1
  have:=dn.1 this;split<;>omega
 ·have:=wN n i
  omega
def nO(q:Int×Int)(m:Int):Int:=max (max (q.1-q.2) (-1)) m
def dq(l:List (Int×Int)):Int:=l.foldr nO (-1)
theorem nn':∀l,-1<=dq l
 |[]=>by simp[dq]
 |q::r=>by
  have:=nn' r;simp only[dq,List.foldr_cons,nO]at this ⊢;omega
theorem tV':∀(l m:List (Int×Int)),dq (l++m)=max (dq l) (dq m)
 |[],m=>by have:=nn' m;simp only[dq,List.nil_append,List.foldr_nil]at this ⊢;omega
 |q::r,m=>by
  have:=tV' r m;simp only[dq,List.cons_append,List.foldr_cons,nO]at this ⊢;omega
theorem Jr{l:List (Int×Int)}{b:Int}(hb:-1<=b)(h:∀q∈l,q.1-q.2<=b):dq l<=b:=by
 induction l with
 |nil=>exact hb
 |cons q r a=>
  have c:=a λz i=>h z (by simp[i]);have j:=h q (by simp);simp only[dq,List.foldr_cons,nO]at c ⊢;omega
theorem Js{l:List (Int×Int)}{n:Int}:(dq l<0 \/dq l<n)↔l.all (λq=>decide (q.1-q.2<max n 0))=true:=by
 rw[List.all_eq_true]
 induction l with
 |nil=>simp[dq]
 |cons q r a=>
  have b:=nn' r;simp only[JJ,forall_eq_or_imp,decide_eq_true_eq]at a ⊢;rw[<- a];simp only[dq,List.foldr_cons,nO]at b ⊢;omega
def Dp(d:Int)(x:Tr):Prop:=0<=d/\d+4*(row x).length<=1000000000
theorem Dp.kid{d:Int}{x:Tr}(h:Dp d x)(a:Ok .tm x){i:Nat}{y:Tr}(b:(kidsT x)[i]?=some y):Dp (d+kb x.n i) y:=by
 have:=ia a b;have:=mP a i;unfold Dp at h ⊢;omega
theorem tA{x:Tr}(b:Ok .tm x){d:Int}(a:Dp d x):∀q∈varsT x d 0,d<=q.2/\q.2<=1000000000/\0<=q.1/\q.1<=1048576:=λq c=>by
 have:=fj' x .tm d 0 b.1 a.1 (by omega) (by omega) q c;have:=a.2;omega
theorem jY{x:Tr}(a:Ok .tm x)(h1:x.n.op=1):kidsT x=[]/\atmsT x=[]/\funsT x=[]/\x= .mk x.n []/\x.n.b=0/\0<=x.n.a/\x.n.a<=1048576:=by
 obtain⟨n,b⟩:=x;have h1:n.op=1:=h1;have hk:=List.length_eq_zero_iff.1 (oz a.kids.1 h1);subst hk;have:=Jm h1 a.tm.1;exact⟨by simp[kidsT],if_neg (by rw[show (Tr.mk n []).n=n from rfl];omega),if_neg (by rw[show (Tr.mk n []).n=n from rfl];omega),rfl,this.2.2,this.1,this.2.1⟩
theorem tB{x:Tr}(h1:x.n.op=1)(d:Int):varsT x d 0=[(x.n.a,d)]:=by
 obtain⟨n,a⟩:=x;exact if_pos h1
theorem fj(n:Nd)(i:Nat):kb ⟨n.op,n.a,n.b⟩ i=kb n i:=rfl
theorem DJ(N:Nat)(K:N<=1000000):∀(x:Tr) (d:Int),Wf x ->Dp d x ->(row x).length<=N ->VC prog 103 [bA x,pI d] (pI (dq (varsT x d 0))):=by
 induction N with
 |zero=>
  intro x d _ _ h;have:=aR x;omega
 |succ N u=>
  intro x d a p L;have v:=gB a.ok;have M:=ak trP (kidsT x);have r:=p;unfold Dp at r;refine vf 39 [.tmp 4] τok func103 ?_;refine ae (λn=>?_) (λn=>?_)
  ·have O:=jY a.ok n
   refine vi ?_;exact⟨_,_,rfl,rfl,by rw[tB n];simp only[dq,List.foldr_cons,List.foldr_nil,nO];exact congrArg pI (by omega)⟩
  ·have c:=ym (d:=d) a.ok n
   rw[c];have j:=tA a.ok p;rw[c]at j;have z:=nn' (vK x.n d (kidsT x) 0);have A:=Jr (l:=vK x.n d (kidsT x) 0) (b:=1048576) (by omega) λq D=>by have:=j q D;omega
   refine aB τok (σ:=Nat×Int) [(1,_),(2,_)] [(2,_)] (λq=>[(5,vI q.2),(6,vI q.1)]) (λ_=>[]) (λq=>q.1<=(kidsT x).length/\ -1<=q.2/\max q.2 (dq (vK x.n d ((kidsT x).drop q.1) q.1))=dq (vK x.n d (kidsT x) 0)) (λq=>(kidsT x).length-q.1) (0,-1) ⟨KV _,by decide,by have:=nn' (vK x.n d (kidsT x) 0);simp only[List.drop_zero];omega⟩ ?_;rintro⟨i,m⟩ ⟨E,F,s⟩;simp only at E F s;refine aj τok ?_;refine ae (λg=>?_) (λg=>?_)
   ·obtain⟨y,o,t⟩:=ay (l:=kidsT x) (k:=i)
    have H:=ia a.ok o;have I:=mP a.ok i;rw[t,vK,tV']at s;refine vt i o ?_;refine af (oH _ _ _ i (by omega)) ?_;refine vi ?_ (by simp only[fj];omega) (by simp only[fj];omega);refine af (u (by omega) y _ (a.kid o) (p.kid a.ok o) (by omega)) ?_;refine vk ?_;refine vi ?_;exact au (i+1,max m (dq (varsT y (d+kb x.n i) 0))) ⟨by simp only;omega,by simp only;omega,by simp only;omega⟩
   ·rw[JY (by omega)]at s
    have:dq (vK x.n d [] i)= -1:=rfl;exact⟨_,_,rfl,rfl,congrArg pI (by simp only;omega)⟩
theorem Jt{x:Tr}(a:Wf x)(n:Int):VC prog 100 [ah (row x),pI n] (.bool (jM x n)):=by
 have j:=DJ 4096 (by omega) x 0 a ⟨by omega,by have:=a.len;omega⟩ a.len;have b:=Js (l:=varsT x 0 0) (n:=n);have e:(dq (varsT x 0 0)<0 \/dq (varsT x 0 0)<n) ->PV.bool true= .bool (jM x n):=λh=>congrArg PV.bool (b.1 h).symm;have m:¬ (dq (varsT x 0 0)<0 \/dq (varsT x 0 0)<n) ->PV.bool false= .bool (jM x n):=λh=>by
  cases o:jM x n with
  |false=>rfl
  |true=>exact absurd (b.2 o) h
 refine vf 25 [.tmp 4] τok func100 ?_;refine af (iI a) ?_;refine af j ?_;refine ae (λc=>?_) (λc=>?_)
 ·exact⟨_,_,rfl,rfl,e (.inl c)⟩
 ·refine ae (λi=>?_) (λi=>?_)
  ·exact⟨_,_,rfl,rfl,e (.inr i)⟩
  ·exact⟨_,_,rfl,rfl,m (by omega)⟩
def hiF(by_:Int)(q:Int×Int)(m:Int):Int:=max (if q.2<=q.1 then q.1+by_ else -1) m
def fS(by_:Int)(l:List (Int×Int)):Int:=l.foldr (hiF by_) (-1)
theorem yq{b:Int}:∀l,-1<=fS b l
 |[]=>by simp[fS]
 |q::r=>by
  have:=yq (b:=b) r;simp only[fS,List.foldr_cons,hiF]at this ⊢;omega
theorem DK{b:Int}:∀(l m:List (Int×Int)),fS b (l++m)=max (fS b l) (fS b m)
 |[],m=>by have:=yq (b:=b) m;simp only[fS,List.nil_append,List.foldr_nil]at this ⊢;omega
 |q::r,m=>by
  have:=DK (b:=b) r m;simp only[fS,List.cons_append,List.foldr_cons,hiF]at this ⊢;omega
theorem qM{b c:Int}{l:List (Int×Int)}(hc:-1<=c)(h:∀q∈l,q.2<=q.1 ->q.1+b<=c):fS b l<=c:=by
 induction l with
 |nil=>exact hc
 |cons q r a=>
  have i:=a λz j=>h z (by simp[j]);have m:=h q (by simp);simp only[fS,List.foldr_cons,hiF]at i ⊢;split<;>omega
theorem qN(b:Int)(hb:0<=b/\b<=1000000000)(N:Nat)(I:N<=1000000):∀(x:Tr) (d:Int),Wf x ->Dp d x ->(row x).length<=N ->VC prog 104 [bA x,pI b,pI d] (pI (fS b (varsT x d 0))):=by
 induction N with
 |zero=>
  intro x d _ _ h;have:=aR x;omega
 |succ N v=>
  intro x d a o K;have z:=gB a.ok;have L:=ak trP (kidsT x);have p:=o;unfold Dp at p;refine vf 46 [.tmp 6] τok func104 ?_;refine ae (λc=>?_) (λc=>?_)
  ·have M:=jY a.ok c
   refine ae (λr=>?_) (λr=>?_)
   ·refine vi ?_
    exact⟨_,_,rfl,rfl,by rw[tB c];simp only[fS,List.foldr_cons,List.foldr_nil,hiF,if_pos r];exact congrArg pI (by omega)⟩
   ·exact⟨_,_,rfl,rfl,by rw[tB c];simp only[fS,List.foldr_cons,List.foldr_nil,hiF,if_neg r];exact congrArg pI (by omega)⟩
  ·have j:=ym (d:=d) a.ok c
   rw[j];have s:=tA a.ok o;rw[j]at s;have A:=yq (b:=b) (vK x.n d (kidsT x) 0);refine aB τok (σ:=Nat×Int) [(1,_),(2,_),(3,_)] [(3,_)] (λq=>[(7,vI q.2),(8,vI q.1)]) (λ_=>[]) (λq=>q.1<=(kidsT x).length/\ -1<=q.2/\max q.2 (fS b (vK x.n d ((kidsT x).drop q.1) q.1))=fS b (vK x.n d (kidsT x) 0)) (λq=>(kidsT x).length-q.1) (0,-1) ⟨KV _,by decide,by simp only[List.drop_zero];omega⟩ ?_;rintro⟨i,m⟩ ⟨D,E,t⟩;simp only at D E t;refine aj τok ?_;refine ae (λg=>?_) (λg=>?_)
   ·obtain⟨y,n,u⟩:=ay (l:=kidsT x) (k:=i)
    have F:=ia a.ok n;have H:=mP a.ok i;rw[u,vK,DK]at t;refine vt i n ?_;refine af (oH _ _ _ i (by omega)) ?_;refine vi ?_ (by simp only[fj];omega) (by simp only[fj];omega);refine af (v (by omega) y _ (a.kid n) (o.kid a.ok n) (by omega)) ?_;refine vk ?_;refine vi ?_;exact au (i+1,max m (fS b (varsT y (d+kb x.n i) 0))) ⟨by simp only;omega,by simp only;omega,by simp only;omega⟩
   ·rw[JY (by omega)]at t
    have:fS b (vK x.n d [] i)= -1:=rfl;exact⟨_,_,rfl,rfl,congrArg pI (by simp only;omega)⟩
def cI(l:List (Int×Int)):Nat:=(l.filter λq=>decide (q.1=q.2)).length
def lM(v:Int)(q:Int×Int)(m:Int):Int:=if q.1=q.2 then max (q.2-v) m else m
def dH(v:Int)(l:List (Int×Int)):Int:=l.foldr (lM v) 0
theorem tC{q:Int×Int}{l:List (Int×Int)}:cI (q::l)=(if q.1=q.2 then 1 else 0)+cI l:=by
 unfold cI;rw[List.filter_cons]
 by_cases h:q.1=q.2
 ·rw[if_pos (decide_eq_true h),if_pos h,JV];omega
 ·rw[if_neg (by simpa using h),if_neg h];omega
theorem Ju(l m:List (Int×Int)):cI (l++m)=cI l+cI m:=by
 unfold cI;rw[List.filter_append,JK]
theorem nP{v:Int}:∀l,0<=dH v l
 |[]=>by simp[dH]
 |q::r=>by
  have:=nP (v:=v) r;simp only[dH,List.foldr_cons,lM]at this ⊢;split<;>omega
theorem DL{v:Int}:∀(l m:List (Int×Int)),dH v (l++m)=max (dH v l) (dH v m)
 |[],m=>by have:=nP (v:=v) m;simp only[dH,List.nil_append,List.foldr_nil]at this ⊢;omega
 |q::r,m=>by
  have:=DL (v:=v) r m;simp only[dH,List.cons_append,List.foldr_cons,lM]at this ⊢;split<;>omega
theorem DM{v k:Int}(hk:0<=k):∀l:List (Int×Int),(∀q∈l,v+k<=q.2) ->dH v l=if 0<cI l then dH (v+k) l+k else 0
 |[],_=>rfl
 |q::r,h=>by
  have b:=DM hk r λz c=>h z (by simp[c]);have o:=h q (by simp);have j:=nP (v:=v+k) r;rw[tC];simp only[dH,List.foldr_cons,lM]at b j ⊢;have m:∀l:List (Int×Int),¬ 0<cI l ->l.foldr (lM (v+k)) 0=0:=by
   intro l
   induction l with
   |nil=>intro _;rfl
   |cons z l n=>
    intro h;rw[tC]at h;split at h
    ·omega
    ·rename_i c
     simp only[List.foldr_cons,lM,if_neg c];exact n (by omega)
  by_cases a:q.1=q.2
  ·rw[if_pos a,if_pos a,if_pos a,b,if_pos (show 0<1+cI r by omega)]
   by_cases i:0<cI r
   ·rw[if_pos i]
    omega
   ·rw[if_neg i,m r i]
    omega
  ·rw[if_neg a,if_neg a,if_neg a,b]
   simp
theorem yr{v c:Int}{l:List (Int×Int)}(hc:0<=c)(h:∀q∈l,q.2-v<=c):dH v l<=c:=by
 induction l with
 |nil=>exact hc
 |cons q r a=>
  have b:=a λz i=>h z (by simp[i]);have j:=h q (by simp);simp only[dH,List.foldr_cons,lM]at b ⊢;split<;>omega
theorem yt(l:List (Int×Int)):cI l<=l.length:=List.length_filter_le _ _
theorem DN(N:Nat)(hN:N<=1000000):∀(x:Tr) (d:Int),Wf x ->Dp d x ->(row x).length<=N ->VC prog 108 [bA x,pI d] (.tup [pI (cI (varsT x d 0)),pI (dH d (varsT x d 0))]):=by
 induction N with
 |zero=>
  intro x d _ _ h;have:=aR x;omega
 |succ N R=>
  intro x d j E hl;have S:=gB j.ok;have eK:=ak trP (kidsT x);have F:=E;unfold Dp at F;have fin:∀{a b P Q:Int},a=P ->b=Q ->PV.tup [pI a,pI b]= .tup [pI P,pI Q]:=λr o=>by rw[r,o]
  refine vf 56 [.tmp 4,.tmp 5] τok func108 ?_;refine ae (λr=>?_) (λr=>?_)
  ·have hv:=jY j.ok r
   rw[tB r];refine ae (λo=>?_) (λo=>?_)
   ·exact⟨_,_,rfl,rfl,fin (by rw[tC,if_pos o];rfl) (by simp only[dH,List.foldr_cons,List.foldr_nil,lM,if_pos o];omega)⟩
   ·exact⟨_,_,rfl,rfl,fin (by rw[tC,if_neg o];rfl) (by simp only[dH,List.foldr_cons,List.foldr_nil,lM,if_neg o])⟩
  ·have H:=ym (d:=d) j.ok r
   have s:=gM' x d 0;have t:=tA j.ok E;have T:=yt (varsT x d 0);have hw:=j.len;rw[H]at s t T ⊢;have U:=nP (v:=d) (vK x.n d (kidsT x) 0);have V:=yr (v:=d) (l:=vK x.n d (kidsT x) 0) (c:=1000000000) (by omega) λq I=>by have:=t q I;omega
   refine aB τok (σ:=Nat×Int×Int) [(1,_),(2,_)] [(2,_)] (λq=>[(6,vI q.2.1),(7,vI q.2.2),(8,vI q.1)]) (λ_=>[]) (λq=>q.1<=(kidsT x).length/\0<=q.2.1/\0<=q.2.2/\q.2.1+cI (vK x.n d ((kidsT x).drop q.1) q.1)=cI (vK x.n d (kidsT x) 0)/\max q.2.2 (dH d (vK x.n d ((kidsT x).drop q.1) q.1))=dH d (vK x.n d (kidsT x) 0)) (λq=>(kidsT x).length-q.1) (0,0,0) ⟨KV _,by decide,by decide,by simp only[List.drop_zero];omega,by simp only[List.drop_zero];omega⟩ ?_;rintro⟨i,n,m⟩ ⟨W,X,Y,K,u⟩;simp only at W X Y K u;refine aj τok ?_;refine ae (λg=>?_) (λg=>?_)
   ·obtain⟨y,z,A⟩:=ay (l:=kidsT x) (k:=i)
    have Z:=ia j.ok z;have L:=mP j.ok i;have D:=E.kid j.ok z;have M:=tA (j.kid z).ok D;have O:=DM L.1 (varsT y (d+kb x.n i) 0) λq I=>(M q I).1;have h0:=nP (v:=d+kb x.n i) (varsT y (d+kb x.n i) 0);rw[A,vK,Ju]at K;rw[A,vK,DL,O]at u;refine af (oH _ _ _ i (by omega)) ?_;refine vt i z ?_;refine vi ?_ (by simp only[fj];omega) (by simp only[fj];omega);refine af (R (by omega) y _ (j.kid z) D (by omega)) ?_;refine ae (λp=>?_) (λp=>?_)
    ·have p:0<cI (varsT y (d+kb x.n i) 0):=by rw[fj]at p;omega
     rw[if_pos p]at u;refine vi ?_ (by simp only[fj];omega) (by simp only[fj];omega);refine vi ?_ (by simp only[fj];omega) (by simp only[fj];omega);refine vi ?_;exact au (i+1,n+cI (varsT y (d+kb x.n i) 0),max m (dH (d+kb x.n i) (varsT y (d+kb x.n i) 0)+kb x.n i)) ⟨by simp only;omega,by simp only;omega,by simp only;omega,by simp only;omega,by simp only;omega⟩
    ·have p:¬ 0<cI (varsT y (d+kb x.n i) 0):=by rw[fj]at p;omega
     rw[if_neg p]at u;refine vi ?_ (by simp only[fj];omega) (by simp only[fj];omega);refine vi ?_;exact au (i+1,n+cI (varsT y (d+kb x.n i) 0),m) ⟨by simp only;omega,by simp only;omega,by simp only;omega,by simp only;omega,by simp only;omega⟩
   ·rw[JY (by omega)]at K u
    have e1:cI (vK x.n d [] i)=0:=rfl;have e2:dH d (vK x.n d [] i)=0:=rfl;exact⟨_,_,rfl,rfl,fin (by simp only;omega) (by simp only;omega)⟩
def fq(b:Int)(d:Int)(n:Nd):Tr:=.mk {n with a:=if d<=n.a then n.a+b else n.a} []
theorem Jv{x:Tr}(c:Ok .tm x)(i:dL x){b:Int}(hb:b<=500000):aG x b 0=mT (fq b) x 0 0:=by
 have a:=mq c i (by_:=b) (fr:=0) hb;unfold ke at a;rw[wi' (h:=fD b 0) (f:=fq b) x .tm 0 0 c.1 λq l n a o p=>by
   have m:=i q l;unfold fD fq
   by_cases j:q.2<=n.a
   ·rw[if_pos (by omega),if_neg (by omega),if_pos j]
   ·rw[if_neg (by omega),if_neg j]]at a
 exact(JB a).symm
def qO(u:Tr)(v:Int)(d:Int)(n:Nd):Tr:=if n.a=v+d then jN u (v+d)else if v+d<n.a/\0<n.a then .mk {n with a:=n.a-1} []else .mk n []
theorem Jw{x u:Tr}(b:Ok .tm x)(v:Int):eJ x u v=mT (qO u v) x 0 0:=by
 have a:=oC (u:=u) b v;rw[wi' (h:=eI u v) (f:=qO u v) x .tm 0 0 b.1 λq c n a i j=>by
   unfold eI qO;split
   ·rfl
   ·split<;>rfl]at a
 exact(JB a).symm
def Jx{α β:Type}(f:α ->β)(m:Except Int α):Except Int β:=match m with
 | .error e=>.error e
 | .ok x=>.ok (f x)
theorem DO{x:Tr}{f:Int ->Nd ->Tr}{d:Int}(b:Ok .tm x)(h:x.n.op≠1 \/mT f x d 0=x):PV.agg (eS x.n ((gO f x.n d (kidsT x) 0).map trP) ((atmsT x).map ndP) ((funsT x).map ndP))=bA (mT f x d 0):=by
 by_cases a:x.n.op=1
 ·rcases h with h|h
  ·exact absurd a h
  ·rw[h,(jY b a).1,(jY b a).2.1,(jY b a).2.2.1]
   show _=PV.agg (eS _ _ _ _);rw[(jY b a).1,(jY b a).2.1,(jY b a).2.2.1]
   rfl
 ·exact(Jq b a).symm
theorem DP(a b:Int):bA (.mk ⟨1,a,b⟩ [])= .agg [pI 1,pI a,pI b,.sl [],.sl [],.sl []]:=rfl
theorem qP(b:Int)(hb:0<=b/\b<=1000000000)(N:Nat)(L:N<=1000000):∀(x:Tr) (d:Int),Wf x ->Dp d x ->(row x).length<=N ->VC prog 105 [bA x,pI b,pI d] (bA (mT (fq b) x d 0)):=by
 induction N with
 |zero=>
  intro x d _ _ h;have:=aR x;omega
 |succ N v=>
  intro x d a r M;have z:=gB a.ok;have A:=ak trP (kidsT x);have m:=r;unfold Dp at m;refine vf 60 [.cell 6 111] τok func105 ?_;refine ae (λc=>?_) (λc=>?_)
  ·have D:=jY a.ok c
   obtain⟨s,O,P,t,E,Q,R⟩:=D;have u:mT (fq b) x d 0=fq b d x.n:=by rw[t];exact qL c
   refine ae (λo=>?_) (λo=>?_)
   ·refine vi ?_
    exact⟨_,_,rfl,rfl,by
     have e:fq b d x.n= .mk ⟨1,x.n.a+b,0⟩ []:=by unfold fq;rw[if_pos o,c,E]
     rw[u,e,DP]
     rfl⟩
   ·refine aB τok (σ:=Unit) [(1,_),(2,_),(3,_),(6,_),(7,_)] [(3,_),(6,_),(7,_)] (λ_=>[(8,vI 0)]) (λ_=>[]) (λ_=>True) (λ_=>0) () trivial ?_
    rintro _ _;refine aj τok ?_;refine vn ?_ (by rw[A,s];simp);exact⟨_,_,rfl,rfl,by
     have e:fq b d x.n=x:=by unfold fq;rw[if_neg o];exact t.symm
     rw[u,e];show _=PV.agg (eS _ _ _ _);rw[s]
     rfl⟩
  ·refine lw 7 3 1000 111 6 rfl rfl rfl (by decide) ?_
   refine aB τok (σ:=Nat) [(1,_),(2,_),(3,_),(6,_),(7,_)] [(3,_),(6,_)] (λi=>[(8,vI i)]) (λi=>[(7,.st 0 111 [.p (pI x.n.op),.p (pI x.n.a),.p (pI x.n.b),.row 1000,.p (.sl ((atmsT x).map ndP)),.p (.sl ((funsT x).map ndP))]),(1000,.rw 111 6 ((gO (fq b) x.n d ((kidsT x).take i) 0).map trP))]) (λi=>i<=(kidsT x).length) (λi=>(kidsT x).length-i) 0 (KV _) ?_;rintro i F;refine aj τok ?_;refine ae (λg=>?_) (λg=>?_)
   ·obtain⟨y,j,H⟩:=ay (l:=kidsT x) (k:=i)
    have I:=ia a.ok j;have K:=mP a.ok i;have q:=yk (f:=fq b) (n:=x.n) (d:=d) ((kidsT x).take i) 0;rw[List.length_take]at q;refine vt i j ?_;refine af (oH _ _ _ i (by omega)) ?_;refine vi ?_ (by rw[fj];omega) (by rw[fj];omega);refine af (v (by omega) y _ (a.kid j) (r.kid a.ok j) (by omega)) ?_;refine bi ?_;refine vk ?_;refine vi ?_;refine au (i+1) (by show i+1<=_;omega) (sw 1000 57) (y':=⟨rfl,congrArg (λl=>some (SE.rw _ _ l)) ?_,trivial⟩);rw[List.take_add_one,j,Option.toList,yp,List.map_append,List.length_take,KW,Nat.min_eq_left F];exact congrArg (_++[·]) (jR _).symm
   ·rw[JG (by omega)]
    exact⟨_,_,rfl,rfl,DO a.ok (.inl c)⟩
def jZ(u:Tr)(d:Int)(n:Nd):Tr:=if n.a=d then mT (fq d) u 0 0 else if d<n.a then .mk {n with a:=n.a-1} []else .mk n []
theorem qQ(u:Tr)(m:Wf u)(N:Nat)(K:N<=1000000):∀(x:Tr) (d:Int),Wf x ->Dp d x ->(row x).length<=N ->VC prog 109 [bA x,bA u,pI d,pI d] (bA (mT (jZ u) x d 0)):=by
 induction N with
 |zero=>
  intro x d _ _ h;have:=aR x;omega
 |succ N v=>
  intro x d a s L;have z:=gB a.ok;have M:=ak trP (kidsT x);have o:=s;unfold Dp at o;refine vf 73 [.cell 8 111] τok func109 ?_;refine ae (λb=>?_) (λb=>?_)
  ·obtain⟨O,P,Q,t,A,R,S⟩:=jY a.ok b
   have D:mT (jZ u) x d 0=jZ u d x.n:=by rw[t];exact qL b
   rw[D];refine ae (λj=>?_) (λj=>?_)
   ·refine af (qP d (by omega) 4096 (by omega) u 0 m ⟨by omega,by have:=m.len;omega⟩ m.len) ?_
    exact⟨_,_,rfl,rfl,by unfold jZ;rw[if_pos j];rfl⟩
   ·refine ae (λq=>?_) (λq=>?_)
    ·refine vi ?_
     exact⟨_,_,rfl,rfl,by unfold jZ;rw[if_neg j,if_pos q,b,A,DP];rfl⟩
    ·exact⟨_,_,rfl,rfl,by unfold jZ;rw[if_neg j,if_neg q,<- t];rfl⟩
  ·refine lw 9 3 1000 111 6 rfl rfl rfl (by decide) ?_
   refine aB τok (σ:=Nat) [(1,_),(2,_),(3,_),(4,_),(5,_),(8,_),(9,_)] [(4,_),(5,_),(8,_)] (λi=>[(10,vI i)]) (λi=>[(9,.st 0 111 [.p (pI x.n.op),.p (pI x.n.a),.p (pI x.n.b),.row 1000,.p (.sl ((atmsT x).map ndP)),.p (.sl ((funsT x).map ndP))]),(1000,.rw 111 6 ((gO (jZ u) x.n d ((kidsT x).take i) 0).map trP))]) (λi=>i<=(kidsT x).length) (λi=>(kidsT x).length-i) 0 (KV _) ?_;rintro i E;refine aj τok ?_;refine ae (λg=>?_) (λg=>?_)
   ·obtain⟨y,c,F⟩:=ay (l:=kidsT x) (k:=i)
    have H:=ia a.ok c;have I:=mP a.ok i;have r:=yk (f:=jZ u) (n:=x.n) (d:=d) ((kidsT x).take i) 0;rw[List.length_take]at r;refine af (oH _ _ _ i (by omega)) ?_;refine vt i c ?_;refine vi ?_ (by rw[fj];omega) (by rw[fj];omega);refine vi ?_ (by rw[fj];omega) (by rw[fj];omega);refine af (v (by omega) y _ (a.kid c) (s.kid a.ok c) (by omega)) ?_;refine bi ?_;refine vk ?_;refine vi ?_;refine au (i+1) (by show i+1<=_;omega) (sw 1000 70) (y':=⟨rfl,congrArg (λl=>some (SE.rw _ _ l)) ?_,trivial⟩);rw[List.take_add_one,c,Option.toList,yp,List.map_append,List.length_take,KW,Nat.min_eq_left E];exact congrArg (_++[·]) (jR _).symm
   ·rw[JG (by omega)]
    exact⟨_,_,rfl,rfl,DO a.ok (.inl b)⟩
theorem tD{x:Tr}(c:Ok .tm x)(i:dL x){b fr:Int}(hb:b<=500000):aG x b fr=mT (fq b) x fr 0:=by
 have a:=mq c i (by_:=b) (fr:=fr) hb;unfold ke at a;rw[wi' (h:=fD b fr) (f:=λd n=>fq b (d+fr) n) x .tm 0 0 c.1 λq m n a p r=>by
   have o:=i q m;unfold fD fq
   by_cases j:q.2+fr<=n.a
   ·rw[if_pos (by omega),if_neg (by omega),if_pos j]
   ·rw[if_neg (by omega),if_neg j]]at a
 have l:=tR' (f:=fq b) (f3:=λd n=>fq b (d+fr) n) (e:=fr) x .tm 0 0 c.1 λ_ _ _ _ _ _=>rfl;rw[Int.zero_add]at l;rw[l];exact(JB a).symm
theorem DR(x:Tr)(d:Int):varsT x d 0=(varsT x 0 0).map λq=>(q.1,q.2+d):=by
 have:=xd d x 0 0
 rwa [Int.zero_add]at this
theorem oY{x:Tr}(a:Wf x)(j:dL x){b fr:Int}(hb:0<=b/\b<=500000)(K:0<=fr/\fr<=500000):VC prog 52 [ah (row x),pI b,pI fr] (.tup [ah (row (aG x b fr)),pI 0]):=by
 have D:=a.len;have i:=kJ (row x) (by omega);rw[lL a]at i;have E:Dp 0 x:=⟨by omega,by omega⟩
 have o:Dp fr x:=⟨by omega,by omega⟩
 have F:=DJ 4096 (by omega) x 0 a E a.len;have H:=qN b (by omega) 4096 (by omega) x fr a o a.len;have s:=qP b (by omega) 4096 (by omega) x fr a o a.len;have t:=tD a.ok j (b:=b) (fr:=fr) hb.2;rw[<- t]at s;have u:Wf (aG x b fr):=⟨wY a.ok j hb.1 hb.2,KQ (xa a.ok j hb.2) D⟩
 have I:=qM (b:=b) (l:=varsT x fr 0) (c:=1000000) (by omega) λq m _=>by
  rw[DR]at m;obtain⟨p,v,rfl⟩:=List.mem_map.1 m;have:=j p v;simp only;omega
 refine vf 49 [.tmp 6,.tmp 7] τok func52 ?_;refine af i ?_;refine vn ?_;refine vn ?_;refine vn ?_;refine af (iI a) ?_;refine af F ?_;refine ae (λg=>?_) (λg=>?_)
 ·have:aG x b fr=x:=by
   have y:=tS' (f:=fq b) (e:=fr) x .tm 0 0 a.ok.1 λq m n L v M=>by
    have:q.1-q.2<=dq (varsT x 0 0):=by
     have:∀l:List (Int×Int),q∈l ->q.1-q.2<=dq l:=by
      intro l
      induction l with
      |nil=>intro h;cases h
      |cons z r A=>
       intro h;simp only[dq,List.foldr_cons,nO]at A ⊢;rcases List.mem_cons.1 h with rfl|h
       ·omega
       ·have:=A h;omega
     exact this _ m
    unfold fq;rw[if_neg (by omega)]
   rw[Int.zero_add]at y;rw[t];exact y
  rw[this];refine af (kt 4096 (by omega) x a a.len) ?_;exact⟨_,_,rfl,rfl,rfl⟩
 ·refine vn ?_
  refine af H ?_;refine vn ?_;refine af s ?_;refine af (kt 4096 (by omega) _ u u.len) ?_;exact⟨_,_,rfl,rfl,rfl⟩
theorem DS{x u:Tr}(a:Wf x){v:Int}(c:Ok .tm u)(i:dL u)(m:0<=v/\v<=300000):mT (jZ u) x v 0=eJ x u v:=by
 rw[Jw a.ok v];have j:=tR' (f:=jZ u) (f3:=qO u v) (e:=v) x .tm 0 0 a.ok.1 λq l n o p r=>by
  have s:=fj' x .tm 0 0 a.ok.1 (by omega) (by omega) (by omega) q l;have:=a.len;unfold jZ qO
  by_cases e:n.a=q.2+v
  ·rw[if_pos e,if_pos (by omega),jN,if_pos (by omega),Jv c i (by omega),Int.add_comm]
  ·rw[if_neg e]
   by_cases b:q.2+v<n.a
   ·rw[if_pos b,if_neg (show ¬ n.a=v+q.2 by omega),if_pos (by omega)]
   ·rw[if_neg b,if_neg (show ¬ n.a=v+q.2 by omega),if_neg (by omega)]
 rwa [Int.zero_add]at j
theorem DT(x:Tr)(v:Int):(cI (varsT x v 0):Int)=(nD x v).1:=by
 have b:=xg v (varsT x 0 0) (0,0);unfold nD;rw[b,DR];simp only[Int.zero_add,gY,cI]
 congr 1
 induction varsT x 0 0 with
 |nil=>rfl
 |cons q r a=>
  simp only[List.map_cons,List.filter_cons]
  by_cases h:q.1=q.2+v
  ·rw[if_pos (decide_eq_true h),if_pos (by simp;omega),JV,JV,a]
  ·rw[if_neg (by simpa using h),if_neg (by simp;omega),a]
theorem tE{x u:Tr}(a:Wf x)(i:Wf u)(p:dL u){v:Int}(I:0<=v/\v<=300000):VC prog 60 [ah (row x),ah (row u),pI v] (cT (bp x u v)):=by
 have V:=a.len;have M:=i.len;have o:=ak ndP (row x);have j:=ak ndP (row u);have N:=aR u;have r:=kJ (row x) (by omega);have s:=kJ (row u) (by omega);rw[lL a]at r;rw[lL i]at s;have K:Dp v x:=⟨by omega,by omega⟩
 have O:=DN 4096 (by omega) x v a K a.len;have W:=yt (varsT x v 0);have P:=gM' x v 0;have Q:=nP (v:=v) (varsT x v 0);have D:=fj' x .tm v 0 a.ok.1 I.1 (by omega) (by omega);have R:=yr (v:=v) (l:=varsT x v 0) (c:=20000) (by omega) λq E=>by have:=D q E;omega
 have S:=qN (v+dH v (varsT x v 0)) (by omega) 4096 (by omega) u 0 i ⟨by omega,by omega⟩ i.len;have T:=qM (b:=v+dH v (varsT x v 0)) (l:=varsT u 0 0) (c:=1000000) (by omega) λq E _=>by have:=p q E;omega
 have F:=qQ u i 4096 (by omega) x v a K a.len;rw[DS a i.ok p I]at F;have U:=DT x v;have L:0<=(cI (varsT x v 0):Int)*(((row u).length:Int)-1)/\(cI (varsT x v 0):Int)*(((row u).length:Int)-1)<=4096*4096:=⟨Int.mul_nonneg (by omega) (by omega),Int.mul_le_mul (by omega) (by omega) (by omega) (by omega)⟩
 have t:gd x u v=true↔4096<((row x).length:Int)+(cI (varsT x v 0):Int)*(((row u).length:Int)-1):=by
  unfold gd;rw[<- U];exact decide_eq_true_iff
 have y:VC prog 102 [bA (eJ x u v)] (ah (row (eJ x u v))) \/gd x u v=true:=by
  cases z:gd x u v with
  |true=>exact .inr rfl
  |false=>exact .inl (kt 4096 (by omega) _ ⟨wZ a.ok i.ok p,sW a.ok i.ok p z⟩ (sW a.ok i.ok p z))
 have A:min v 2097152=v:=by omega
 refine vf 69 [.tmp 6,.tmp 7] τok func60 ?_;refine af r ?_;refine vy ?_;refine af s ?_;refine vn ?_;refine vn ?_;refine af (iI a) ?_;refine af (iI i) ?_;refine af (show VC prog _ [bA x,pI (min v 2097152)] _ by rw[A];exact O) ?_;have fin:4096<((row x).length:Int)+(cI (varsT x v 0):Int)*(((row u).length:Int)-1) ->PV.tup [.sl [],pI 9]=cT (bp x u v):=λh=>by unfold bp;rw[if_pos (t.2 h)];rfl
 have n:¬ 4096<((row x).length:Int)+(cI (varsT x v 0):Int)*(((row u).length:Int)-1) ->VC prog 102 [bA (eJ x u v)] (ah (row (eJ x u v)))/\PV.tup [ah (row (eJ x u v)),pI 0]=cT (bp x u v):=λh=>by
  have z:¬ gd x u v=true:=λq=>h (t.1 q);refine⟨y.resolve_right z,?_⟩;unfold bp;rw[if_neg z]
  rfl
 refine ae (λg=>?_) (λg=>?_)
 ·refine vi ?_
  refine af (show VC prog _ [bA u,pI (min v 2097152+dH v (varsT x v 0)),pI 0] _ by rw[A];exact S) ?_;refine vn ?_;refine vi ?_;refine vi ?_ (by simp only[j];omega) (by simp only[j];omega);refine vi ?_ (by simp only[o,j];omega) (by simp only[o,j];omega);refine ae (λm=>?_) (λm=>?_)<;>simp only[o,j]at m
  ·exact⟨_,_,rfl,rfl,fin m⟩
  ·obtain⟨q1,H⟩:=n m
   refine af (show VC prog _ [bA x,bA u,pI (min v 2097152),pI (min v 2097152)] _ by rw[A];exact F) ?_;refine af q1 ?_;exact⟨_,_,rfl,rfl,H⟩
 ·refine vi ?_
  refine vi ?_ (by simp only[j];omega) (by simp only[j];omega);refine vi ?_ (by simp only[o,j];omega) (by simp only[o,j];omega);refine ae (λm=>?_) (λm=>?_)<;>simp only[o,j]at m
  ·exact⟨_,_,rfl,rfl,fin m⟩
  ·obtain⟨q1,H⟩:=n m
   refine af (show VC prog _ [bA x,bA u,pI (min v 2097152),pI (min v 2097152)] _ by rw[A];exact F) ?_;refine af q1 ?_;exact⟨_,_,rfl,rfl,H⟩
theorem lN{x:Tr}(i:Wf x)(b:x.n.op=6):∃f a,kidsT x=[f,a]/\Wf f/\Wf a/\headT x=headT f/\argsT x=argsT f++[a]/\(row f).length<(row x).length:=by
 obtain⟨n,l⟩:=x;have b:n.op=6:=id b;have c:¬ n.op=2/\¬ n.op=12:=by omega
 obtain⟨f,a,rfl,m,o⟩:=mr i.ok b;have hk:kidsT (.mk n [f,a])=[f,a]:=by simp only[kidsT,if_neg c.1,if_neg c.2]
 exact⟨f,a,hk,i.kid (j:=0) (by rw[hk];rfl),i.kid (j:=1) (by rw[hk];rfl),kg b,kh b,ia i.ok (j:=0) (by rw[hk];rfl)⟩
theorem gp{x:Tr}(a:x.n.op≠6):headT x=x/\argsT x=[]:=by
 obtain⟨n,b⟩:=x;exact⟨lA a,ms a⟩
theorem mQ{x:Tr}(c:Wf x):∀N:Nat,(row x).length<=N ->(argsT x).length<N:=by
 intro N
 induction N generalizing x with
 |zero=>intro h;have:=aR x;omega
 |succ N i=>
  intro h
  by_cases b:x.n.op=6
  ·obtain⟨f,a,_,j,_,_,e,l⟩:=lN c b
   have:=i j (by omega);rw[e];simp;omega
  ·rw[(gp b).2]
   simp
theorem yu{x:Tr}(i:Wf x):VC prog 112 [ah (row x)] (.tup [ah (row (headT x)),bJ ((argsT x).map row)]):=by
 have t:=mQ i 4096 i.len;refine cN 33 [.tmp 2,.tmp 3] τok func112 ?_;refine aj τok ?_;refine af (iI i) ?_;refine dD 6 1000 29 1 rfl rfl ?_;refine aB τok (σ:=Tr×List Tr) [(0,_),(2,_),(3,_),(4,_)] [] (λq=>[(6,.c (.row 1000))]) (λq=>[(4,.st 0 111 ((dW q.1).map .p)),(1000,.rw 29 1 (q.2.map λy=>[ah (row y)]))]) (λq=>Wf q.1/\headT q.1=headT x/\argsT q.1++q.2=argsT x) (λq=>(row q.1).length) (x,[]) ⟨i,rfl,by simp⟩ ?_;rintro⟨z,u⟩ ⟨j,m,b⟩;simp only at j m b;have v:=congrArg List.length b;rw[JK]at v;refine aj τok ?_;refine ae (λg=>?_) (λg=>?_)
 ·obtain⟨f,a,hk,A,r,n,o,D⟩:=lN j g
  refine vt 1 (by rw[hk];rfl) ?_;refine af (kt 4096 (by omega) a r r.len) ?_;refine va ?_ (λy _=>⟨rfl,λq s=>by simp at s;subst s;rfl⟩);refine vt 0 (by rw[hk];rfl) ?_;exact au (f,a::u) ⟨A,by rw[<- n];exact m,by rw[<- b,o];simp⟩ (sw 1000 25)
 ·obtain⟨n,o⟩:=gp g
  refine af (kt 4096 (by omega) z j j.len) ?_;rw[n]at m;rw[o,List.nil_append]at b;exact⟨_,_,rfl,rfl,by
   rw[<- m,<- b];exact congrArg (λl=>PV.tup [ah (row z),PV.sl l]) (by rw[List.map_map];rfl)⟩
theorem Jy{x:Tr}{ys:List Tr}{i:Nat}{y:Tr}(a:ys[i]?=some y):row (al' x (ys.take (i+1)))=appN::row (al' x (ys.take i))++row y/\(row (al' x (ys.take i))).length<=(row (al' x ys)).length:=by
 have n:=aH a;have e:ys=ys.take i++y::ys.drop (i+1):=by
  obtain⟨z,j,o⟩:=ay n;rw[a]at j;obtain rfl:=JB j;rw[<- o,List.take_append_drop]
 have p:∀l:List Tr,rows (l++[y])=rows l++row y:=by
  intro l
  induction l with
  |nil=>simp[rows]
  |cons z r b=>simp[rows,b]
 constructor
 ·rw[List.take_add_one,a,Option.toList,bL',bL',p,JK,List.length_singleton,List.replicate_succ]
  simp
 ·have c:∀l m:List Tr,(rows (l++m)).length=(rows l).length+(rows m).length:=by
   intro l m
   induction l with
   |nil=>simp[rows]
   |cons z r b=>simp only[List.cons_append,rows,JK,b];omega
  conv=>rhs;rw[e]
  simp only[bL',JK,List.length_replicate,c];omega
theorem qR{x:Tr}(p:Wf x){ys:List Tr}(u:∀y∈ys,Wf y)(hl:ys.length<=5000):VC prog 110 [ah (row x),bJ (ys.map row)] (cT (aK x ys)):=by
 have m:=kJ (row x) (by have:=p.len;omega);rw[lL p]at m;have v:=p.len;have z:((ys.map row).map λt=>[ah t])=ys.map λy=>[ah (row y)]:=by rw[List.map_map];rfl
 have H:=ak (λy=>[ah (row y)]) ys;show VC _ _ [ah (row x),.sl ((ys.map row).map λt=>[ah t])] _;rw[z];refine vf 47 [.tmp 4,.tmp 5] τok func110 ?_;refine af m ?_;refine vn ?_;refine va ?_ (gC _);refine aB τok (σ:=Nat×List Nd) [(1,_),(4,_),(5,_)] [] (λq=>[(7,.c (.row 1000)),(8,vI q.1)]) (λq=>[(1000,.rw 42 3 (q.2.map ndP))]) (λq=>q.1<=ys.length/\q.2.length<=10000/\(q.2=row (al' x (ys.take q.1)) \/4096<q.2.length/\4096<(row (al' x ys)).length)) (λq=>ys.length-q.1) (0,row x) ⟨KV _,by simp only;omega,.inl (by simp[al'])⟩ ?_ (sw 1000 16);rintro⟨i,l⟩ ⟨A,r,n⟩;simp only at A r n;have D:=ak ndP l;refine aj τok ?_;refine ae (λg=>?_) (λg=>?_)
 ·obtain⟨y,a,I⟩:=ay (l:=ys) (k:=i)
  have s:=u y (JQ a);have E:=s.len;have o:=kJ (row y) (by omega);rw[lL s]at o;obtain⟨F,K⟩:=Jy (x:=x) a;refine vm i a ?_;refine af o ?_;refine vn ?_;refine ae (λj=>?_) (λj=>?_)
  ·refine va ?_ (gC _)
   refine vm i a ?_;refine va ?_ (gC _);refine vk ?_;refine vi ?_;have b:l=row (al' x (ys.take i)):=n.resolve_right λq=>by have:=q.1;simp only at j;omega
   exact au (i+1,appN::l++row y) ⟨by simp only;omega,by simp only[JK,JV];simp only at j;omega,.inl (by rw[F,b])⟩ (sw 1000 42) (y':=⟨congrArg (λl=>some (SE.rw _ _ l)) (by simp[dz];rfl),trivial⟩)
  ·refine vi ?_
   refine au (i+1,l) ⟨by simp only;omega,r,.inr ?_⟩;simp only at j;rcases n with h|h
   ·have:=congrArg List.length h
    exact⟨by simp only;omega,by omega⟩
   ·exact h
 ·refine ae (λj=>?_) (λj=>?_)<;>simp only[D]at j
  ·exact⟨_,_,rfl,rfl,by
    unfold aK;rw[if_pos]
    ·rfl
    ·rcases n with h|h
     ·rw[JG (by omega)]at h
      rw[<- h];omega
     ·exact h.2⟩
  ·have b:l=row (al' x ys):=by
    rcases n with h|h
    ·rwa [JG (by omega)]at h
    ·have:=h.1;omega
   exact⟨_,_,rfl,rfl,by
    unfold aK;rw[if_neg (by rw[<- b];omega),b]
    rfl⟩
theorem preB_take{ys:List Tr}{i:Nat}{y:Tr}(a:ys[i]?=some y):dF 4 (ys.take (i+1))=dF 4 (ys.take i)++⟨4,0,0⟩::row y/\(dF 4 (ys.take i)).length<=(dF 4 ys).length:=by
 constructor
 ·rw[List.take_add_one,a,Option.toList]
  simp[dF]
 ·conv=>rhs;rw[<- List.take_append_drop i ys]
  simp only[dF,List.flatMap_append,JK];omega
theorem tF{x:Tr}(r:Wf x){ys:List Tr}(z:∀y∈ys,Wf y)(hl:ys.length<=5000):VC prog 58 [pI 4,bJ (ys.map row),ah (row x)] (cT (aZ ys x)):=by
 have m:=kJ (row x) (by have:=r.len;omega);rw[lL r]at m;have A:=r.len;have D:=aR x;have E:((ys.map row).map λt=>[ah t])=ys.map λy=>[ah (row y)]:=by rw[List.map_map];rfl
 have L:=ak (λy=>[ah (row y)]) ys;have s:=sT 4 ys x;have n:=congrArg List.length s;rw[JK]at n;show VC _ _ [pI 4,.sl ((ys.map row).map λt=>[ah t]),_] _;rw[E];refine cN 57 [.tmp 6,.tmp 7] τok func58 ?_;refine aj τok ?_;refine vn ?_;refine dD 8 1000 42 3 rfl rfl ?_;refine aB τok (σ:=Nat×List Nd) [(0,_),(1,_),(2,_),(6,_),(7,_)] [] (λq=>[(8,.c (.row 1000)),(9,vI q.1)]) (λq=>[(1000,.rw 42 3 (q.2.map ndP))]) (λq=>q.1<=ys.length/\q.2.length<=10000/\(q.2=dF 4 (ys.take q.1) \/4096<q.2.length/\4096<(dF 4 ys).length)) (λq=>ys.length-q.1) (0,[]) ⟨KV _,by simp,.inl (by simp[dF])⟩ ?_;rintro⟨i,l⟩ ⟨F,u,o⟩;simp only at F u o;have H:=ak ndP l;refine aj τok ?_;refine ae (λg=>?_) (λg=>?_)
 ·obtain⟨y,a,M⟩:=ay (l:=ys) (k:=i)
  have v:=z y (JQ a);have I:=v.len;have p:=kJ (row y) (by omega);rw[lL v]at p;obtain⟨K,N⟩:=preB_take a;refine vm i a ?_;refine af p ?_;refine vn ?_;refine ae (λj=>?_) (λj=>?_)
  ·refine bi ?_
   refine vm i a ?_;refine va ?_ (gC _);refine vk ?_;refine vi ?_;have b:l=dF 4 (ys.take i):=o.resolve_right λq=>by have:=q.1;simp only at j;omega
   exact au (i+1,l++⟨4,0,0⟩::row y) ⟨by simp only;omega,by simp only[JK,JV];simp only at j;omega,.inl (by rw[K,b])⟩ (sw 1000 44) (y':=⟨congrArg (λl=>some (SE.rw _ _ l)) (by simp[dz];rfl),trivial⟩)
  ·refine vi ?_
   refine au (i+1,l) ⟨by simp only;omega,u,.inr ?_⟩;simp only at j;rcases o with h|h
   ·have:=congrArg List.length h
    exact⟨by simp only;omega,by omega⟩
   ·exact h
 ·refine af m ?_
  refine vn ?_;refine va ?_ (gC _);refine ae (λj=>?_) (λj=>?_)<;>simp only[JK,H,ak ndP (row x)]at j
  ·exact⟨_,_,rfl,rfl,by
    unfold aZ;rw[if_pos]
    ·rfl
    ·rcases o with h|h
     ·rw[JG (by omega)]at h
      rw[h]at j;omega
     ·omega⟩
  ·have b:l=dF 4 ys:=by
    rcases o with h|h
    ·rwa [JG (by omega)]at h
    ·have:=h.1;omega
   exact⟨_,_,rfl,rfl,by
    unfold aZ;rw[if_neg (by rw[n,<- b];omega),b];show _=PV.tup [ah (row (dU 4 ys x)),pI 0];rw[s];exact congrArg (λl=>PV.tup [.sl l,pI 0]) (by rw[List.map_append])⟩
theorem kK{B:aq}{a:Int}(b:0<=a)(h:a<B.ents.length:=by omega):B.ents[a.toNat]?=some (aN B a):=by
 unfold aN;rw[List.getD_eq_getElem?_getD,gE]
 rfl
theorem oZ{B:aq}{known:Nat}(hk:known<=B.ents.length)(e:Int):VC prog 40 [aY B,pI e,pI known] (.bool (bk B known e)):=by
 have l:=ak aU B.ents;have b:∀{p:Prop},¬ (0<=e/\e<known/\(aN B e).kind=1) ->PV.bool false= .bool (bk B known e):=λh=>by
  cases j:bk B known e with
  |false=>rfl
  |true=>exact absurd (by simpa[bk]using j) h
 refine vf 30 [.tmp 6] τok func40 ?_;refine ae (λa=>?_) (λa=>?_)
 ·refine ae (λc=>?_) (λc=>?_)
  ·refine vy ?_
   refine vm e.toNat (kK a) ?_;refine ae (λi=>?_) (λi=>?_)
   ·exact⟨_,_,rfl,rfl,by rw[show bk B known e=true by simp only[bk,Bool.and_eq_true,decide_eq_true_eq];exact⟨a,c,i⟩];rfl⟩
   ·exact⟨_,_,rfl,rfl,b (p:=True) λq=>i q.2.2⟩
  ·exact⟨_,_,rfl,rfl,b (p:=True) λq=>c q.2.1⟩
 ·exact⟨_,_,rfl,rfl,b (p:=True) λq=>a q.1⟩
section
variable{B:aq}{known:Nat}{self:Int}
def kM(B:aq)(known:Nat)(self:Int)(x:Tr):Bool:=(row x).all (aS B known self)
theorem Jz{x:Tr}(j:Ok .tm x):∀f∈funsT x,f.op=13:=λf b=>by
 obtain⟨n,c⟩:=x
 by_cases a:n.op=12
 ·have e:funsT (.mk n c)=c.map (·.n):=if_pos a
  rw[e]at b;obtain⟨y,l,rfl⟩:=List.mem_map.1 b;obtain⟨g,m,o,rfl,i,_⟩:=(yl j a y l).fn;exact i
 ·have e:funsT (.mk n c)=[]:=if_neg a
  rw[e]at b;cases b
theorem JA{x:Tr}(i:Ok .tm x):∀f∈atmsT x,f.op=3:=λf a=>by
 obtain⟨n,b⟩:=x
 by_cases c:n.op=2
 ·have e:atmsT (.mk n b)=b.map (·.n):=if_pos c
  rw[e]at a;obtain⟨y,j,rfl⟩:=List.mem_map.1 a;obtain⟨m,rfl,l⟩:=tw i c y j;exact l
 ·have e:atmsT (.mk n b)=[]:=if_neg c
  rw[e]at a;cases a
theorem DU{op:Int}{F:List Nd}(b:∀f∈F,aS B known self f=true):∀(K:List Tr) (i:Nat),(cj op F i K).all (aS B known self)=K.all (kM B known self)
 |[],i=>rfl
 |y::r,i=>by
  simp only[cj,List.all_append,List.all_cons,DU b r (i+1)];have:(if op=12/\i%2=0 then (F[i/2]?).toList else []).all (aS B known self)=true:=by
   split
   ·rw[List.all_eq_true]
    intro f a;cases h:F[i/2]? with
    |none=>rw[h]at a;cases a
    |some g=>
     rw[h]at a;obtain rfl:f=g:=by simpa using a
     exact b f (JQ h)
   ·rfl
  rw[this,Bool.true_and]
  rfl
theorem JC{x:Tr}(a:Ok .tm x):kM B known self x=(aS B known self x.n && ((atmsT x).all (aS B known self) && (kidsT x).all (kM B known self))):=by
 have b:=iW a;have c:∀f∈funsT x,aS B known self f=true:=λf i=>by simp[aS,Jz a f i]
 unfold kM;rw[b,List.all_cons,List.all_append,DU c]
 rfl
theorem JE(hk:known<=B.ents.length)(N:Nat)(hN:N<=1000000):∀x:Tr,Wf x ->(row x).length<=N ->VC prog 101 [aY B,pI known,pI self,bA x] (.bool (kM B known self x)):=by
 induction N with
 |zero=>
  intro x _ h;have:=aR x;omega
 |succ N V=>
  intro x t hl;have W:=gB t.ok;have eK:=ak trP (kidsT x);have eA:=ak ndP (atmsT x);have eE:=ak aU B.ents;have I:aw x.n=true/\x.n.op≠3/\x.n.op≠13:=by
   obtain⟨n,ks⟩:=x;exact t.ok.tm
  obtain⟨I,X,Y⟩:=I;have u:=cY I;have Z:(atmsT x).length<=4096:=by
   have h1:=congrArg List.length (iW t.ok);rw[JV,JK]at h1;have:=t.len;omega
  rw[JC t.ok];have q:aS B known self x.n=false ->PV.bool false= .bool (aS B known self x.n && ((atmsT x).all (aS B known self) && (kidsT x).all (kM B known self))):=λh=>by rw[h];rfl
  have K:x.n.op=8 ->aS B known self x.n=(decide (0<=x.n.a) && (decide (x.n.a<known) && decide ((aN B x.n.a).kind=2))):=λh=>by simp[aS,h]
  have L:x.n.op=9 ->aS B known self x.n=(decide (x.n.a=self)||bk B known x.n.a):=λh=>by simp[aS,h]
  have D:x.n.op=11 ->aS B known self x.n=bk B known x.n.a:=λh=>by simp[aS,h]
  have v:x.n.op=10 ->aS B known self x.n=(bk B known x.n.a && decide (x.n.b<(aN B x.n.a).ctors.length)):=λh=>by simp[aS,h]
  have nn:x.n.op≠8 ->x.n.op≠9 ->x.n.op≠10 ->x.n.op≠11 ->aS B known self x.n=true:=λa b c d=>by simp[aS,a,b,c,d,X]
  have r:=oZ hk x.n.a;refine cN 126 [.tmp 8] τok func101 ?_;refine aC τok ?_;refine aC τok ?_;refine dJ τok (σ:=Unit) [(1,_),(2,_),(4,_),(7,_),(9,_)] [(4,_),(7,_),(9,_)] (λ_=>[]) (λ_=>[]) (λ_=>x.n.op=8 ->aS B known self x.n=true) ?_ ?_
  ·refine ae (λo=>?_) (λo=>?_)
   ·refine ae (λp=>?_) (λp=>?_)
    ·refine vy ?_
     refine vm x.n.a.toNat (kK u.2.2.1) ?_;refine ae (λs=>?_) (λs=>?_)
     ·exact au () λh=>by rw[K h];simp only[Bool.and_eq_true,decide_eq_true_eq];exact⟨u.2.2.1,p,s⟩
     ·exact⟨_,_,rfl,rfl,q (by rw[K o];simp[s])⟩
    ·exact⟨_,_,rfl,rfl,q (by rw[K o];simp[p])⟩
   ·exact au () λh=>absurd h o
  rintro _ m1;refine dJ τok (σ:=Unit) [(1,_),(2,_),(4,_),(7,_),(9,_)] [(4,_),(7,_),(9,_)] (λ_=>[]) (λ_=>[]) (λ_=>(x.n.op=9 ->aS B known self x.n=true)/\(x.n.op=10 \/x.n.op=11 ->bk B known x.n.a=true)) ?_ ?_
  ·refine ae (λo=>?_) (λo=>?_)
   ·refine bB r (λf=>?_) (λf=>?_)
    ·refine vn ?_
     exact au () ⟨λh=>by omega,λ_=>f⟩
    ·exact⟨_,_,rfl,rfl,q (by rw[v o,f];rfl)⟩
   ·refine ae (λp=>?_) (λp=>?_)
    ·refine bB r (λf=>?_) (λf=>?_)
     ·refine vn ?_
      exact au () ⟨λh=>by omega,λ_=>f⟩
     ·exact⟨_,_,rfl,rfl,q (by rw[D p,f])⟩
    ·refine ae (λs=>?_) (λs=>?_)
     ·refine ae (λQ=>?_) (λQ=>?_)
      ·refine bB r (λf=>?_) (λf=>?_)
       ·exact au () ⟨λh=>by rw[L h,f,Bool.or_true],λh=>by omega⟩
       ·exact⟨_,_,rfl,rfl,q (by rw[L s,f,decide_eq_false Q];rfl)⟩
      ·exact au () ⟨λh=>by rw[L h,decide_eq_true (by omega)];rfl,λh=>by omega⟩
     ·exact au () ⟨λh=>absurd h s,λh=>by omega⟩
  rintro _ ⟨m2,R⟩;refine dJ τok (σ:=Unit) [(1,_),(2,_),(4,_),(7,_)] [(4,_),(7,_)] (λ_=>[]) (λ_=>[]) (λ_=>aS B known self x.n=true) ?_ ?_
  ·refine ae (λo=>?_) (λo=>?_)
   ·have f:=R (.inl o)
    have ff:(0<=x.n.a/\x.n.a<known/\(aN B x.n.a).kind=1):=by simpa[bk]using f
    refine vm x.n.a.toNat (kK u.2.2.1) ?_;refine ae (λp=>?_) (λp=>?_)
    ·refine vk ?_
     exact⟨_,_,rfl,rfl,q (by rw[v o,f,decide_eq_false (by rw[List.length_map]at p;omega)];rfl)⟩
    ·refine vk ?_
     exact au () (by show aS B known self x.n=true;rw[v o,f,decide_eq_true (by rw[List.length_map]at p;omega)];rfl)
   ·refine vk ?_
    refine au () ?_;show aS B known self x.n=true
    by_cases S:x.n.op=8
    ·exact m1 S
    ·by_cases T:x.n.op=9
     ·exact m2 T
     ·by_cases A:x.n.op=11
      ·rw[D A];exact R (.inr A)
      ·exact nn S T o A
  rintro _ hn;rw[hn,Bool.true_and];refine aj τok ?_;refine aB τok (σ:=Nat) [(1,_),(2,_),(4,_),(7,_)] [(4,_),(7,_)] (λi=>[(10,vI i)]) (λ_=>[]) (λi=>i<=(atmsT x).length/\∀m∈(atmsT x).take i,aS B known self m=true) (λi=>(atmsT x).length-i) 0 ⟨KV _,by simp⟩ ?_;rintro i ⟨o,p⟩;refine aj τok ?_;refine ae (λg=>?_) (λg=>?_)
  ·obtain⟨m,M,hd⟩:=ay (l:=atmsT x) (k:=i)
   have E:=JQ M;have U:aS B known self m=decide (m.a<=B.vars):=by simp[aS,JA t.ok m E]
   refine vm i M ?_;refine ae (λs=>?_) (λs=>?_)
   ·refine vk ?_
    exact⟨_,_,rfl,rfl,by
     have:(atmsT x).all (aS B known self)=false:=by
      rw[List.all_eq_false];exact⟨m,E,by rw[U,decide_eq_false (by omega)];decide⟩
     rw[this]
     rfl⟩
   ·refine vk ?_
    refine vi ?_;refine au (i+1) ⟨by omega,λz F=>?_⟩;rw[List.take_add_one,M,Option.toList]at F;rcases List.mem_append.1 F with h|h
    ·exact p z h
    ·obtain rfl:=List.mem_singleton.1 h
     rw[U,decide_eq_true (by omega)]
  ·rw[JG (by omega)]at p
   have hA:(atmsT x).all (aS B known self)=true:=List.all_eq_true.2 p;rw[hA,Bool.true_and];refine aB τok (σ:=Nat) [(1,_),(2,_),(4,_),(7,_)] [(4,_),(7,_)] (λi=>[(11,vI i)]) (λ_=>[]) (λi=>i<=(kidsT x).length/\∀m∈(kidsT x).take i,kM B known self m=true) (λi=>(kidsT x).length-i) 0 ⟨KV _,by simp⟩ ?_;rintro j ⟨k1,O⟩;refine aj τok ?_;refine ae (λk=>?_) (λk=>?_)
   ·obtain⟨y,H,hd⟩:=ay (l:=kidsT x) (k:=j)
    have P:=JQ H;have a0:=ia t.ok H;refine vt j H ?_;refine bB (V (by omega) y (t.kid H) (by omega)) (λf=>?_) (λf=>?_)
    ·refine vk ?_
     refine vi ?_;refine au (j+1) ⟨by omega,λz F=>?_⟩;rw[List.take_add_one,H,Option.toList]at F;rcases List.mem_append.1 F with h|h
     ·exact O z h
     ·obtain rfl:=List.mem_singleton.1 h
      exact f
    ·refine vk ?_
     exact⟨_,_,rfl,rfl,by
      have:(kidsT x).all (kM B known self)=false:=by
       rw[List.all_eq_false];exact⟨y,P,by rw[f];decide⟩
      rw[this]
      rfl⟩
   ·rw[JG (by omega)]at O
    exact⟨_,_,rfl,rfl,by rw[List.all_eq_true.2 O];rfl⟩
theorem o3(hk:known<=B.ents.length)(t:List Nd)(i:t.length<=1000000)(below:Int):VC prog 48 [aY B,pI known,pI self,pI below,ah t] (pI (cy B known self t below)):=by
 have j:=kJ t i;refine vf 36 [.tmp 10] τok func48 ?_;refine af j ?_
 by_cases a:eH t=0
 ·obtain⟨x,c,rfl⟩:=tx a
  have l:cy B known self (row x) below=if jM x below=false then 8 else if (row x).any (λm=>!aS B known self m)=true then 8 else 0:=by
   unfold cy;rw[if_neg (by rw[a];decide),gZ c.ok]
  have n:(row x).any (λm=>!aS B known self m)= !kM B known self x:=by
   unfold kM;rw[<- List.not_all_eq_any_not]
  rw[l,n];refine vn ?_ (by rw[a];decide);refine af (iI c) ?_;refine bB (Jt c below) (λb=>?_) (λb=>?_)
  ·refine bB (JE hk 4096 (by omega) x c c.len) (λf=>?_) (λf=>?_)
   ·exact⟨_,_,rfl,rfl,by rw[b,f];rfl⟩
   ·exact⟨_,_,rfl,rfl,by rw[b,f];rfl⟩
  ·exact⟨_,_,rfl,rfl,by rw[b];rfl⟩
 ·refine vy ?_ a
  exact⟨_,_,rfl,rfl,by unfold cy;rw[if_pos a];rfl⟩
theorem yv{step:Int}:∀(ls:List (List Nd)) (b:Int) (i:Nat) (t:List Nd),ls[i]?=some t ->bO B known self step (ls.drop i) b=if cy B known self t b≠0 then cy B known self t b else bO B known self step (ls.drop (i+1)) (b+step)
 |l::r,b,0,t,h=>by
  obtain rfl:=JB h
  rfl
 |l::r,b,i+1,t,h=>yv r b i t h
theorem yw(hk:known<=B.ents.length){ls:List (List Nd)}(hl:ls.length<=1000000/\∀t∈ls,t.length<=1000000){below:Int}(hb:-1000000000<=below/\below<=1000000000):VC prog 132 [aY B,pI known,pI self,pI below,bJ ls] (pI (bO B known self 1 ls below)):=by
 have j:=ak (λt=>[ah t]) ls;refine vf 33 [.tmp 10] τok func132 ?_;refine aB τok (σ:=Nat) [(1,_),(2,_),(3,_),(4,_),(5,_),(10,_)] [(5,_)] (λi=>[(11,vI i)]) (λ_=>[]) (λi=>i<=ls.length/\bO B known self 1 ls below=bO B known self 1 (ls.drop i) (below+i)) (λi=>ls.length-i) 0 ⟨KV _,by simp⟩ ?_;rintro i ⟨m,a⟩;refine aj τok ?_;refine ae (λg=>?_) (λg=>?_)
 ·obtain⟨t,b,n⟩:=ay (l:=ls) (k:=i)
  rw[yv ls _ i t b]at a;refine vi ?_;refine vm i b ?_;refine af (o3 hk t (hl.2 t (JQ b)) _) ?_;refine vk ?_;refine ae (λc=>?_) (λc=>?_)
  ·rw[if_pos c]at a
   exact⟨_,_,rfl,rfl,by rw[a];rfl⟩
  ·rw[if_neg c]at a
   refine vi ?_;exact au (i+1) ⟨by omega,by rw[a,show below+(i:Int)+1=below+((i+1:Nat):Int) by omega]⟩
 ·rw[JY (by omega)]at a
  exact⟨_,_,rfl,rfl,by rw[a];rfl⟩
end
def o4(p:Nd)(a:AV):Prop:=∀C ρ v,RA C ρ a v ->v=jj p
theorem DV(p:Nd):o4 p (.c (.p (.agg (ndP p)))):=λC ρ v h=>by
 have h:RV C (.agg (ndP p)) v:=h;cases h with
 |agg o us j i=>
  match us,j with
  |[a,b,c],_=>
   have l:=i 0 _ _ rfl rfl;have m:=i 1 _ _ rfl rfl;have n:=i 2 _ _ rfl rfl;cases l;cases m;cases n
   rfl
theorem DW(o a b:Int):o4 ⟨o,a,b⟩ (.agg [.p (pI o),.p (pI a),.p (pI b)]):=λC ρ v h=>by
 obtain⟨us,rfl,j,i⟩:=h
 match us,j with
 |[a,b,c],_=>
  have l:RV C (pI _) _:=i 0 _ _ rfl rfl;have m:RV C (pI _) _:=i 1 _ _ rfl rfl;have n:RV C (pI _) _:=i 2 _ _ rfl rfl;cases l;cases m;cases n
  rfl
theorem yx{x y:Operand}{p q:Nd}{a b:AV}{k:PV ->Prop}(ha:o4 p a)(hb:o4 q b)(hk:k (.bool (!decide (p=q)))):nh prog .neq 42 x y a b k:=by
 refine⟨_,λC ρ va j w c i=>?_,hk⟩;obtain rfl:=ha _ _ _ c;obtain rfl:=hb _ _ _ i;exact⟨_,.bool _,C6 x y p q w⟩
theorem yy{x y:Operand}{p q:Nd}{a b:AV}{k:PV ->Prop}(ha:o4 p a)(hb:o4 q b)(hk:k (.bool (decide (p=q)))):nh prog .eql 42 x y a b k:=by
 refine⟨_,λC ρ va j w c i=>?_,hk⟩;obtain rfl:=ha _ _ _ c;obtain rfl:=hb _ _ _ i;exact⟨_,.bool _,C7 _ _ p q w⟩
theorem JI{B:aq}(U:dG B)(a:Int):VC prog 130 [aY B,pI a] (.bool (lJ B a)):=by
 have eE:=ak aU B.ents;generalize b:lJ B a=q;unfold lJ at b;refine vf 104 [.tmp 4] τok func130 ?_;refine ae (λS=>?_) (λS=>?_)
 ·rw[if_pos (.inl S)]at b
  exact⟨_,_,rfl,rfl,congrArg PV.bool b⟩
 refine ae (λs=>?_) (λs=>?_)
 ·have s:((B.ents.map aU).length:Int)<=a:=s
  rw[if_pos (.inr (.inl (by omega)))]at b;exact⟨_,_,rfl,rfl,congrArg PV.bool b⟩
 have s:¬ ((B.ents.map aU).length:Int)<=a:=s;obtain⟨n,rfl⟩:∃n:Nat,a=(n:Int):=⟨a.toNat,by omega⟩
 obtain⟨x,M,_⟩:=ay (l:=B.ents) (k:=n);rw[qx M]at b;have hX:=U.x x (JQ M);have V:=hX.p.1;have W:=hX.i.1;have l1:=ak ndP x.sort;have l2:=ak (λt=>[ah t]) x.params;have l3:=ak (λt=>[ah t]) x.indices;have l4:=ak bD x.ctors;refine vm (p:=aU) n M ?_;refine ae (λi=>?_) (λi=>?_)
 ·have i:x.kind≠1:=i
  rw[if_pos (.inr (.inr i))]at b;exact⟨_,_,rfl,rfl,congrArg PV.bool b⟩
 have i:¬ x.kind≠1:=i;rw[if_neg (by omega)]at b;refine vm (p:=aU) n M ?_;have u:∀{P:Prop} [Decidable P] {r:Bool},P ->(if P then false else r)=q ->gC' [PV.nz (.bool false)]= .bool q:=λh e=>by rw[if_pos h]at e;rw[<- e];rfl
 refine ae (λv=>?_) (λv=>?_)
 ·have v:((x.sort.map ndP).length:Int)≠2:=v
  exact⟨_,_,rfl,rfl,u (.inl (by omega)) b⟩
 have v:¬ ((x.sort.map ndP).length:Int)≠2:=v;obtain⟨Q,y,_⟩:=ay (l:=x.sort) (k:=0);obtain⟨R,z,_⟩:=ay (l:=x.sort) (k:=1);have X:x.sort.getD 0 ⟨0,0,0⟩=Q:=by rw[List.getD_eq_getElem?_getD,y];rfl
 have Y:x.sort.getD 1 ⟨0,0,0⟩=R:=by rw[List.getD_eq_getElem?_getD,z];rfl
 rw[X,Y]at b;refine vm (p:=ndP) 0 y ?_;refine ae (λj=>?_) (λj=>?_)
 ·have j:Q.a≠1:=j
  exact⟨_,_,rfl,rfl,u (.inr (.inl j)) b⟩
 have j:¬ Q.a≠1:=j;refine vm (p:=ndP) 1 z ?_;refine yx (DV R) (DW 3 0 0) ?_
 by_cases N:R=⟨3,0,0⟩
 rotate_left
 ·rw[decide_eq_false N]
  exact⟨_,_,rfl,rfl,u (.inr (.inr (.inl N))) b⟩
 rw[decide_eq_true N];refine vi ?_;refine ae (λA=>?_) (λA=>?_)
 ·have A:(0:Int)<((x.params.map λt=>[ah t]).length:Int)+((x.indices.map λt=>[ah t]).length:Int):=A
  exact⟨_,_,rfl,rfl,u (.inr (.inr (.inr (.inl (by omega))))) b⟩
 have A:¬ (0:Int)<((x.params.map λt=>[ah t]).length:Int)+((x.indices.map λt=>[ah t]).length:Int):=A;refine ae (λD=>?_) (λD=>?_)
 ·have D:((x.ctors.map bD).length:Int)≠2:=D
  exact⟨_,_,rfl,rfl,u (.inr (.inr (.inr (.inr (by omega))))) b⟩
 have D:¬ ((x.ctors.map bD).length:Int)≠2:=D;rw[if_neg (by rintro(h|h|h|h|h)<;>first|omega|exact h N)]at b;obtain⟨O,E,_⟩:=ay (l:=x.ctors) (k:=0);obtain⟨m,F,_⟩:=ay (l:=x.ctors) (k:=1);have Z:x.ctors.getD 0 default=O:=by rw[List.getD_eq_getElem?_getD,E];rfl
 have e3:x.ctors.getD 1 default=m:=by rw[List.getD_eq_getElem?_getD,F];rfl
 rw[Z,e3]at b;have l5:=ak rP O.args;have l6:=ak rP m.args;refine vm (p:=bD) 0 E ?_;refine vm (p:=bD) 1 F ?_;refine vk ?_;refine ae (λH=>?_) (λH=>?_);rotate_left
 ·have H:¬ ((O.args.map rP).length:Int)=0:=H
  rw[decide_eq_false (by omega)]at b;exact⟨_,_,rfl,rfl,congrArg PV.bool b⟩
 have H:((O.args.map rP).length:Int)=0:=H;rw[decide_eq_true (by omega),Bool.true_and]at b;refine ae (λI=>?_) (λI=>?_);rotate_left
 ·have I:¬ ((m.args.map rP).length:Int)=1:=I
  rw[decide_eq_false (by omega)]at b;exact⟨_,_,rfl,rfl,congrArg PV.bool b⟩
 have I:((m.args.map rP).length:Int)=1:=I;rw[decide_eq_true (by omega),Bool.true_and]at b;obtain⟨o,c,_⟩:=ay (l:=m.args) (k:=0);have e4:m.args.getD 0 []=o:=by rw[List.getD_eq_getElem?_getD,c];rfl
 rw[e4]at b;have l7:=ak ndP o;refine vm (p:=rP) 0 c ?_;refine ae (λK=>?_) (λK=>?_);rotate_left
 ·have K:¬ ((o.map ndP).length:Int)=1:=K
  rw[decide_eq_false (by omega)]at b;exact⟨_,_,rfl,rfl,congrArg PV.bool b⟩
 have K:((o.map ndP).length:Int)=1:=K;rw[decide_eq_true (by omega),Bool.true_and]at b;obtain⟨T,L,_⟩:=ay (l:=o) (k:=0);have e5:o.getD 0 ⟨0,0,0⟩=T:=by rw[List.getD_eq_getElem?_getD,L];rfl
 rw[e5]at b;refine vm (p:=rP) 0 c ?_;refine vm (p:=ndP) 0 L ?_;refine yy (DV T) (DW 9 n 0) ?_;exact⟨_,_,rfl,rfl,congrArg PV.bool b⟩
def OnG(g:G):Prop:=∀x y v,g x y=some v ->v=1
theorem OnG.bd{g:G}(h:OnG g)(x y:Int):0<=(g x y).getD 0/\(g x y).getD 0<=1:=by
 cases a:g x y with
 |none=>simp
 |some v=>have:=h x y v a;simp[this]
theorem OnG.put{g:G}(h:OnG g)(x y:Int):OnG (putG g x y 1):=λa b v c=>by
 unfold putG at c;split at c
 ·exact(JB c).symm
 ·exact h a b v c
theorem JL{B:aq}(t:dG B):VC prog 76 [aY B] (.bool (gN B)):=by
 have K:=ak iB B.prims;have L:=ak aU B.ents;have z:=t.p;generalize a:gN B=j;unfold gN at a;have m:∀{P:Prop} [Decidable P] {r:Bool},P ->(if P then false else r)=j ->gC' [PV.nz (.bool false)]= .bool j:=λh e=>by rw[if_pos h]at e;rw[<- e];rfl
 refine cN 89 [.tmp 2] τok func76 ?_;refine aC τok ?_;refine dJ τok (σ:=Unit) [(1,_),(2,_)] [(1,_)] (λ_=>[]) (λ_=>[]) (λ_=>lK B B.prims (λ_ _=>none)=j) ?_ ?_
 ·refine ae (λn=>?_) (λn=>?_)
  ·refine bB (JI t B.nat) (λf=>?_) (λf=>?_)
   ·refine vn ?_
    exact au () (by rwa [if_neg (by rintro(⟨_,h⟩|⟨h,_⟩);exact absurd (f.symm.trans h) (by decide);exact n h)]at a)
   ·exact⟨_,_,rfl,rfl,m (.inl ⟨n,f⟩) a⟩
  ·refine vy ?_
   refine ae (λA=>?_) (λA=>?_)
   ·exact⟨_,_,rfl,rfl,m (.inr ⟨by omega,by omega⟩) a⟩
   ·exact au () (by rwa [if_neg (by rintro(⟨h,_⟩|⟨_,h⟩);exact n h;omega)]at a)
 rintro _ a;refine aC τok ?_;refine pX (QG λ_ _=>none) ?_ qg0;refine aj τok ?_;refine aB τok (σ:=Nat×G) [(1,_),(3,_),(31,_),(32,_)] [(1,_)] (λq=>[(33,vI q.1)]) (λq=>[(29,.ob 0 (QG q.2))]) (λq=>q.1<=B.prims.length/\OnG q.2/\lK B (B.prims.drop q.1) q.2=j) (λq=>B.prims.length-q.1) (0,_) ⟨KV _,(λ_ _ _ h=>(by cases h):OnG λ_ _=>none),a⟩ ?_;rintro⟨i,g⟩ ⟨D,o,b⟩;simp only at D o b;refine aj τok ?_;refine ae (λc=>?_) (λc=>?_);rotate_left
 ·rw[JY (by omega)]at b
  exact⟨_,_,rfl,rfl,congrArg PV.bool b⟩
 obtain⟨p,E,F⟩:=ay (l:=B.prims) (k:=i);rw[F]at b;simp only[lK]at b;refine vm (p:=iB) i E ?_;refine vk ?_;refine ae (λu=>?_) (λu=>?_)
 ·refine vk ?_
  exact⟨_,_,rfl,rfl,m (.inl u) b⟩
 refine ae (λH=>?_) (λH=>?_)
 ·refine vk ?_
  exact⟨_,_,rfl,rfl,m (.inr (.inl (by omega))) b⟩
 refine vm (p:=aU) p.1.toNat (kK (by omega)) ?_;refine ae (λv=>?_) (λv=>?_)
 ·refine vk ?_
  exact⟨_,_,rfl,rfl,m (.inr (.inr (.inl v))) b⟩
 refine ae (λy=>?_) (λy=>?_)
 ·refine vk ?_
  exact⟨_,_,rfl,rfl,m (.inr (.inr (.inr (.inl y)))) b⟩
 refine ae (λI=>?_) (λI=>?_)
 ·refine vk ?_
  exact⟨_,_,rfl,rfl,m (.inr (.inr (.inr (.inr (.inl (by omega)))))) b⟩
 refine wI m2p ?_;refine wI m2p ?_;have M:=o.bd p.1 (-1);have b2:=o.bd (-1) p.2;refine vi ?_;refine ae (λs=>?_) (λs=>?_)
 ·refine vk ?_
  exact⟨_,_,rfl,rfl,m (.inr (.inr (.inr (.inr (.inr s))))) b⟩
 have s:¬ (0:Int)<(g p.1 (-1)).getD 0+(g (-1) p.2).getD 0:=s;refine vk ?_;rw[if_neg (by omega)]at b;refine ox m2p ?_;refine ox m2p ?_;refine vk ?_;refine vi ?_;exact au (i+1,putG (putG g p.1 (-1) 1) (-1) p.2 1) ⟨by show i+1<=_;omega,(o.put _ _).put _ _,b⟩
abbrev o5(B:aq)(known self:Int):PV:=.agg (nF B++[pI known,pI self])
theorem cz{p q:Bool}(h:p=q):gC' [PV.nz (.bool p)]= .bool q:=by rw[h];rfl
theorem JM{x:Tr}(a:Wf x){n:Int}(b:I64 n):VC prog 134 [ah (row x),pI n] (.bool (jM x n)):=Ig a.ok a.len n
section
variable{B:aq}{known:Nat}{self:Int}(hk:known<=B.ents.length)
include hk
theorem JN{a:Int}(b:0<=a):VC prog 170 [o5 B known self,pI a] (.bool (bk B known a)):=by
 have i:=ak aU B.ents;refine vf 19 [.tmp 4] τok func170 ?_;refine ae (λg=>?_) (λg=>?_)
 ·refine vm (p:=aU) a.toNat (kK b) ?_
  refine ae (λc=>?_) (λc=>?_)
  all_goals exact⟨_,_,rfl,rfl,cz (by simp[bk,b,g,c])⟩
 ·exact⟨_,_,rfl,rfl,cz (by simp[bk,g])⟩
theorem JO{m:Nd}(hm:aw m=true):VC prog 135 [o5 B known self,oI m] (.bool (aS B known self m)):=by
 have s:=ak aU B.ents;have b:=cY hm;have i:=JN hk (self:=self) b.2.2.1;generalize a:aS B known self m=q;unfold aS at a;refine vf 72 [.tmp 4] τok func135 ?_;refine ae (λj=>?_) (λj=>?_)
 ·rw[if_pos j]at a
  refine ae (λg=>?_) (λg=>?_)
  all_goals exact⟨_,_,rfl,rfl,cz (by rw[<- a];simp[g])⟩
 rw[if_neg j]at a;refine ae (λl=>?_) (λl=>?_)
 ·rw[if_pos l]at a
  refine ae (λg=>?_) (λg=>?_)
  ·refine vm (p:=aU) m.a.toNat (kK b.2.2.1) ?_
   refine ae (λc=>?_) (λc=>?_)
   all_goals exact⟨_,_,rfl,rfl,cz (by rw[<- a];simp[b.2.2.1,g,c])⟩
  ·exact⟨_,_,rfl,rfl,cz (by rw[<- a];simp[g])⟩
 rw[if_neg l]at a;refine ae (λc=>?_) (λc=>?_)
 ·rw[if_pos c]at a
  refine ae (λg=>?_) (λg=>?_)
  ·exact⟨_,_,rfl,rfl,cz (by rw[<- a];simp[g])⟩
  ·refine af i ?_
   exact⟨_,_,rfl,rfl,cz (by rw[<- a];simp[g])⟩
 rw[if_neg c]at a;refine ae (λn=>?_) (λn=>?_)
 ·rw[if_pos n]at a
  refine af i ?_;exact⟨_,_,rfl,rfl,cz a⟩
 rw[if_neg n]at a;refine ae (λo=>?_) (λo=>?_)
 ·rw[if_pos o]at a
  refine bB i (λf=>?_) (λf=>?_)
  ·have r:=f
   simp only[bk,Bool.and_eq_true,decide_eq_true_eq]at r;have eC:=ak bD (aN B m.a).ctors;refine vm (p:=aU) m.a.toNat (kK b.2.2.1) ?_;refine ae (λg=>?_) (λg=>?_)
   all_goals refine vk ?_
   all_goals exact⟨_,_,rfl,rfl,cz (by rw[<- a,f];rw[eC]at g;simp[g])⟩
  ·refine vk ?_
   exact⟨_,_,rfl,rfl,cz (by rw[<- a,f];rfl)⟩
 rw[if_neg o]at a;exact⟨_,_,rfl,rfl,cz a⟩
theorem yz{l:List Nd}(hl:l.length<=1000000000){below:Int}(hb:I64 below):VC prog 81 [o5 B known self,ah l,pI below] (pI (cy B known self l below)):=by
 have q:=ak ndP l;generalize a:cy B known self l below=c;unfold cy at a;refine vf 30 [.tmp 6] τok func81 ?_;refine af (jS l hl) ?_;refine ae (λg=>?_) (λg=>?_)
 ·rw[if_pos g]at a
  exact⟨_,_,rfl,rfl,congrArg (PV.int .i64) a⟩
 rw[if_neg g]at a;obtain⟨x,j,rfl⟩:=tx (Decidable.of_not_not g);rw[gZ j.ok]at a;refine bB (JM j hb) (λf=>?_) (λf=>?_);rotate_left
 ·rw[if_pos f]at a
  exact⟨_,_,rfl,rfl,congrArg (PV.int .i64) a⟩
 rw[if_neg (by rw[f];decide)]at a;refine aB τok (σ:=Nat) [(3,_),(19,_),(20,_)] [(3,_)] (λi=>[(21,vI i)]) (λ_=>[]) (λi=>i<=(row x).length/\(if ((row x).drop i).any (λm=>!aS B known self m)=true then (8:Int)else 0)=c) (λi=>(row x).length-i) 0 ⟨KV _,a⟩ ?_
 clear a
 rintro i ⟨r,b⟩;refine aj τok ?_;refine ae (λo=>?_) (λo=>?_);rotate_left
 ·rw[JY (by omega)]at b
  exact⟨_,_,rfl,rfl,congrArg (PV.int .i64) b⟩
 obtain⟨m,n,p⟩:=ay (l:=row x) (k:=i);rw[p,List.any_cons]at b;refine vm i n ?_;refine bB (JO hk (fs' x .tm j.ok.1 m (JQ n))) (λf=>?_) (λf=>?_);rotate_left
 ·rw[if_pos (by rw[f];rfl)]at b
  exact⟨_,_,rfl,rfl,congrArg (PV.int .i64) b⟩
 rw[f,Bool.not_true,Bool.false_or]at b;refine vi ?_;exact au (i+1) ⟨by show i+1<=_;omega,b⟩
theorem qS{ls:List (List Nd)}(hl:mA ls){below step:Int}(hb:0<=below/\below<=1000000000)(v:0<=step/\step<=1):VC prog 126 [o5 B known self,bJ ls,pI below,pI step] (pI (bO B known self step ls below)):=by
 have y:=ak (λt=>[ah t]) ls;have o:=hl.1;generalize b:bO B known self step ls below=c;refine vf 29 [.tmp 8] τok func126 ?_;refine aB τok (σ:=Nat×Int) [(3,_),(4,_),(12,_),(13,_)] [(4,_)] (λq=>[(2,vI q.2),(14,vI q.1)]) (λ_=>[]) (λq=>q.1<=ls.length/\below<=q.2/\q.2<=below+q.1/\bO B known self step (ls.drop q.1) q.2=c) (λq=>ls.length-q.1) (0,below) ⟨KV _,Int.le_refl _,by simp,b⟩ ?_
 clear b
 rintro⟨i,x⟩ ⟨r,j,m,a⟩;simp only at r j m a;refine aj τok ?_;refine ae (λs=>?_) (λs=>?_);rotate_left
 ·rw[JY (by omega)]at a
  exact⟨_,_,rfl,rfl,congrArg (PV.int .i64) a⟩
 obtain⟨l,n,u⟩:=ay (l:=ls) (k:=i);rw[u]at a;simp only[bO]at a;have z:=hl.2 l (JQ n);refine vm (p:=λt=>[ah t]) i n ?_;refine af (yz hk (l:=l) (by omega) (below:=x) ⟨by omega,by omega⟩) ?_;refine ae (λg=>?_) (λg=>?_)
 ·rw[if_pos g]at a
  exact⟨_,_,rfl,rfl,congrArg (PV.int .i64) a⟩
 rw[if_neg g]at a;refine vi ?_;refine vi ?_;exact au (i+1,x+step) ⟨by show i+1<=_;omega,by simp only;omega,by simp only;omega,a⟩
theorem JP{x:bY}(hX:qz x)(H:x.params.length<=16):VC prog 129 [o5 B known self,.agg (aU x)] (pI (fR B known x x.ctors)):=by
 have s:=ak (λt=>[ah t]) x.params;have I:=ak (λt=>[ah t]) x.indices;have K:=ak bD x.ctors;have u:=hX.c;generalize b:fR B known x x.ctors=n;refine vf 55 [.tmp 4] τok func129 ?_;refine aB τok (σ:=Nat) [(2,_),(3,_),(13,_),(14,_)] [(2,_),(3,_)] (λi=>[(15,vI i)]) (λ_=>[]) (λi=>i<=x.ctors.length/\fR B known x (x.ctors.drop i)=n) (λi=>x.ctors.length-i) 0 ⟨KV _,b⟩ ?_
 clear b
 rintro i ⟨L,a⟩;refine aj τok ?_;refine ae (λv=>?_) (λv=>?_);rotate_left
 ·rw[JY (by omega)]at a
  exact⟨_,_,rfl,rfl,congrArg (PV.int .i64) a⟩
 obtain⟨c,r,y⟩:=ay (l:=x.ctors) (k:=i);rw[y]at a;simp only[fR]at a;obtain⟨z,A⟩:=hX.a c (JQ r);have D:=ak (λt=>[ah t]) c.args;have M:=ak (λt=>[ah t]) c.out;refine vm (p:=bD) i r ?_;refine ae (λj=>?_) (λj=>?_)
 ·have j:((c.args.map λt=>[ah t]).length:Int)>16:=j
  rw[if_pos (by omega)]at a;exact⟨_,_,rfl,rfl,congrArg (PV.int .i64) a⟩
 have j:¬ ((c.args.map λt=>[ah t]).length:Int)>16:=j;rw[if_neg (by omega)]at a;refine ae (λm=>?_) (λm=>?_)
 ·have m:((c.out.map λt=>[ah t]).length:Int)≠((x.indices.map λt=>[ah t]).length:Int):=m
  rw[if_pos (by omega)]at a;exact⟨_,_,rfl,rfl,congrArg (PV.int .i64) a⟩
 have m:¬ ((c.out.map λt=>[ah t]).length:Int)≠((x.indices.map λt=>[ah t]).length:Int):=m;rw[if_neg (by omega)]at a;have E:=qS hk (self:=known) z (below:=((x.params.map λt=>[ah t]).length:Int)) (step:=1) ⟨by omega,by omega⟩ ⟨by decide,by decide⟩;have F:=qS hk (self:=known) A (below:=((x.params.map λt=>[ah t]).length:Int)+((c.args.map λt=>[ah t]).length:Int)) (step:=0) ⟨by omega,by omega⟩ ⟨by decide,by decide⟩;refine af E ?_;rw[<- s,<- D]at a;refine ae (λo=>?_) (λo=>?_)
 ·rw[if_pos o]at a
  exact⟨_,_,rfl,rfl,congrArg (PV.int .i64) a⟩
 rw[if_neg o]at a;refine vi ?_;refine af F ?_;refine ae (λq=>?_) (λq=>?_)
 ·rw[if_pos q]at a
  exact⟨_,_,rfl,rfl,congrArg (PV.int .i64) a⟩
 rw[if_neg q]at a;refine vi ?_;exact au (i+1) ⟨by show i+1<=_;omega,a⟩
end
theorem JR{l:List Nd}(b:0<l.length):VC prog 124 [ah l] (pI (gM l)):=by
 obtain⟨m,a,_⟩:=ay (l:=l) (k:=0) b;unfold gM;rw[List.getD_eq_getElem?_getD,a];refine vf 8 [.tmp 2] τok func124 ?_;refine vm 0 a ?_;refine ae (λg=>?_) (λg=>?_)
 ·exact⟨_,_,rfl,rfl,by rw[show ((some m).getD ⟨0,0,0⟩)=m from rfl,if_pos g];rfl⟩
 ·exact⟨_,_,rfl,rfl,by rw[show ((some m).getD ⟨0,0,0⟩)=m from rfl,if_neg g];rfl⟩
theorem lO(a b c:Int):bg (bg a b) c=bg a (bg b c):=by
 unfold bg
 by_cases h:a≠0
 ·rw[if_pos h,if_pos h,if_pos h]
 ·rw[if_neg h,if_neg h]
theorem kN{a b:Int}(h:a≠0):bg a b=a:=if_pos h
theorem jt{a b:Int}(h:¬ a≠0):bg a b=b:=if_neg h
theorem JS{B:aq}{known:Nat}{self:Int}:∀(ls:List (List Nd)) (b:Int) (i:Nat) (t:List Nd),ls[i]?=some t ->bO B known self 0 (ls.drop i) b=bg (cy B known self t b) (bO B known self 0 (ls.drop (i+1)) b):=λls b i t h=>by
 rw[yv ls b i t h,Int.add_zero]
 rfl
theorem JT{B:aq}(V:dG B){i:Nat}{x:bY}(s:B.ents[i]?=some x):VC prog 80 [aY B,pI i] (pI (eV B i x)):=by
 have W:=aH s;have hk:i<=B.ents.length:=by omega
 have hX:=V.x x (JQ s);have e1:=ak ndP x.sort;have X:=ak (λt=>[ah t]) x.params;have e3:=ak (λt=>[ah t]) x.indices;have e4:=ak bD x.ctors;have e5:=ak ndP x.type;have e6:=ak ndP x.body;have Y:=hX.s;have s2:=hX.p.1;have s3:=hX.i.1;have s4:=hX.c;refine cN 179 [.tmp 4] τok func80 ?_;refine aC τok ?_;refine aC τok ?_;refine vm i s ?_;refine aC τok ?_;refine ae (λp=>?_) (λp=>?_)
 ·have u:eV B i x=if 0<x.sort.length+x.params.length+x.indices.length+x.ctors.length then 8 else bg (cy B i (-1) x.type 0) (cy B i (-1) x.body 0):=by
   unfold eV;rw[if_neg (by omega),if_pos p]
   congr 1
   simp only[bO,bg,Int.add_zero];split
   ·rfl
   ·split
    ·rfl
    ·omega
  rw[u];have n:0<x.sort.length+x.params.length+x.indices.length+x.ctors.length ->pI 8=pI (if 0<x.sort.length+x.params.length+x.indices.length+x.ctors.length then 8 else bg (cy B i (-1) x.type 0) (cy B i (-1) x.body 0)):=λh=>by rw[if_pos h]
  refine ae (λq1=>?_) (λq1=>?_)
  ·exact⟨_,_,rfl,rfl,n (by omega)⟩
  refine ae (λA=>?_) (λA=>?_)
  ·exact⟨_,_,rfl,rfl,n (by omega)⟩
  refine ae (λD=>?_) (λD=>?_)
  ·exact⟨_,_,rfl,rfl,n (by omega)⟩
  refine ae (λE=>?_) (λE=>?_)
  ·exact⟨_,_,rfl,rfl,n (by omega)⟩
  rw[if_neg (by omega)];refine af (o3 hk x.type hX.t 0) ?_;refine ae (λF=>?_) (λF=>?_)
  ·refine af (o3 hk x.body hX.b 0) ?_
   exact⟨_,_,rfl,rfl,by rw[jt (by omega)];rfl⟩
  ·exact⟨_,_,rfl,rfl,by rw[kN (by omega)];rfl⟩
 refine aC τok ?_;have H:(x.kind≠1 \/0<x.type.length+x.body.length) ->pI 8=pI (eV B i x):=λh=>by
  unfold eV
  by_cases O:x.kind=1
  ·rw[if_pos O,if_pos (h.resolve_left (by omega))]
  ·rw[if_neg O,if_neg p]
 refine ae (λq1=>?_) (λq1=>?_)
 ·exact⟨_,_,rfl,rfl,H (.inl q1)⟩
 refine ae (λA=>?_) (λA=>?_)
 ·exact⟨_,_,rfl,rfl,H (by omega)⟩
 refine ae (λD=>?_) (λD=>?_)
 ·exact⟨_,_,rfl,rfl,H (by omega)⟩
 have u:eV B i x=if 16<x.params.length \/16<x.indices.length \/16<x.ctors.length then 5 else bg (cy B i (-1) x.sort 0) (bg (gM x.sort) (bg (bO B i (-1) 1 x.params 0) (bg (bO B i (-1) 1 x.indices (x.params.length:Int)) (fR B i x x.ctors)))):=by
  unfold eV;rw[if_pos (by omega),if_neg (by omega)]
 rw[u];have I:(16<x.params.length \/16<x.indices.length \/16<x.ctors.length) ->pI 5=pI (if 16<x.params.length \/16<x.indices.length \/16<x.ctors.length then 5 else bg (cy B i (-1) x.sort 0) (bg (gM x.sort) (bg (bO B i (-1) 1 x.params 0) (bg (bO B i (-1) 1 x.indices (x.params.length:Int)) (fR B i x x.ctors))))):=λh=>by rw[if_pos h]
 refine aC τok ?_;refine ae (λE=>?_) (λE=>?_)
 ·exact⟨_,_,rfl,rfl,I (by omega)⟩
 refine ae (λF=>?_) (λF=>?_)
 ·exact⟨_,_,rfl,rfl,I (by omega)⟩
 refine ae (λZ=>?_) (λZ=>?_)
 ·exact⟨_,_,rfl,rfl,I (by omega)⟩
 rw[if_neg (by omega)];refine aC τok ?_;refine aC τok ?_;refine af (o3 hk x.sort Y 0) ?_;refine dJ τok (σ:=Unit) [(1,_),(2,_),(4,_),(5,_),(7,_)] [(2,_),(5,_)] (λ_=>[(8,vI (bg (cy B i (-1) x.sort 0) (gM x.sort)))]) (λ_=>[]) (λ_=>True) ?_ ?_
 ·refine ae (λb=>?_) (λb=>?_)
  ·have hs:eH x.sort=0:=by
    unfold cy at b;split at b
    ·exact absurd b (by assumption)
    ·rename_i h;exact Decidable.of_not_not h
   obtain⟨y,hy,hr⟩:=tx hs;have K:=aR y;obtain⟨m,P⟩:∃m,x.sort[0]?=some m:=⟨_,List.getElem?_eq_getElem (by rw[hr];exact K)⟩
   have Q:gM x.sort=if m.op≠2 then 8 else 0:=by unfold gM;rw[List.getD_eq_getElem?_getD,P];rfl
   refine vm 0 P ?_;refine ae (λo=>?_) (λo=>?_)
   ·exact au () trivial (x:=⟨by rw[jt (by omega),Q,if_pos o];rfl,trivial⟩)
   ·exact au () trivial (x:=⟨by rw[jt (by omega),Q,if_neg o,b];rfl,trivial⟩)
  ·exact au () trivial (x:=⟨congrArg (λz=>some (vI z)) (kN (by omega)).symm,trivial⟩)
 rintro _ _;refine dJ τok (σ:=Unit) [(1,_),(2,_),(4,_),(5,_),(7,_)] [(2,_),(5,_)] (λ_=>[(8,vI (bg (bg (cy B i (-1) x.sort 0) (gM x.sort)) (bO B i (-1) 1 x.params 0)))]) (λ_=>[]) (λ_=>True) ?_ ?_
 ·refine ae (λb=>?_) (λb=>?_)
  ·refine af (yw hk hX.p (by omega)) ?_
   exact au () trivial (x:=⟨congrArg (λz=>some (vI z)) (jt (by omega)).symm,trivial⟩)
  ·exact au () trivial (x:=⟨congrArg (λz=>some (vI z)) (kN (by omega)).symm,trivial⟩)
 rintro _ _;have L:((x.params.map λt=>[ah t]).length:Int)=(x.params.length:Int):=by rw[X]
 refine dJ τok (σ:=Unit) [(1,_),(2,_),(4,_),(5,_),(7,_)] [(2,_),(5,_)] (λ_=>[(8,vI (bg (bg (bg (cy B i (-1) x.sort 0) (gM x.sort)) (bO B i (-1) 1 x.params 0)) (bO B i (-1) 1 x.indices (x.params.length:Int))))]) (λ_=>[]) (λ_=>True) ?_ ?_
 ·refine ae (λb=>?_) (λb=>?_)
  ·refine af (show VC prog _ [aY B,pI i,pI (-1),pI ((x.params.map λt=>[ah t]).length:Int),bJ x.indices] _ by rw[L];exact yw hk hX.i (by omega)) ?_
   exact au () trivial (x:=⟨congrArg (λz=>some (vI z)) (jt (by omega)).symm,trivial⟩)
  ·exact au () trivial (x:=⟨congrArg (λz=>some (vI z)) (kN (by omega)).symm,trivial⟩)
 rintro _ _;rw[<- lO,<- lO,<- lO];refine aj τok ?_;refine aB τok (σ:=Nat×Int) [(1,_),(2,_),(4,_),(5,_),(7,_)] [(2,_),(5,_)] (λq=>[(8,vI q.2),(9,vI q.1)]) (λ_=>[]) (λq=>q.1<=x.ctors.length/\bg (bg (bg (bg (cy B i (-1) x.sort 0) (gM x.sort)) (bO B i (-1) 1 x.params 0)) (bO B i (-1) 1 x.indices (x.params.length:Int))) (fR B i x x.ctors)=bg q.2 (fR B i x (x.ctors.drop q.1))) (λq=>x.ctors.length-q.1) (0,_) ⟨KV _,rfl⟩ ?_;rintro⟨k,e⟩ ⟨b,o⟩;simp only at b o;refine aC τok ?_;refine ae (λR=>?_) (λR=>?_)
 ·refine ae (λp=>?_) (λp=>?_)
  ·simp only at p
   obtain⟨c,S,hd⟩:=ay (l:=x.ctors) (k:=k);obtain⟨T,co⟩:=hX.a c (JQ S);have f1:=ak (λt=>[ah t]) c.args;have f2:=ak (λt=>[ah t]) c.out;have a0:=T.1;rw[hd,jt (a:=e) (by omega)]at o;rw[o];have eC:fR B i x (c::x.ctors.drop (k+1))=if 16<c.args.length then 5 else if c.out.length≠x.indices.length then 8 else bg (bg (bO B i i 1 c.args (x.params.length:Int)) (bO B i i 0 c.out ((x.params.length:Int)+(c.args.length:Int)))) (fR B i x (x.ctors.drop (k+1))):=by
    rw[lO]
    rfl
   rw[eC];refine VCode.seq (VCode.blk ?_);refine aC τok ?_;refine vm k S ?_;refine aC τok ?_;refine ae (λk3=>?_) (λk3=>?_)
   ·exact⟨_,_,rfl,rfl,by rw[if_pos (by omega)];rfl⟩
   refine aC τok ?_;refine ae (λk4=>?_) (λk4=>?_)
   ·exact⟨_,_,rfl,rfl,by rw[if_neg (by omega),if_pos (by omega)];rfl⟩
   rw[if_neg (by omega),if_neg (by omega)];refine aj τok ?_;refine af (show VC prog _ [aY B,pI i,pI i,pI ((x.params.map λt=>[ah t]).length:Int),bJ c.args] _ by rw[L];exact yw hk T (by omega)) ?_;refine aB τok (σ:=Nat×Int) [(1,_),(2,_),(4,_),(5,_),(7,_),(9,_),(10,_)] [(2,_),(5,_),(10,_)] (λq=>[(8,vI q.2),(11,vI q.1)]) (λ_=>[]) (λq=>q.1<=c.out.length/\bg (bO B i i 1 c.args (x.params.length:Int)) (bO B i i 0 c.out ((x.params.length:Int)+(c.args.length:Int)))=bg q.2 (bO B i i 0 (c.out.drop q.1) ((x.params.length:Int)+(c.args.length:Int)))) (λq=>c.out.length-q.1) (0,_) ⟨KV _,rfl⟩ ?_;rintro⟨j,v⟩ ⟨j1,r⟩;simp only at j1 r;refine aj τok ?_;have done:(v≠0 \/c.out.length<=j) ->bg (bO B i i 1 c.args (x.params.length:Int)) (bO B i i 0 c.out ((x.params.length:Int)+(c.args.length:Int)))=v:=λh=>by
    rw[r];rcases h with h|h
    ·exact kN h
    ·rw[JY h]
     unfold bg;split
     ·rfl
     ·rename_i h;simp only[bO];omega
   refine ae (λU=>?_) (λU=>?_)
   ·refine ae (λM=>?_) (λM=>?_)
    ·simp only at M
     obtain⟨t,N,a1⟩:=ay (l:=c.out) (k:=j);rw[JS _ _ j t N,jt (a:=v) (by omega)]at r;refine vi ?_;refine vm j N ?_;refine af (show VC prog _ [aY B,pI i,pI i,pI (((x.params.map λt=>[ah t]).length:Int)+((c.args.map λt=>[ah t]).length:Int)),ah t] _ by rw[L,f1];exact o3 hk t (co.2 t (JQ N)) _) ?_;refine vk ?_;refine vi ?_;exact au (j+1,_) ⟨by simp only;omega,r⟩
    ·refine aj τok ?_
     refine vi ?_;exact au (k+1,v) ⟨by simp only;omega,by rw[done (.inl M)]⟩
   ·refine aj τok ?_
    refine vi ?_;exact au (k+1,v) ⟨by simp only;omega,by rw[done (.inr (by simp only at U;omega))]⟩
  ·exact⟨_,_,rfl,rfl,by rw[o,kN p];rfl⟩
 ·exact⟨_,_,rfl,rfl,by
   rw[o,JY (by simp only at R;omega)];refine congrArg pI ?_;simp only;unfold bg;split
   ·rfl
   ·rename_i h;simp only[fR];omega⟩
def iE':List Int ->Int
 |[]=>0
 |a::r=>bg a (iE' r)
theorem o6{P:Program}{f:FuncId}{a:List PV}{n:Int}(h:VC P f a (pI n)){w:World}{C:Mem}{vs:List Value}(hS:Sub C w)(b:cM C a vs):dx P f/\Calls P f vs.toArray w (λe w'=>e= .returned (.int .i64 n)/\Kp [] w w'):=⟨h.1,(h.run.2 w C vs hS b).mono λe w' ⟨v,l,c,i,j⟩=>⟨by rw[c,fM i],j.kp⟩⟩
theorem lP{C:Mem}:cM C [] []:=⟨rfl,λi x v a=>by simp at a⟩
theorem cW{C:Mem}{p:PV}{v:Value}{a:List PV}{vs:List Value}(h:RV C p v)(h2:cM C a vs):cM C (p::a) (v::vs):=⟨congrArg (· +1) h2.1,λi x u b c=>by
 cases i with
 |zero=>obtain rfl:=JB b;obtain rfl:=JB c;exact h
 |succ i=>exact h2.2 i x u b c⟩
theorem nQ{C:Mem}{a:List PV}{vs:List Value}(h:cM C a vs):RV C (.agg a) (.agg vs.toArray):=.agg _ _ h.1 h.2
section
variable{C:Mem}{w:World}{B:aq}{known:Nat}{x:bY}
theorem J0{fs:List (Nat×Array Value)}{rs:List Int}(u:rs.length=fs.length)(E:fs.length<=100){b T:Nat}(hb:Bk w.heap b (fs.map λq=>.func (.func q.1) #[] q.2) T)
  (F:∀(i:Nat) q w',fs[i]?=some q ->Kp [] w w' ->(∀j,j<i ->rs.getD j 0=0) ->dx prog q.1/\Calls prog q.1 (#[]++ #[]++q.2) w' (λe v=>e= .returned (iV (rs.getD i 0))/\Kp [] w' v)):
  CC 121 #[.slice (some ⟨b,0,none⟩) fs.length fs.length] w (λe w'=>e= .returned (iV (iE' rs))/\Kp [] w w'):=by
 refine oF func121 ?_;generalize m:iE' rs=t;refine cO (args:=[_]) 18 [.tmp 2] τok func121 ?_;refine lp τok (σ:=Nat) (λi=>[(6,.slice (some ⟨b,0,none⟩) fs.length fs.length),(7,iV (fs.length:Int)),(8,iV (i:Int))])
  (λi w'=>i<=fs.length/\Kp [] w w'/\(∀j,j<i ->rs.getD j 0=0)/\iE' (rs.drop i)=t) (λi=>fs.length-i) 0 rfl
  ⟨rfl,rfl,rfl,trivial⟩ ⟨KV _,Kp.refl _ _,λj H=>by omega,m⟩ ?_
 clear m
 rintro i y ⟨L,c,z,a⟩;refine dj (λg=>?_) (λg=>?_)
 ·have g:(i:Int)<(fs.length:Int):=g
  obtain⟨q,A,_⟩:=ay (l:=fs) (k:=i);obtain⟨r,I,K⟩:=ay (l:=rs) (k:=i);rw[K]at a;have p:rs.getD i 0=r:=by rw[List.getD_eq_getElem?_getD,I];rfl
  have n:Cl y.heap b (0+i*1) (.func (.func q.1) #[] q.2):=(hb.kp c (by simp)).cl (by rw[Nat.mul_one,KW,JX,A];rfl);refine ix i rfl (by omega) ?_;refine ld (Cl.cell n) ?_;have D:=F i q y A c z;rw[p]at D;refine iv D ?_;rintro e v ⟨rfl,s⟩;simp only[iE',bg]at a;refine dj (λo=>?_) (λo=>?_)
  ·have o:r≠0:=o
   rw[if_pos o]at a;subst a;exact⟨rfl,c.tr s⟩
  ·have o:¬ r≠0:=o
   rw[if_neg o]at a;refine i6 ?_;exact⟨i+1,by omega,rfl,⟨rfl,rfl,rfl,trivial⟩,by omega,c.tr s,λj H=>by
    by_cases h:j=i
    ·subst h
     rw[p];omega
    ·exact z j (by omega),a⟩
 ·have g:¬ (i:Int)<(fs.length:Int):=g
  rw[JY (by omega)]at a;simp only[iE']at a;subst a;exact⟨rfl,c⟩
structure Bxq(C:Mem)(w:World)(B:aq)(known:Nat)(x:bY)(b2 b3:Nat)(us es:List Value):Prop where
 lk:Bk w.heap b2 us 123
 en:Bk w.heap b3 es 67
 u:cM C (nF B++[pI known,pI (-1)]) us
 e:cM C (aU x) es
 k:known<=B.ents.length
 sm:qz x
 lp:x.params.length<=16
theorem Bxq.kp{b2 b3:Nat}{us es:List Value}(h:Bxq C w B known x b2 b3 us es){w':World}(k:Kp [] w w'):Bxq C w' B known x b2 b3 us es:=⟨h.lk.kp k (by simp),h.en.kp k (by simp),h.u,h.e,h.k,h.sm,h.lp⟩
variable{b2 b3:Nat}{us es:List Value}(hS:Sub C w)(h:Bxq C w B known x b2 b3 us es)
include hS h
theorem Ge':CC 122 #[pt b2,pt b3] w (λe w'=>e= .returned (iV (cy B known (-1) x.sort 0))/\Kp [] w w'):=by
 refine oF func122 ?_;have t:=h.sm;have A:=t.s;obtain⟨v,y,a,b,hk,_,_⟩:=h
 match us,es,a,b with
 |[m,n,o,p,q,r,s],[D,E,F,H,I,K,L],a,b=>
 have c:∀j u,[m,n,o,p,q,r,s][j]?=some u ->Cl w.heap b2 (0+j) u:=λj u z=>by rw[KW];exact v.cl z
 refine cO (args:=[_,_]) 7 [.tmp 2] τok func122 ?_;refine j5 [m,n,o,p,q,r,s] rfl c ?_;refine lb y ?_;refine iv (o6 (yz hk (l:=x.sort) (by omega) (below:=0) (by constructor<;>simp)) hS (cW (nQ a) (cW (b.2 1 _ _ rfl rfl) (cW (.int _ _) lP)))) ?_;rintro e M ⟨rfl,i⟩;exact⟨rfl,i⟩
theorem J1(i:0<x.sort.length):CC 123 #[pt b3] w (λe w'=>e= .returned (iV (gM x.sort))/\Kp [] w w'):=by
 refine oF func123 ?_;have l:=h.sm;obtain⟨m,j,c,a,hk,_,_⟩:=h
 match us,es,c,a with
 |[n,o,p,q,r,s,t],[u,v,y,z,A,D,E],c,a=>
 refine cO (args:=[_]) 5 [.tmp 1] τok func123 ?_;refine lb j ?_;refine iv (o6 (JR i) hS (cW (a.2 1 _ _ rfl rfl) lP)) ?_;rintro e F ⟨rfl,b⟩;exact⟨rfl,b⟩
theorem Gg':CC 125 #[pt b2,pt b3] w (λe w'=>e= .returned (.int .i64 (bO B known (-1) 1 x.params 0))/\Kp [] w w'):=by
 refine oF func125 ?_;have s:=h.sm;obtain⟨t,v,a,b,hk,_,_⟩:=h
 match us,es,a,b with
 |[l,m,n,o,p,q,r],[z,A,D,E,F,H,I],a,b=>
 have c:∀j u,[l,m,n,o,p,q,r][j]?=some u ->Cl w.heap b2 (0+j) u:=λj u y=>by rw[KW];exact t.cl y
 refine cO (args:=[_,_]) 7 [.tmp 2] τok func125 ?_;refine j5 [l,m,n,o,p,q,r] rfl c ?_;refine lb v ?_;refine iv (o6 (qS hk s.p (below:=0) (step:=1) (by omega) (by omega)) hS (cW (nQ a) (cW (b.2 2 _ _ rfl rfl) (cW (.int _ _) (cW (.int _ _) lP))))) ?_;rintro e K ⟨rfl,i⟩;exact⟨rfl,i⟩
theorem J2{l T:Nat}(t:Bk w.heap l [iV (x.params.length:Int)] T):CC 127 #[pt b2,pt b3,pt l] w (λe w'=>e= .returned (iV (bO B known (-1) 1 x.indices (x.params.length:Int)))/\Kp [] w w'):=by
 refine oF func127 ?_;have v:=h.sm;have y:=h.lp;obtain⟨z,A,a,b,hk,_,_⟩:=h
 match us,es,a,b with
 |[m,n,o,p,q,r,s],[E,F,H,I,K,L,M],a,b=>
 have c:∀j u,[m,n,o,p,q,r,s][j]?=some u ->Cl w.heap b2 (0+j) u:=λj u D=>by rw[KW];exact z.cl D
 refine cO (args:=[_,_,_]) 9 [.tmp 3] τok func127 ?_;refine j5 [m,n,o,p,q,r,s] rfl c ?_;refine lb A ?_;refine lb t ?_;refine iv (o6 (qS hk v.i (below:=(x.params.length:Int)) (step:=1) (by omega) (by omega)) hS (cW (nQ a) (cW (b.2 3 _ _ rfl rfl) (cW (.int _ _) (cW (.int _ _) lP))))) ?_;rintro e N ⟨rfl,i⟩;exact⟨rfl,i⟩
theorem Gi':CC 128 #[pt b2,pt b3] w (λe w'=>e= .returned (iV (fR B known x x.ctors))/\Kp [] w w'):=by
 refine oF func128 ?_;have t:=h.sm;have a:=h.lp;obtain⟨v,y,b,c,hk,_,_⟩:=h
 match us,es,b,c with
 |[m,n,o,p,q,r,s],[z,A,D,E,F,H,I],b,c=>
 have i:∀j u,[m,n,o,p,q,r,s][j]?=some u ->Cl w.heap b2 (0+j) u:=λj u K=>by rw[KW];exact v.cl K
 refine cO (args:=[_,_]) 6 [.tmp 2] τok func128 ?_;refine j5 [m,n,o,p,q,r,s] rfl i ?_;refine j5 [z,A,D,E,F,H,I] rfl (bZ y) ?_;refine iv (o6 (JP hk t a) hS (cW (nQ b) (cW (nQ c) lP))) ?_;rintro e L ⟨rfl,l⟩;exact⟨rfl,l⟩
end
theorem o7{C:Mem}{l:List (List PV)}{v:Value}(h:RV C (.sl l) v):∃a c,v= .slice a l.length c:=by
 cases h with
 |nil a c=>exact⟨a,c,rfl⟩
 |sl l i b o c f=>exact⟨_,c,rfl⟩
section
variable{B:aq}{known:Nat}{x:bY}(hk:known<=B.ents.length)(hX:qz x)
include hk hX
theorem Ab':VC prog 75 [o5 B known (-1),.agg (aU x)] (pI (eV B known x)):=.of ⟨⟨_,func75,rfl,by decide⟩,λw C vs hS hV=>by
 suffices H:Calls prog 75 vs.toArray w (λe T=>e= .returned (.int .i64 (eV B known x))/\Kp [] w T)from H.mono λe T ⟨e1,k⟩=>⟨_,C,e1,.int _ _,hS.tr k,λ_ _ _ h=>h,λb o v h=>.inl ⟨o,v,h⟩,k⟩
 obtain⟨lv,ev,rfl,g1,p⟩:=xt hV;generalize c:eV B known x=L;unfold eV at c;cases g1 with|agg _ us ul uh=>
 cases p with|agg _ es el eh=>
 have hu:cM C (nF B++[pI known,pI (-1)]) us:=⟨ul,uh⟩
 have r:cM C (aU x) es:=⟨el,eh⟩
 clear ul uh el eh
 match us,es,hu,r with
 |[u0,u1,u2,u3,u4,u5,u6],[e0,e1,e2,e3,e4,e5,e6],hu,r=>
 obtain rfl:=fM (r.2 0 _ _ rfl rfl);obtain⟨V,W,r1⟩:=o7 (r.2 1 _ _ rfl rfl);obtain⟨ap,cp,r2⟩:=o7 (r.2 2 _ _ rfl rfl);obtain⟨ai,ci,r3⟩:=o7 (r.2 3 _ _ rfl rfl);obtain⟨ac,cc,r4⟩:=o7 (r.2 4 _ _ rfl rfl);obtain⟨s,t,r5⟩:=o7 (r.2 5 _ _ rfl rfl);obtain⟨X,Y,r6⟩:=o7 (r.2 6 _ _ rfl rfl);rw[List.length_map]at r1 r2 r3 r4 r5 r6;subst r1 r2 r3 r4 r5 r6;have l1:=hX.s;have l2:=hX.p.1;have l3:=hX.i.1;have l4:=hX.c;have l5:=hX.t;have l6:=hX.b;refine cO (args:=[_,_]) 69 [.tmp 4] τok func75 ?_;refine iO λb2 w1 a' U b0 a4=>?_;have U:Bk w1.heap b2 [u0,u1,u2,u3,u4,u5,u6] 123:=U;refine iO λb3 w2 b1 n b4 Z=>?_;have n:Bk w2.heap b3 [.int .i64 x.kind,.slice V x.sort.length W,.slice ap x.params.length cp,.slice ai x.indices.length ci,.slice ac x.ctors.length cc,.slice s x.type.length t,.slice X x.body.length Y] 67:=n;have U:=U.kp Z (by simp);have m:=a4.tr Z;refine lb n ?_;refine dj (λM=>?_) (λM=>?_)
 ·have M:x.kind=1:=M
  rw[if_pos M]at c;refine lb n ?_;refine lb n ?_;refine i6 ?_;refine dj (λp=>?_) (λp=>?_)
  ·have p:(0:Int)<(x.type.length:Int)+(x.body.length:Int):=p
   rw[if_pos (by omega)]at c;subst c;exact⟨rfl,m⟩
  have p:¬ (0:Int)<(x.type.length:Int)+(x.body.length:Int):=p;rw[if_neg (by omega)]at c;have N:∀{T},Kp [] w T ->L=5 ->Ending.returned (Go.Wx.one [.int .i64 5])= .returned (.int .i64 L)/\Kp [] w T:=λk h=>by subst h;exact⟨rfl,k⟩
  refine lb n ?_;refine dj (λA=>?_) (λA=>?_)
  ·have A:(16:Int)<(x.params.length:Int):=A
   rw[if_pos (.inl (by omega))]at c;exact N m c.symm
  have A:¬ (16:Int)<(x.params.length:Int):=A;refine lb n ?_;refine dj (λg4=>?_) (λg4=>?_)
  ·have g4:(16:Int)<(x.indices.length:Int):=g4
   rw[if_pos (.inr (.inl (by omega)))]at c;exact N m c.symm
  have g4:¬ (16:Int)<(x.indices.length:Int):=g4;refine lb n ?_;refine dj (λg5=>?_) (λg5=>?_)
  ·have g5:(16:Int)<(x.ctors.length:Int):=g5
   rw[if_pos (.inr (.inr (by omega)))]at c;exact N m c.symm
  have g5:¬ (16:Int)<(x.ctors.length:Int):=g5;rw[if_neg (by omega)]at c;refine lb n ?_;refine iO λK w3 a0 I a5 O=>?_;refine st (b:=K) (o:=0) I (by simp) rfl λw4 I b7 P=>?_;have I:Bk w4.heap K [.int .i64 (x.params.length:Int)] 3:=I;have a6:=O.newSt a0 P;refine fill [.func (.func 122) #[] #[pt b2,pt b3],.func (.func 123) #[] #[pt b3],.func (.func 125) #[] #[pt b2,pt b3],.func (.func 127) #[] #[pt b2,pt b3,pt K],.func (.func 128) #[] #[pt b2,pt b3]] rfl ?_;refine iO λb6 w5 b8 h6 b9 a1=>?_;have Q:=a6.tr a1;have a2:=m.tr Q;have I:=I.kp a1 (by simp);have a7:Bxq C w5 B known x b2 b3 [u0,u1,u2,u3,u4,u5,u6] [.int .i64 x.kind,.slice V x.sort.length W,.slice ap x.params.length cp,.slice ai x.indices.length ci,.slice ac x.ctors.length cc,.slice s x.type.length t,.slice X x.body.length Y]:=⟨U.kp Q (by simp),n.kp Q (by simp),hu,r,hk,hX,by omega⟩
  have a8:=J0 (w:=w5) (fs:=[(122,#[pt b2,pt b3]),(123,#[pt b3]),(125,#[pt b2,pt b3]),(127,#[pt b2,pt b3,pt K]),(128,#[pt b2,pt b3])])
   (rs:=[cy B known (-1) x.sort 0,gM x.sort,bO B known (-1) 1 x.params 0,bO B known (-1) 1 x.indices (x.params.length:Int),fR B known x x.ctors]) rfl (by simp) h6 (λi q T hq R hz=>by
    have D:=(hS.tr a2).tr R;have E:=a7.kp R
    match i,hq with
    |0,rfl=>exact Ge' D E
    |1,rfl=>
     refine J1 D E ?_;rw[(tu (by omega) (hz 0 (by omega))).1];exact aR _
    |2,rfl=>exact Gg' D E
    |3,rfl=>exact J2 D E (I.kp R (by simp))
    |4,rfl=>exact Gi' D E)
  refine iv a8 ?_;rintro e w6 ⟨rfl,a9⟩;have:iE' [cy B known (-1) x.sort 0,gM x.sort,bO B known (-1) 1 x.params 0,bO B known (-1) 1 x.indices (x.params.length:Int),fR B known x x.ctors]=L:=by
   rw[<- c];have e:∀a,bg a 0=a:=λa=>by unfold bg;split<;>omega
   simp only[iE',e]
  rw[this];exact⟨rfl,a2.tr a9⟩
 have M:¬ x.kind=1:=M;rw[if_neg M]at c;refine dj (λp=>?_) (λp=>?_)
 ·have p:x.kind=2:=p
  rw[if_pos p]at c;refine lb n ?_;refine lb n ?_;refine i6 ?_;refine lb n ?_;refine i6 ?_;refine lb n ?_;refine i6 ?_;refine dj (λA=>?_) (λA=>?_)
  ·have A:(0:Int)<(x.sort.length:Int)+(x.params.length:Int)+(x.indices.length:Int)+(x.ctors.length:Int):=A
   rw[if_pos (by omega)]at c;subst c;exact⟨rfl,m⟩
  have A:¬ (0:Int)<(x.sort.length:Int)+(x.params.length:Int)+(x.indices.length:Int)+(x.ctors.length:Int):=A;rw[if_neg (by omega)]at c;refine j5 [u0,u1,u2,u3,u4,u5,u6] rfl (bZ U) ?_;refine lb n ?_;refine lb n ?_;refine fill [.slice s x.type.length t,.slice X x.body.length Y] rfl ?_;refine iO λK w3 a0 I a5 O=>?_;have a3:=m.tr O;have F:∀j u,[Value.slice s x.type.length t,.slice X x.body.length Y][j]?=some u ->Cn C w w3 K (0+j) u:=λj u hj=>by
   refine .inr ⟨by have:=m.size;omega,?_⟩;rw[KW];exact I.cu hj
  have S:RV (Cn C w w3) (bJ [x.type,x.body]) (.slice (some ⟨K,0,none⟩) 2 2):=by
   refine .sl _ 1 K 0 2 (λi _=>[Value.slice s x.type.length t,.slice X x.body.length Y].getD i undef) (λy hy=>by simp[bJ]at hy;rcases hy with rfl|rfl<;>rfl) (KJ 2) (λi j y z hy hz=>?_) λi j y z hy hz=>?_
   all_goals match i,j,hy,hz with
    |0,0,rfl,rfl=>first|exact F 0 _ rfl|exact(r.2 5 _ _ rfl rfl).mono λ_ _ _ h=>.inl h
    |1,0,rfl,rfl=>first|exact F 1 _ rfl|exact(r.2 6 _ _ rfl rfl).mono λ_ _ _ h=>.inl h
  refine iv (o6 (qS (B:=B) hk (ls:=[x.type,x.body]) (self:=-1) (below:=0) (step:=0) ⟨by simp,λl hl=>by simp at hl;rcases hl with rfl|rfl;exact hX.t;exact hX.b⟩ (by omega) (by omega)) (Cn.sub hS a3) (cW ((nQ hu).mono λ_ _ _ h=>.inl h) (cW S (cW (.int _ _) (cW (.int _ _) lP))))) ?_;rintro e w4 ⟨rfl,P⟩;subst c;exact⟨rfl,a3.tr P⟩
 have p:¬ x.kind=2:=p;rw[if_neg p]at c;subst c;exact⟨rfl,m⟩⟩
end
theorem tG(l:List Int)(v:Nat)(x y:Int):(l.map iP).set v ((iP x).set 0 (pI y))=(l.set v y).map iP:=by rw[List.map_set];rfl
theorem mS{d:List Int}{v:Nat}(h:v<d.length):d[v]?=some (gt d v):=by
 unfold gt;rw[List.getD_eq_getElem?_getD,List.getElem?_eq_getElem h]
 rfl
def J3(r:Option (List Int)):PV:=match r with
 |some d=>.tup [.sl (d.map iP),.bool true]
 |none=>.tup [.sl [],.bool false]
theorem DX{vars:Int}{n:Nat}(R:(n:Int)=vars+1)(S:n<=17){os:List aQ}(T:Lv.Good n os)(hl:os.length<=64){low:Nat}(m:low<n):VC prog 131 [pI vars,.sl (os.map eg),pI low] (J3 (jK n os low)):=by
 have eO:=ak eg os;have ini:=qs os m;refine vf 107 [.tmp 6,.tmp 7] τok func131 ?_;refine vi ?_;refine Ao n ?_ R.symm R.symm;refine aB τok (σ:=Nat×List Int) [(0,_),(1,_),(2,_),(6,_),(7,_),(8,_)] [] (λq=>[(9,vI q.1)]) (λq=>[(17,.rw 3 1 (q.2.map iP))]) (λq=>q.1<=n/\q.2.length=n/\∀j,j<q.1 ->q.2[j]?=some non) (λq=>n-q.1) (0,List.replicate n 0) ⟨KV _,by simp,λj z=>absurd z (by simp)⟩ ?_ (y1:=⟨congrArg (λl=>some (SE.rw _ _ l)) (by rw[List.map_replicate];rfl),trivial⟩);rintro⟨v,l⟩ ⟨L,A,a⟩;simp only at L A a;refine aj τok ?_;refine ae (λg=>?_) (λg=>?_)
 ·simp only at g
  have U:=mS (d:=l) (v:=v) (by omega);refine vm v U ?_;refine dN U ?_;refine vi ?_;refine au (v+1,l.set v non) ⟨by simp only;omega,by simp[A],λj z=>?_⟩ (y':=⟨congrArg (λl=>some (SE.rw _ _ l)) (tG l v _ _),trivial⟩);simp only at z ⊢;rw[List.getElem?_set]
  by_cases e:v=j
  ·rw[if_pos e,if_pos (by omega)]
  ·rw[if_neg e]
   exact a j (by omega)
 simp only at g;have M:l=List.replicate n non:=by
  refine List.ext_getElem? λj=>?_
  by_cases z:j<n
  ·rw[a j (by omega),List.getElem?_replicate,if_pos z]
  ·rw[List.getElem?_eq_none (by omega),List.getElem?_eq_none (by simp;omega)]
 subst M;refine vm low (mS (by simpa using m)) ?_;refine dN (mS (by simpa using m)) ?_;refine aB τok (σ:=Nat×List Int) [(0,_),(1,_),(2,_),(6,_),(7,_),(8,_)] [] (λq=>[(10,vI q.1)]) (λq=>[(17,.rw 3 1 (q.2.map iP))]) (λq=>q.1<=n+1/\Inv n os low (64000*q.1) q.2/\jK n os low=ly n os (n+1-q.1) q.2) (λq=>n+1-q.1) (0,(List.replicate n non).set low 0) ⟨KV _,by simpa using ini.1,rfl⟩ ?_ (y1:=⟨congrArg (λl=>some (SE.rw _ _ l)) (tG _ low _ _),trivial⟩);rintro⟨r,d⟩ ⟨L,A,a⟩;simp only at L A a;refine aj τok ?_;refine vi ?_;refine ae (λg=>?_) (λg=>?_)
 ·simp only at g
  obtain⟨c,X⟩:∃c,n+1-r=c+1:=⟨n-r,by omega⟩
  rw[X]at a;simp only[ly]at a;have Y:=wA A (by omega);refine aB τok (σ:=Nat) [(0,_),(1,_),(2,_),(6,_),(7,_),(8,_),(10,_)] [] (λv=>[(11,.c (.p (.bool (aM bC v (d,false)).2))),(12,vI v)]) (λv=>[(17,.rw 3 1 ((aM bC v (d,false)).1.map iP))]) (λv=>v<=n) (λv=>n-v) 0 (KV _) ?_;rintro v Z;obtain⟨V,_⟩:=Y v Z;have a0:=V.len;refine aj τok ?_;refine ae (λk2=>?_) (λk2=>?_)
  ·have x0:=mS (d:=(aM bC v (d,false)).1) (v:=0) (by omega)
   have t:=mS (d:=(aM bC v (d,false)).1) (v:=v) (by omega);have e:aM bC (v+1) (d,false)=bC v (aM bC v (d,false)):=rfl;have u:¬ (gt (aM bC v (d,false)).1 0≠non/\gt (aM bC v (d,false)).1 v<gt (aM bC v (d,false)).1 0) ->bC v (aM bC v (d,false))=aM bC v (d,false):=λh=>if_neg h;refine vm 0 x0 ?_;refine dN x0 ?_;refine ae (λD=>?_) (λD=>?_)
   ·refine vm v t ?_
    refine dN t ?_;refine vm 0 x0 ?_;refine dN x0 ?_;refine ae (λy=>?_) (λy=>?_)
    ·have s:bC v (aM bC v (d,false))=((aM bC v (d,false)).1.set v (gt (aM bC v (d,false)).1 0),true):=if_pos ⟨D,y⟩
     refine vk ?_;refine vm 0 x0 ?_;refine dN x0 ?_;refine vm v t ?_;refine dN t ?_;refine vi ?_;exact au (v+1) (by show v+1<=n;omega) (x:=⟨by rw[e,s];rfl,rfl,trivial⟩) (y':=⟨congrArg (λl=>some (SE.rw _ _ l)) (by rw[e,s];exact tG _ _ _ _),trivial⟩)
    ·refine vk ?_
     refine vi ?_;exact au (v+1) (by show v+1<=n;omega) (x:=⟨by rw[e,u λq=>y q.2];rfl,rfl,trivial⟩) (y':=⟨by rw[e,u λq=>y q.2];rfl,trivial⟩)
   ·refine vk ?_
    refine vi ?_;exact au (v+1) (by show v+1<=n;omega) (x:=⟨by rw[e,u λq=>D q.1];rfl,rfl,trivial⟩) (y':=⟨by rw[e,u λq=>D q.1];rfl,trivial⟩)
  have N:v=n:=by omega
  subst N;refine aB τok (σ:=Nat) [(0,_),(1,_),(2,_),(6,_),(7,_),(8,_),(10,_)] [] (λi=>[(11,.c (.p (.bool ((os.take i).foldl cv (aM bC v (d,false))).2))),(13,vI i)]) (λi=>[(17,.rw 3 1 (((os.take i).foldl cv (aM bC v (d,false))).1.map iP))]) (λi=>i<=os.length) (λi=>os.length-i) 0 (KV _) ?_;rintro i D;have O:=wB T (os.take i) (64000*r) (aM bC v (d,false)) (λo E=>List.mem_of_mem_take E) V (by rw[List.length_take];omega);obtain⟨b,_⟩:=O;have P:=b.len;rw[List.length_take]at b;refine aj τok ?_;refine ae (λy=>?_) (λy=>?_)
  ·obtain⟨o,E,hd⟩:=ay (l:=os) (k:=i)
   have Q:=T o (JQ E);unfold Rg at Q;have e:(os.take (i+1)).foldl cv (aM bC v (d,false))=cv ((os.take i).foldl cv (aM bC v (d,false))) o:=by
    rw[List.take_add_one,E,Option.toList,List.foldl_append]
    rfl
   have W:=b.bd o.low.toNat (by omega);have x0:=mS (d:=((os.take i).foldl cv (aM bC v (d,false))).1) (v:=o.low.toNat) (by omega);have t:=mS (d:=((os.take i).foldl cv (aM bC v (d,false))).1) (v:=o.high.toNat) (by omega);have u:¬ (gt ((os.take i).foldl cv (aM bC v (d,false))).1 o.low.toNat≠non/\gt ((os.take i).foldl cv (aM bC v (d,false))).1 o.high.toNat<gt ((os.take i).foldl cv (aM bC v (d,false))).1 o.low.toNat+o.add) ->cv ((os.take i).foldl cv (aM bC v (d,false))) o=((os.take i).foldl cv (aM bC v (d,false))):=λh=>if_neg h;refine vm i E ?_;refine vm o.low.toNat x0 ?_;refine dN x0 ?_;refine ae (λF=>?_) (λF=>?_)
   ·have W:=W.resolve_left F
    refine vm o.high.toNat t ?_;refine dN t ?_;refine vm o.low.toNat x0 ?_;refine dN x0 ?_;refine vi ?_;refine ae (λI=>?_) (λI=>?_)
    ·have s:cv ((os.take i).foldl cv (aM bC v (d,false))) o=(((os.take i).foldl cv (aM bC v (d,false))).1.set o.high.toNat (gt ((os.take i).foldl cv (aM bC v (d,false))).1 o.low.toNat+o.add),true):=if_pos ⟨F,I⟩
     refine vk ?_;refine vm o.low.toNat x0 ?_;refine dN x0 ?_;refine vi ?_;refine vm o.high.toNat t ?_;refine dN t ?_;refine vk ?_;refine vi ?_;exact au (i+1) (by show i+1<=_;omega) (x:=⟨by rw[e,s];rfl,rfl,trivial⟩) (y':=⟨congrArg (λl=>some (SE.rw _ _ l)) (by rw[e,s];exact tG _ _ _ _),trivial⟩)
    ·refine vk ?_
     refine vi ?_;exact au (i+1) (by show i+1<=_;omega) (x:=⟨by rw[e,u λq=>I q.2];rfl,rfl,trivial⟩) (y':=⟨by rw[e,u λq=>I q.2];rfl,trivial⟩)
   ·refine vk ?_
    refine vi ?_;exact au (i+1) (by show i+1<=_;omega) (x:=⟨by rw[e,u λq=>F q.1];rfl,rfl,trivial⟩) (y':=⟨by rw[e,u λq=>F q.1];rfl,trivial⟩)
  ·rw[JG (by omega)]at b P
   have er:bT v os d=os.foldl cv (aM bC v (d,false)):=rfl;have K:(os.take i).foldl cv (aM bC v (d,false))=bT v os d:=by rw[JG (by omega)];rfl
   rw[<- er]at b;refine br (λH=>?_) (λH=>?_)
   ·rw[K]at H
    rw[if_neg (by simpa using H)]at a;exact⟨_,_,rfl,rfl,by rw[a,<- K];rfl⟩
   ·rw[K]at H
    rw[if_pos (by simpa using H)]at a;refine vi ?_;exact au (r+1,(bT v os d).1) ⟨by simp only;omega,b.mono (by simp only;omega),by rw[a,show v+1-(r+1)=c by omega]⟩ (y':=⟨by rw[<- K];rfl,trivial⟩)
 ·simp only at g
  rw[show n+1-r=0 by omega]at a;exact⟨_,_,rfl,rfl,by rw[a];rfl⟩
def ju(l:List Atom)(i:Nat):Int:=if i=0 then -1 else ((l[i-1]?).map (·.var)).getD 0
theorem qT{l:List Atom}(hl:l.length<=1000000)(vars:Int):VC prog 106 [bX l,pI vars] (.bool (cE l vars)):=by
 have H:=ak atP l;have m:(vars<0 \/16<vars \/l.length<1 \/4<l.length) ->PV.bool false= .bool (cE l vars):=λh=>by unfold cE;rw[if_pos h]
 refine vf 75 [.tmp 4] τok func106 ?_;refine ae (λn=>?_) (λn=>?_)
 ·exact⟨_,_,rfl,rfl,m (.inl n)⟩
 refine ae (λo=>?_) (λo=>?_)
 ·exact⟨_,_,rfl,rfl,m (.inr (.inl o))⟩
 refine ae (λq=>?_) (λq=>?_)
 ·exact⟨_,_,rfl,rfl,m (by omega)⟩
 refine ae (λr=>?_) (λr=>?_)
 ·exact⟨_,_,rfl,rfl,m (by omega)⟩
 have s:cE l vars=fc vars l (-1):=by unfold cE;rw[if_neg (by omega)]
 rw[s];refine vl τok (σ:=Nat) [(0,_),(1,_)] (λi=>[(5,vI i)]) (λi=>i<=l.length/\ -1<=ju l i/\fc vars l (-1)=fc vars (l.drop i) (ju l i)) (λi=>l.length-i) 0 ⟨KV _,by simp[ju],rfl⟩ ?_;rintro i ⟨I,K,c⟩;refine ae (λg=>?_) (λg=>?_)
 ·obtain⟨x,j,t⟩:=ay (l:=l) (k:=i)
  rw[t]at c;simp only[fc]at c;have a:(x.var<=ju l i \/vars<x.var \/x.add<0 \/1000<x.add) ->PV.bool false= .bool (fc vars l (-1)):=λh=>by rw[c,if_pos h]
  refine vm i j ?_;refine ae (λu=>?_) (λu=>?_)
  ·exact⟨_,_,rfl,rfl,a (by omega)⟩
  refine vm i j ?_;refine ae (λv=>?_) (λv=>?_)
  ·exact⟨_,_,rfl,rfl,a (by omega)⟩
  refine vm i j ?_;refine ae (λz=>?_) (λz=>?_)
  ·exact⟨_,_,rfl,rfl,a (by omega)⟩
  refine vm i j ?_;refine ae (λA=>?_) (λA=>?_)
  ·exact⟨_,_,rfl,rfl,a (by omega)⟩
  have nx:ju l (i+1)=x.var:=by unfold ju;rw[if_neg (by omega),Nat.add_sub_cancel,j];rfl
  have b:ju l i<x.var ->fc vars l (-1)=fc vars (l.drop (i+1)) (ju l (i+1)):=λh=>by rw[c,if_neg (by omega),nx]
  refine ae (λD=>?_) (λD=>?_)
  ·obtain⟨y,p⟩:∃y,l[i-1]?=some y:=⟨_,gE⟩
   have E:ju l i=y.var:=by unfold ju;rw[if_neg (by omega),p];rfl
   refine vm i j ?_;refine vi ?_;refine vm (i-1) p ?_;refine ae (λF=>?_) (λF=>?_)
   ·refine vk ?_
    exact⟨_,_,rfl,rfl,a (by omega)⟩
   ·refine vk ?_
    refine vi ?_;exact au (i+1) ⟨by omega,by omega,b (by omega)⟩
  ·have E:ju l i= -1:=by unfold ju;rw[if_pos (by omega)]
   refine vk ?_;refine vi ?_;exact au (i+1) ⟨by omega,by omega,b (by omega)⟩
 ·rw[JY (by omega)]at c
  exact⟨_,_,rfl,rfl,by rw[c];rfl⟩
theorem DY{vars:Int}{o:aQ}:cP vars o=true↔(o.low<0 \/vars<o.low \/o.high<0 \/vars<o.high \/o.add< -1000 \/1000<o.add):=by
 unfold cP;exact decide_eq_true_iff
theorem DZ{vars:Int}{os:List aQ}(hl:os.length<=1000000):VC prog 79 [pI vars,.sl (os.map eg)] (pI (gW vars os)):=by
 have N:=ak eg os;refine vf 73 [.tmp 4] τok func79 ?_;refine ae (λt=>?_) (λt=>?_)
 ·exact⟨_,_,rfl,rfl,by unfold gW;rw[if_pos (.inl t)];rfl⟩
 refine ae (λy=>?_) (λy=>?_)
 ·exact⟨_,_,rfl,rfl,by unfold gW;rw[if_pos (.inr y)];rfl⟩
 refine ae (λD=>?_) (λD=>?_)
 ·exact⟨_,_,rfl,rfl,by unfold gW;rw[if_neg (by omega),if_pos (by omega)];rfl⟩
 have E:gW vars os=if os.any (cP vars)then 1 else if (List.range (vars.toNat+1)).all (λv=>(jK (vars.toNat+1) os v).isSome)then 0 else 7:=by unfold gW;rw[if_neg (by omega),if_neg (by omega)]
 rw[E];refine vl τok (σ:=Nat) [(0,_),(1,_),(4,_)] (λi=>[(5,vI i)]) (λi=>i<=os.length/\∀o∈os.take i,cP vars o=false) (λi=>os.length-i) 0 ⟨KV _,by simp⟩ ?_;rintro i ⟨O,r⟩;refine ae (λg=>?_) (λg=>?_)
 ·obtain⟨o,c,P⟩:=ay (l:=os) (k:=i)
  have a:(o.low<0 \/vars<o.low \/o.high<0 \/vars<o.high \/o.add< -1000 \/1000<o.add) ->pI 1=pI (if os.any (cP vars)then 1 else if (List.range (vars.toNat+1)).all (λv=>(jK (vars.toNat+1) os v).isSome)then 0 else 7):=λh=>by
   rw[if_pos (List.any_eq_true.2 ⟨o,JQ c,DY.2 h⟩)]
  refine vm i c ?_;refine ae (λz=>?_) (λz=>?_)
  ·exact⟨_,_,rfl,rfl,a (by omega)⟩
  refine ae (λm=>?_) (λm=>?_)
  ·exact⟨_,_,rfl,rfl,a (by omega)⟩
  refine ae (λs=>?_) (λs=>?_)
  ·exact⟨_,_,rfl,rfl,a (by omega)⟩
  refine ae (λF=>?_) (λF=>?_)
  ·exact⟨_,_,rfl,rfl,a (by omega)⟩
  refine ae (λH=>?_) (λH=>?_)
  ·exact⟨_,_,rfl,rfl,a (by omega)⟩
  refine ae (λI=>?_) (λI=>?_)
  ·exact⟨_,_,rfl,rfl,a (by omega)⟩
  refine vi ?_;refine au (i+1) ⟨by omega,λp A=>?_⟩;rw[List.take_add_one,c,Option.toList]at A;rcases List.mem_append.1 A with h|h
  ·exact r p h
  ·obtain rfl:=List.mem_singleton.1 h
   cases K:cP vars p with
   |false=>rfl
   |true=>have:=DY.1 K;omega
 rw[JG (by omega)]at r;have b:os.any (cP vars)=false:=by
  rw[List.any_eq_false];exact λo c=>by simp[r o c]
 rw[b];have L:=sL (by omega) b;refine vl τok (σ:=Nat) [(0,_),(1,_),(4,_)] (λv=>[(7,vI v)]) (λv=>v<=vars.toNat+1/\∀u,u<v ->(jK (vars.toNat+1) os u).isSome=true) (λv=>vars.toNat+1-v) 0 ⟨KV _,λu q=>absurd q (by omega)⟩ ?_;rintro v ⟨z,m⟩;refine ae (λs=>?_) (λs=>?_)
 ·have M:=DX (vars:=vars) (n:=vars.toNat+1) (by omega) (by omega) L (by omega) (low:=v) (by omega)
  refine af M ?_;cases j:jK (vars.toNat+1) os v with
  |none=>
   exact⟨_,_,rfl,rfl,by
    rw[if_neg (by decide),if_neg]
    ·rfl
    ·intro h
     have:=List.all_eq_true.1 h v (List.mem_range.2 (by omega));rw[j]at this;cases this⟩
  |some d=>
   refine vi ?_;refine au (v+1) ⟨by omega,λu q=>?_⟩
   by_cases e:u=v
   ·rw[e,j];rfl
   ·exact m u (by omega)
 ·exact⟨_,_,rfl,rfl,by
   rw[if_neg (by decide),if_pos]
   ·rfl
   ·exact List.all_eq_true.2 λu q=>m u (by have:=List.mem_range.1 q;omega)⟩
theorem check_of'{vars:Int}{os:List aQ}:(∃g,ee vars os= .ok g/\gW vars os=0) \/∃n,ee vars os= .error n/\gW vars os=n/\n≠0:=by
 have a:=Bq vars os;cases b:ee vars os with
 |ok g=>rw[b]at a;exact .inl ⟨g,rfl,a⟩
 |error n=>
  rw[b]at a;exact .inr ⟨n,rfl,a,by rcases closedF_err b with ⟨_,h⟩|⟨_,_,h⟩|⟨_,_,_,h⟩|⟨_,_,_,h,_⟩<;>omega⟩
theorem D0{vars:Int}{os:List aQ}{a b:List Atom}(W:os.length<=1000000)(ha:a.length<=1000000)(hb:b.length<=1000000):VC prog 166 [pI vars,.sl (os.map eg),bX a,bX b] (.bool (jl vars os a b)):=by
 have eA:=ak atP a;have eB:=ak atP b;have N:=DZ (vars:=vars) W;have O:=qT ha vars;have P:=qT hb vars;refine vf 86 [.tmp 8] τok func166 ?_;refine af N ?_;rcases check_of' (vars:=vars) (os:=os)with ⟨g,L,X⟩|⟨n,L,X,hn⟩
 ·have A:jl vars os a b=(cE a vars && cE b vars && a.all λx=>b.any (dd g x)):=by unfold jl;rw[L]
  obtain⟨D,Y,Z,q,E⟩:=Bg L;have m:=sL Y E;refine vn ?_;refine bB O (λF=>?_) (λF=>?_)
  ·refine bB P (λM=>?_) (λM=>?_)
   ·rw[A,F,M]
    have aa:=jm F;have ab:=jm M;refine vl τok (σ:=Nat) [(0,_),(1,_),(2,_),(3,_)] (λi=>[(9,vI i)]) (λi=>i<=a.length/\∀x∈a.take i,b.any (dd g x)=true) (λi=>a.length-i) 0 ⟨KV _,by simp⟩ ?_;rintro i ⟨g1,Q⟩;refine ae (λk1=>?_) (λk1=>?_)
    ·obtain⟨x,H,hd⟩:=ay (l:=a) (k:=i)
     obtain⟨x1,x2,x3,x4⟩:=aa.2 x (JQ H);have r:x.var.toNat<vars.toNat+1:=by omega
     obtain⟨d,t⟩:=Bp (by omega) m q D r;obtain⟨dl,dv⟩:=Hd (by omega) m q D r t;have ini:=qs os r;have R:=(sK m q _ 0 _ d ini.1 (by omega) t).1.bd;have T:=DX (vars:=vars) (n:=vars.toNat+1) (by omega) (by omega) m q r;rw[t,show ((x.var.toNat:Nat):Int)=x.var by omega]at T;refine vm i H ?_;refine af T ?_;refine vl τok (σ:=Nat) [(0,_),(1,_),(2,_),(3,_),(9,_),(10,_)] (λj=>[(12,.c (.p (.bool ((b.take j).any (dd g x))))),(13,vI j)]) (λj=>j<=b.length) (λj=>b.length-j) 0 (KV _) ?_;rintro j k2;refine ae (λk3=>?_) (λk3=>?_)
     ·obtain⟨y,I,hd⟩:=ay (l:=b) (k:=j)
      obtain⟨y1,y2,y3,y4⟩:=ab.2 y (JQ I);have K:=mS (d:=d) (v:=y.var.toNat) (by omega);have u:(b.take (j+1)).any (dd g x)=((b.take j).any (dd g x)||dd g x y):=by
       rw[List.take_add_one,I,Option.toList,List.any_append];simp
      have ev:=λ(_:Unit)=>dv y.var.toNat (by omega);have U:=R y.var.toNat (by omega);rw[show ((x.var.toNat:Nat):Int)=x.var by omega,show ((y.var.toNat:Nat):Int)=y.var by omega]at ev;refine vm j I ?_;refine vm y.var.toNat K ?_;refine ae (λo=>?_) (λo=>?_)
      ·have U:=U.resolve_left o
       obtain⟨p,S,a0,_⟩:=(ev ()).resolve_left λh=>o h.2
       clear ev
       have s:dd g x y=decide (x.add-y.add<=p):=by unfold dd;rw[S]
       refine vm i H ?_;refine vm j I ?_;refine vm y.var.toNat K ?_;refine vm j I ?_;refine vi ?_;refine ae (λk5=>?_) (λk5=>?_)
       ·refine vk ?_
        refine vi ?_;exact au (j+1) (by show j+1<=_;omega) (x:=⟨by rw[u,s,decide_eq_true (by omega),Bool.or_true];rfl,rfl,trivial⟩)
       ·refine vk ?_
        refine vi ?_;exact au (j+1) (by show j+1<=_;omega) (x:=⟨by rw[u,s,decide_eq_false (by omega),Bool.or_false];rfl,rfl,trivial⟩)
      ·have s:dd g x y=false:=by
        rcases ev ()with ⟨h,_⟩|⟨p,h,h2,h3⟩
        ·unfold dd;rw[h]
        ·exact absurd h2 (by rw[show gt d y.var.toNat=non from Decidable.of_not_not o];exact λe=>h3 e.symm)
       refine vk ?_;refine vi ?_;exact au (j+1) (by show j+1<=_;omega) (x:=⟨by rw[u,s,Bool.or_false];rfl,rfl,trivial⟩)
     ·have u:(b.take j).any (dd g x)=b.any (dd g x):=by rw[JG (by omega)]
      refine br (λo=>?_) (λo=>?_)
      ·have o:b.any (dd g x)=false:=by rw[<- u];simpa using o
       exact⟨_,_,rfl,rfl,by
        have:(a.all λx=>b.any (dd g x))=false:=by
         rw[List.all_eq_false];exact⟨x,JQ H,by rw[o];decide⟩
        rw[this]
        rfl⟩
      ·have o:b.any (dd g x)=true:=by rw[<- u];simpa using o
       refine vi ?_;refine au (i+1) ⟨by omega,λz V=>?_⟩;rw[List.take_add_one,H,Option.toList]at V;rcases List.mem_append.1 V with h|h
       ·exact Q z h
       ·obtain rfl:=List.mem_singleton.1 h
        exact o
    ·rw[JG (by omega)]at Q
     exact⟨_,_,rfl,rfl,by
      have:(a.all λx=>b.any (dd g x))=true:=List.all_eq_true.2 Q;rw[this]
      rfl⟩
   ·exact⟨_,_,rfl,rfl,by rw[A,F,M];rfl⟩
  ·exact⟨_,_,rfl,rfl,by rw[A,F];rfl⟩
 ·have A:jl vars os a b=false:=by unfold jl;rw[L]
  refine vy ?_;exact⟨_,_,rfl,rfl,by rw[A];rfl⟩
theorem J4(vars:Int)(os:List aQ):gW vars os=oE vars os:=by
 rw[Bq]
 rfl
def gF(l:List (Int×Int)):G:=l.foldl (λg p=>putG (putG g p.1 (-1) 1) (-1) p.2 1) λ_ _=>none
theorem D1(l:List (Int×Int))(p:Int×Int):gF (l++[p])=putG (putG (gF l) p.1 (-1) 1) (-1) p.2 1:=by
 unfold gF;rw[List.foldl_append]
 rfl
theorem J5{l:List (Int×Int)}(h:∀p∈l,0<=p.1/\1<=p.2){e d:Int}(he:0<=e)(y:1<=d):(0<(gF l e (-1)).getD 0+(gF l (-1) d).getD 0↔∃p∈l,p.1=e \/p.2=d)/\0<=(gF l e (-1)).getD 0/\0<=(gF l (-1) d).getD 0:=by
 have i:∀r:List (Int×Int),(∀p∈r,0<=p.1/\1<=p.2) ->((0<(gF r.reverse e (-1)).getD 0+(gF r.reverse (-1) d).getD 0↔∃p∈r,p.1=e \/p.2=d)/\0<=(gF r.reverse e (-1)).getD 0/\0<=(gF r.reverse (-1) d).getD 0):=by
  intro r
  induction r with
  |nil=>intro _;simp[gF]
  |cons p r s=>
   intro j;obtain⟨t,m,n⟩:=s λq a=>j q (by simp[a]);have o:=j p (by simp);rw[List.reverse_cons,D1];have u:putG (putG (gF r.reverse) p.1 (-1) 1) (-1) p.2 1 e (-1)=if e=p.1 then some 1 else gF r.reverse e (-1):=by
    simp only[putG];rw[if_neg (by omega)]
    by_cases h:e=p.1
    ·rw[if_pos ⟨h,trivial⟩,if_pos h]
    ·rw[if_neg λq=>h q.1,if_neg h]
   have v:putG (putG (gF r.reverse) p.1 (-1) 1) (-1) p.2 1 (-1) d=if d=p.2 then some 1 else gF r.reverse (-1) d:=by
    simp only[putG]
    by_cases h:d=p.2
    ·rw[if_pos ⟨trivial,h⟩,if_pos h]
    ·rw[if_neg λq=>h q.2,if_neg h,if_neg (by omega)]
   rw[u,v]
   by_cases c:e=p.1
   ·rw[if_pos c]
    by_cases b:d=p.2
    ·rw[if_pos b]
     exact⟨⟨λ_=>⟨p,by simp,.inl c.symm⟩,λ_=>by simp⟩,by simp,by simp⟩
    ·rw[if_neg b]
     exact⟨⟨λ_=>⟨p,by simp,.inl c.symm⟩,λ_=>by simp only[Option.getD_some];omega⟩,by simp,n⟩
   ·rw[if_neg c]
    by_cases b:d=p.2
    ·rw[if_pos b]
     exact⟨⟨λ_=>⟨p,by simp,.inr b.symm⟩,λ_=>by simp only[Option.getD_some];omega⟩,m,by simp⟩
    ·rw[if_neg b]
     refine⟨?_,m,n⟩;rw[t];constructor
     ·rintro⟨q,a,h⟩;exact⟨q,by simp[a],h⟩
     ·rintro⟨q,a,h⟩
      rcases List.mem_cons.1 a with rfl|a
      ·rcases h with h|h
       ·exact absurd h.symm c
       ·exact absurd h.symm b
      ·exact⟨q,a,h⟩
 have:=i l.reverse λp o=>h p (by simpa using o)
 simpa using this
theorem D2{B:aq}:∀(l:List bY) (k i:Nat) (x:bY),l[i]?=some x ->jW B (l.drop i) (k+i)=bg (eV B (k+i) x) (jW B (l.drop (i+1)) (k+i+1))
 |y::r,k,0,x,h=>by
  obtain rfl:=JB h
  rfl
 |y::r,k,i+1,x,h=>by
  have:=D2 (B:=B) r (k+1) i x h;rw[show k+1+i=k+(i+1) by omega]at this;exact this
theorem J6{B:aq}{i:Nat}{x:bY}(h1:x.kind=1)(he:eV B i x=0):x.sort=[⟨2,1,1⟩,⟨3,0,0⟩]↔¬ (x.sort.length≠2 \/(x.sort.getD 0 ⟨0,0,0⟩).a≠1 \/x.sort.getD 1 ⟨0,0,0⟩≠⟨3,0,0⟩):=by
 constructor
 ·intro h
  rw[h]
  decide
 ·intro h
  unfold eV at he;rw[if_pos h1]at he;split at he
  ·cases he
  split at he
  ·cases he
  obtain⟨A,u⟩:=mN.1 he;obtain⟨u,_⟩:=mN.1 u;have F:eH x.sort=0:=by
   unfold cy at A;split at A
   ·exact absurd A (by assumption)
   ·rename_i h;exact Decidable.of_not_not h
  obtain⟨y,D,s⟩:=tx F
  match z:x.sort with
  |[]=>rw[z]at h;simp at h
  |[a]=>rw[z]at h;simp at h
  |a::b::c::r=>rw[z]at h;simp at h
  |[a,b]=>
   rw[z]at h u s;have H:b=⟨3,0,0⟩:=by
    have:¬ ([a,b].getD 1 ⟨0,0,0⟩≠⟨3,0,0⟩):=λq=>h (.inr (.inr q))
    simpa using this
   have E:a.a=1:=by
    have:¬ (([a,b].getD 0 ⟨0,0,0⟩).a≠1):=λq=>h (.inr (.inl q))
    simpa using this
   have t:a.op=2:=by
    unfold gM at u;split at u
    ·cases u
    ·rename_i q;simpa using q
   have v:a.b=1:=by
    obtain⟨n,I⟩:=y;simp only[row,List.cons.injEq]at s;obtain⟨rfl,s⟩:=s;obtain⟨K,L,O⟩:=D.ok.kids;obtain⟨M,_,_,l⟩:=ef K;rw[if_pos t]at l;have j:=tw D.ok t
    match I,s,j,l with
    |[],s,_,_=>simp[rows]at s
    |[k],s,_,l=>
     have:=cY M;simp at l;omega
    |k::N::r,s,j,l=>
     obtain⟨m,rfl,_⟩:=j k (by simp);obtain⟨P,rfl,_⟩:=j N (by simp);simp[rows,row]at s
   obtain⟨o,p,q⟩:=a;simp only at E t v;subst E t v;rw[H]
theorem qU{B:aq}(I:dG B):VC prog 39 [aY B] (pI (cS B)):=by
 have eE:=ak aU B.ents;have eP:=ak iB B.prims;have a5:=I.e;have a6:=I.p;have K:=DZ (vars:=B.vars) I.o;rw[J4]at K;refine cN 176 [.tmp 2] τok func39 ?_;refine aC τok ?_;refine aC τok ?_;refine af K ?_;refine aC τok ?_;refine ae (λQ=>?_) (λQ=>?_)
 ·exact⟨_,_,rfl,rfl,by unfold cS;rw[if_pos Q];rfl⟩
 refine aC τok ?_;refine ae (λk2=>?_) (λk2=>?_)
 ·exact⟨_,_,rfl,rfl,by unfold cS;rw[if_neg Q,if_pos (by omega)];rfl⟩
 have eF:cS B=bg (jW B B.ents 0) (if gN B=true then 0 else 22):=by unfold cS;rw[if_neg Q,if_neg (by omega)]
 rw[eF];refine dJ τok (σ:=Unit) [(1,_),(2,_)] [(1,_)] (λ_=>[]) (λ_=>[]) (λ_=>jW B B.ents 0=0/\∀(i:Nat) x,B.ents[i]?=some x ->eV B i x=0) ?_ ?_
 ·refine aB τok (σ:=Nat) [(1,_),(2,_)] [(1,_)] (λi=>[(4,vI i)]) (λ_=>[]) (λi=>i<=B.ents.length/\jW B B.ents 0=jW B (B.ents.drop i) i/\∀(j:Nat) x,j<i ->B.ents[j]?=some x ->eV B j x=0) (λi=>B.ents.length-i) 0 ⟨KV _,rfl,λj x hj=>absurd hj (by omega)⟩ ?_
  rintro i ⟨g1,v,L⟩;refine aj τok ?_;refine ae (λg=>?_) (λg=>?_)
  ·obtain⟨x,n,hd⟩:=ay (l:=B.ents) (k:=i)
   have M:=D2 (B:=B) B.ents 0 i x n;rw[KW]at M;rw[M]at v;refine af (JT I n) ?_;refine ae (λo=>?_) (λo=>?_)
   ·exact⟨_,_,rfl,rfl,by rw[v,lO,kN o];rfl⟩
   ·refine vi ?_
    refine au (i+1) ⟨by omega,by rw[v,jt o],λj y hj T=>?_⟩
    by_cases e:j=i
    ·subst e
     rw[n]at T;obtain rfl:=JB T;omega
    ·exact L j y (by omega) T
  ·rw[JY (by omega)]at v
   exact au () ⟨v,λj x n=>L j x (by have:=aH n;omega) n⟩
 rintro _ ⟨m1,m2⟩;rw[jt (by rw[m1];decide)];have A:gN B=false ->pI 22=pI (if gN B=true then 0 else 22):=λh=>by rw[h];rfl
 refine dJ τok (σ:=Unit) [(1,_),(2,_)] [(1,_)] (λ_=>[]) (λ_=>[]) (λ_=>B.nat≠ -1 ->lJ B B.nat=true) ?_ ?_
 ·refine ae (λU=>?_) (λU=>?_)
  ·have D:lJ B B.nat=false ->pI 22=pI (if gN B=true then 0 else 22):=λh=>A (by unfold gN;rw[if_pos (.inl ⟨U,h⟩)])
   have u:=oZ (known:=B.ents.length) (KJ _) B.nat;rw[show ((B.ents.length:Nat):Int)=((B.ents.map aU).length:Int) by rw[eE]]at u;refine bB u (λf=>?_) (λf=>?_)
   ·have V:(0<=B.nat/\B.nat<B.ents.length/\(aN B B.nat).kind=1):=by simpa[bk]using f
    have n:=kK (B:=B) V.1;obtain⟨x,N⟩:∃x,aN B B.nat=x:=⟨_,rfl⟩
    rw[N]at n V;have W:=m2 _ x n;have hX:=I.x x (JQ n);have st:=J6 V.2.2 W;have f1:=ak (λt=>[ah t]) x.params;have f2:=ak (λt=>[ah t]) x.indices;have f3:=ak bD x.ctors;have z1:=hX.p.1;have z2:=hX.i.1;have r:lJ B B.nat=if x.sort.length≠2 \/(x.sort.getD 0 ⟨0,0,0⟩).a≠1 \/x.sort.getD 1 ⟨0,0,0⟩≠⟨3,0,0⟩ \/0<x.params.length+x.indices.length \/x.ctors.length≠2 then false
 else decide ((x.ctors.getD 0 default).args.length=0) && (decide ((x.ctors.getD 1 default).args.length=1) && (decide (((x.ctors.getD 1 default).args.getD 0 []).length=1) && decide (((x.ctors.getD 1 default).args.getD 0 []).getD 0 ⟨0,0,0⟩=⟨9,B.nat,0⟩))):=by
     unfold lJ;rw[N,if_neg (by omega)]
    refine vm B.nat.toNat n ?_;have hs:=oX (a:=x.sort) (b:=[⟨2,1,1⟩,⟨3,0,0⟩]) (by have:=hX.s;omega) (by simp);refine bB hs (λs=>?_) (λs=>?_)
    ·have s:=st.1 (of_decide_eq_true s)
     refine vi ?_;refine ae (λn2=>?_) (λn2=>?_)
     ·exact⟨_,_,rfl,rfl,D (by rw[r,if_pos (.inr (.inr (.inr (.inl (by omega)))))])⟩
     refine ae (λn3=>?_) (λn3=>?_)
     ·exact⟨_,_,rfl,rfl,D (by rw[r,if_pos (.inr (.inr (.inr (.inr (by omega)))))])⟩
     rw[if_neg (by
      rintro(h|h|h|h|h)
      ·exact s (.inl h)
      ·exact s (.inr (.inl h))
      ·exact s (.inr (.inr h))
      ·omega
      ·omega)]at r
     obtain⟨R,h0⟩:∃c,x.ctors[0]?=some c:=⟨_,gE⟩
     obtain⟨E,S⟩:∃c,x.ctors[1]?=some c:=⟨_,gE⟩
     rw[show x.ctors.getD 0 default=R by rw[List.getD_eq_getElem?_getD,h0];rfl,show x.ctors.getD 1 default=E by rw[List.getD_eq_getElem?_getD,S];rfl]at r;have e0:=ak (λt=>[ah t]) R.args;have e1:=ak (λt=>[ah t]) E.args;refine vm 0 h0 ?_;refine ae (λn4=>?_) (λn4=>?_)
     ·refine vk ?_
      exact⟨_,_,rfl,rfl,D (by rw[r,decide_eq_false (by omega)];rfl)⟩
     refine vm 1 S ?_;refine ae (λn5=>?_) (λn5=>?_)
     ·refine vk ?_
      exact⟨_,_,rfl,rfl,D (by rw[r,decide_eq_true (show R.args.length=0 by omega),decide_eq_false (show ¬ E.args.length=1 by omega)];rfl)⟩
     obtain⟨t,X⟩:∃t,E.args[0]?=some t:=⟨_,gE⟩
     rw[show E.args.getD 0 []=t by rw[List.getD_eq_getElem?_getD,X];rfl,decide_eq_true (show R.args.length=0 by omega),decide_eq_true (show E.args.length=1 by omega)]at r;have a7:=((hX.a E (JQ S)).1.2 t (JQ X))
     have eT:(decide (t.length=1) && decide (t.getD 0 ⟨0,0,0⟩=⟨9,B.nat,0⟩))=decide (t=[⟨9,B.nat,0⟩]):=by
      rw[Bool.eq_iff_iff];simp only[Bool.and_eq_true,decide_eq_true_eq];constructor
      ·rintro⟨O,F⟩
       match t,O,F with
       |[m],_,F=>rw[show m=⟨9,B.nat,0⟩from F]
      ·rintro rfl
       exact⟨rfl,rfl⟩
     rw[Bool.true_and,Bool.true_and,eT]at r;refine vm 1 S ?_;refine vm 0 X ?_;refine bB (oX (a:=t) (b:=[⟨9,B.nat,0⟩]) (by omega) (by simp)) (λY=>?_) (λY=>?_)
     ·refine vk ?_
      exact au () λ_=>by rw[r,Y]
     ·refine vk ?_
      exact⟨_,_,rfl,rfl,D (by rw[r,Y])⟩
    ·have s:=λq=>of_decide_eq_false s (st.2 q)
     exact⟨_,_,rfl,rfl,D (by
      rw[r,if_pos];rcases Decidable.of_not_not s with h|h|h
      ·exact .inl h
      ·exact .inr (.inl h)
      ·exact .inr (.inr (.inl h)))⟩
   ·exact⟨_,_,rfl,rfl,D (by
     unfold lJ;rw[if_pos];have:¬ (0<=B.nat/\B.nat<B.ents.length/\(aN B B.nat).kind=1):=λq=>by
      have:bk B B.ents.length B.nat=true:=by simpa[bk]using q
      rw[f]at this;cases this
     omega)⟩
  ·exact au () λh=>absurd h U
 rintro _ m3;refine aj τok ?_;have eR:(B.nat= -1 ->B.prims.length=0) ->gN B=lK B B.prims (gF []):=λh=>by
  unfold gN;rw[if_neg]
  ·rfl
  ·rintro(⟨O,F⟩|⟨O,F⟩)
   ·rw[m3 O]at F;cases F
   ·have:=h O;omega
 refine aB τok (σ:=Nat) [(1,_),(2,_)] [(1,_)] (λi=>[(6,vI i)]) (λ_=>[]) (λi=>i<=B.prims.length/\(B.nat= -1 ->i=0)/\(∀p∈B.prims.take i,0<=p.1/\1<=p.2)/\lK B B.prims (gF [])=lK B (B.prims.drop i) (gF (B.prims.take i))) (λi=>B.prims.length-i) 0 ⟨KV _,λ_=>rfl,by simp,by simp⟩ ?_;rintro i ⟨g1,v,L,o⟩;refine aj τok ?_;refine ae (λg=>?_) (λg=>?_)
 ·obtain⟨p,hp,hd⟩:=ay (l:=B.prims) (k:=i)
  rw[hd]at o;simp only[lK]at o;refine vm i hp ?_;refine ae (λq1=>?_) (λq1=>?_)
  ·exact⟨_,_,rfl,rfl,A (by unfold gN;rw[if_pos (.inr ⟨q1,by omega⟩)])⟩
  have Z:=eR λh=>absurd h q1;have b2:(p.1<0 \/(B.ents.length:Int)<=p.1 \/(aN B p.1).kind≠2 \/p.2<1 \/3<p.2 \/0<(gF (B.prims.take i) p.1 (-1)).getD 0+(gF (B.prims.take i) (-1) p.2).getD 0) ->pI 22=pI (if gN B=true then 0 else 22):=λh=>A (by rw[Z,o,if_pos h]);refine ae (λq2=>?_) (λq2=>?_)
  ·exact⟨_,_,rfl,rfl,b2 (.inl q2)⟩
  refine ae (λq3=>?_) (λq3=>?_)
  ·exact⟨_,_,rfl,rfl,b2 (.inr (.inl (by omega)))⟩
  refine ae (λq4=>?_) (λq4=>?_)
  ·exact⟨_,_,rfl,rfl,b2 (.inr (.inr (.inr (.inl q4))))⟩
  refine ae (λq5=>?_) (λq5=>?_)
  ·exact⟨_,_,rfl,rfl,b2 (.inr (.inr (.inr (.inr (.inl q5)))))⟩
  refine vm p.1.toNat (kK (B:=B) (a:=p.1) (by omega)) ?_;refine ae (λq6=>?_) (λq6=>?_)
  ·exact⟨_,_,rfl,rfl,b2 (.inr (.inr (.inl q6)))⟩
  obtain⟨r1,r2,r3⟩:=J5 L (e:=p.1) (d:=p.2) (by omega) (by omega);refine aB τok (σ:=Nat) [(1,_),(2,_),(6,_),(7,_)] [(1,_),(7,_)] (λj=>[(8,vI j)]) (λ_=>[]) (λj=>j<=i/\∀q∈B.prims.take j,¬ (q.1=p.1 \/q.2=p.2)) (λj=>i-j) 0 ⟨KV _,by simp⟩ ?_;rintro j ⟨j1,j2⟩;refine aj τok ?_;refine ae (λq7=>?_) (λq7=>?_)
  ·obtain⟨q,H,a8⟩:=ay (l:=B.prims) (k:=j)
   have a0:q∈B.prims.take i:=by
    refine JQ (i:=j) ?_;rw[List.getElem?_take,if_pos (by omega)];exact H
   have b3:(q.1=p.1 \/q.2=p.2) ->pI 22=pI (if gN B=true then 0 else 22):=λh=>b2 (.inr (.inr (.inr (.inr (.inr (r1.2 ⟨q,a0,h⟩))))));refine vm j H ?_;refine ae (λq8=>?_) (λq8=>?_)
   ·refine vk ?_
    exact⟨_,_,rfl,rfl,b3 (.inl q8)⟩
   refine vm j H ?_;refine ae (λq9=>?_) (λq9=>?_)
   ·refine vk ?_
    exact⟨_,_,rfl,rfl,b3 (.inr q9)⟩
   refine vk ?_;refine vi ?_;refine au (j+1) ⟨by omega,λz P=>?_⟩;rw[List.take_add_one,H,Option.toList]at P;rcases List.mem_append.1 P with h|h
   ·exact j2 z h
   ·obtain rfl:=List.mem_singleton.1 h
    rintro(h|h)
    ·exact q8 h
    ·exact q9 h
  ·have a3:j=i:=by omega
   subst a3;have a4:¬ 0<(gF (B.prims.take j) p.1 (-1)).getD 0+(gF (B.prims.take j) (-1) p.2).getD 0:=λh=>by
    obtain⟨q,H,hh⟩:=r1.1 h;exact j2 q H hh
   rw[if_neg (by
    rintro(h|h|h|h|h|h)
    ·exact q2 h
    ·omega
    ·exact q6 h
    ·exact q4 h
    ·exact q5 h
    ·exact a4 h)]at o
   refine vi ?_;have et:B.prims.take (j+1)=B.prims.take j++[p]:=by rw[List.take_add_one,hp];rfl
   refine au (j+1) ⟨by omega,λh=>absurd h q1,λz P=>?_,by rw[o,et,D1]⟩;rw[et]at P;rcases List.mem_append.1 P with h|h
   ·exact L z h
   ·obtain rfl:=List.mem_singleton.1 h
    omega
 ·rw[JY (by omega)]at o
  exact⟨_,_,rfl,rfl,by
   rw[eR λh=>by have:=v h;omega,o]
   rfl⟩
end Go.Proofs.YtjnjbghlemiklaaGreat
namespace Go.Proofs.YtjnjbghlemiklaaGreat
open Go.Wx Lv
theorem D3(g:G)(x y v:Int):VG prog 167 [.c (.row 0),.c (.p (.agg [pI x,pI y])),vI v] [(0,.ob 1 (QG g))] (.ok (.c (.p (.tup [])),[(0,.ob 1 (QG (dm g x y v)))])):=by
 have j:∀b,g x y=some b ->¬ b<v ->g=dm g x y v:=λb l o=>by
  funext a c
  by_cases e:a=x/\c=y
  ·obtain⟨rfl,rfl⟩:=e;simp[dm,putG,l,bU,o]
  ·exact(qq _ _ _ _ _ _ e).symm
 refine dE 24 [] τok func167 ?_;refine aj τok ?_;refine sN m2e ?_;cases i:g x y with
 |none=>
  have m:dm g x y v=putG g x y v:=by simp[dm,i,bU]
  rw[m];refine ox m2e ?_;exact .inl ⟨_,_,_,id,rfl,rfl,rfl,rfl,⟨rfl,trivial⟩,rfl⟩
 |some b=>
  refine ae (λl=>?_) (λl=>?_)
  ·have n:b<v:=l
   have m:dm g x y v=putG g x y v:=by simp[dm,i,bU,n]
   rw[m];refine ox m2e ?_;exact .inl ⟨_,_,_,id,rfl,rfl,rfl,rfl,⟨rfl,trivial⟩,rfl⟩
  ·rw[<- j b i l]
   exact .inl ⟨_,_,_,id,rfl,rfl,rfl,rfl,⟨rfl,trivial⟩,rfl⟩
def qV(r:Except Int G):Except (List PanicEntry) (AV×List (Nat×SE)):=match r with
 | .error n=>.ok (.c (.p (.tup [.raw (.map none),pI n])),[])
 | .ok g=>.ok (.tp [.row 0,.p (pI 0)],[(0,.ob 0 (QG g))])
theorem D4(vars:Int)(os:List aQ):VG prog 120 (vals [pI vars,.sl (os.map eg)]) [] (qV (ee vars os)):=by
 have eO:=ak eg os;generalize K:qV (ee vars os)=N;refine dE 146 [.tmp 4,.tmp 5] τok func120 ?_;refine aj τok ?_;have u:∀n,ee vars os= .error n ->N=qV (.error n):=λn h=>by rw[<- K,h]
 refine ae (λh1=>?_) (λh1=>?_)
 ·rw[u 1 (by unfold ee;rw[if_pos (by omega)])]
  exact .inl ⟨_,_,_,id,rfl,rfl,rfl,rfl,trivial,rfl⟩
 refine ae (λh2=>?_) (λh2=>?_)
 ·rw[u 1 (by unfold ee;rw[if_pos (by omega)])]
  exact .inl ⟨_,_,_,id,rfl,rfl,rfl,rfl,trivial,rfl⟩
 refine ae (λh3=>?_) (λh3=>?_)
 ·rw[u 5 (by unfold ee;rw[if_neg (by omega),if_pos (by omega)])]
  exact .inl ⟨_,_,_,id,rfl,rfl,rfl,rfl,trivial,rfl⟩
 obtain⟨n,hn⟩:∃n:Nat,(n:Int)=vars+1:=⟨vars.toNat+1,by omega⟩
 have a0:n<=17:=by omega
 have z:ee vars os=match iw vars os (ka n)with
  |none=>.error 1
  |some g=>match ji n n 0 g with
   |none=>.error 7
   |some g'=>.ok g':=by
  have e:vars.toNat+1=n:=by omega
  unfold ee;rw[if_neg (by omega),if_neg (by omega),e]
  rfl
 refine pX (QG λ_ _=>none) ?_ qg0;refine vi ?_;refine aB τok (σ:=Nat) [(0,_),(1,_),(6,_),(29,_)] [] (λk=>[(30,vI k)]) (λk=>[(27,.ob 0 (QG (aM (λv g=>putG (putG g v v 0) 0 v 0) k (λ_ _=>none))))]) (λk=>k<=n) (λk=>n-k) 0 (KV _) ?_;rintro k hk;refine aj τok ?_;refine ae (λh4=>?_) (λh4=>?_)
 ·refine ox m2e ?_
  refine ox m2e ?_;refine vi ?_;exact au (k+1) (by omega)
 obtain rfl:k=n:=by omega
 clear h4 hk
 refine aB τok (σ:=Nat×G) [(0,_),(6,_),(41,_),(42,_)] [] (λx=>[(43,vI x.1)]) (λx=>[(27,.ob 0 (QG x.2))]) (λx=>x.1<=os.length/\iw vars os (ka k)=iw vars (os.drop x.1) x.2/\kk 1000 x.2) (λx=>os.length-x.1) (0,ka k) ⟨KV _,rfl,HH k⟩ ?_;obtain⟨n,rfl⟩:∃n,n=k:=⟨k,rfl⟩
 rintro⟨k,g⟩ ⟨hk,r,i⟩;simp only at hk r i;refine aj τok ?_;refine ae (λL=>?_) (λL=>?_)
 ·obtain⟨x,hx,hd⟩:=ay (l:=os) (k:=k)
  have j:iw vars os (ka n)=if cP vars x then none else iw vars (os.drop (k+1)) (dm g x.low x.high x.add):=by rw[r,hd];rfl
  have s:cP vars x=true ->N=qV (.error 1):=λh=>u 1 (by rw[z,j,h];rfl);refine vm (p:=eg) k hx ?_;refine ae (λc1=>?_) (λc1=>?_)
  ·rw[s (by unfold cP;exact decide_eq_true (by omega))]
   exact .inl ⟨_,_,_,id,rfl,rfl,rfl,rfl,trivial,rfl⟩
  refine ae (λc2=>?_) (λc2=>?_)
  ·rw[s (by unfold cP;exact decide_eq_true (by omega))]
   exact .inl ⟨_,_,_,id,rfl,rfl,rfl,rfl,trivial,rfl⟩
  refine ae (λc3=>?_) (λc3=>?_)
  ·rw[s (by unfold cP;exact decide_eq_true (by omega))]
   exact .inl ⟨_,_,_,id,rfl,rfl,rfl,rfl,trivial,rfl⟩
  refine ae (λc4=>?_) (λc4=>?_)
  ·rw[s (by unfold cP;exact decide_eq_true (by omega))]
   exact .inl ⟨_,_,_,id,rfl,rfl,rfl,rfl,trivial,rfl⟩
  refine ae (λc5=>?_) (λc5=>?_)
  ·rw[s (by unfold cP;exact decide_eq_true (by omega))]
   exact .inl ⟨_,_,_,id,rfl,rfl,rfl,rfl,trivial,rfl⟩
  refine ae (λc6=>?_) (λc6=>?_)
  ·rw[s (by unfold cP;exact decide_eq_true (by omega))]
   exact .inl ⟨_,_,_,id,rfl,rfl,rfl,rfl,trivial,rfl⟩
  have ok:cP vars x=false:=by unfold cP;exact decide_eq_false (by omega)
  rw[ok]at j;refine bS (λ_=>27) (λ_=>0) (D3 g x.low x.high x.add) ?_;refine vi ?_;exact au (k+1,dm g x.low x.high x.add) ⟨by show k+1<=_;omega,j,HC i (by omega) (by omega)⟩
 have A:iw vars os (ka n)=some g:=by rw[r,JY (by omega)];rfl
 rw[A]at z;simp only at z
 clear r A L hk
 refine vi ?_;refine aB τok (σ:=Nat×G) [(0,_),(6,_),(88,_)] [] (λx=>[(89,vI x.1)]) (λx=>[(27,.ob 0 (QG x.2))]) (λx=>x.1<=n/\ji n n 0 g=ji n (n-x.1) x.1 x.2/\kk (pw x.1) x.2) (λx=>n-x.1) (0,g) ⟨KV _,rfl,i⟩ ?_
 clear i
 rintro⟨m,V⟩ ⟨hm,O,i⟩;simp only at hm O i;refine aj τok ?_;refine ae (λL=>?_) (λL=>?_);rotate_left
 ·obtain rfl:m=n:=by have L:¬ (m:Int)<vars+1:=L;omega
  have:ji m m 0 g=some V:=by rw[O,Nat.sub_self];rfl
  rw[show N=qV (.ok V) by rw[<- K,z,this]];exact .inr ⟨_,λ_=>27,rfl,rfl,⟨rfl,trivial⟩,rfl⟩
 have L:(m:Int)<vars+1:=L;have a1:m<n:=by omega
 obtain⟨R,a2⟩:=FN' m (by omega);have hJ:=Ce R i m;refine vi ?_;refine aB τok (σ:=Nat×G) [(0,_),(6,_),(88,_),(89,_),(10,_),(93,_)] [] (λx=>[(94,vI x.1)]) (λx=>[(27,.ob 0 (QG x.2))]) (λx=>x.1<=n/\x.2=aM (jJ n m) x.1 V) (λx=>n-x.1) (0,V) ⟨KV _,rfl⟩ ?_;rintro⟨b,t⟩ ⟨S,D⟩;simp only at S D;refine aj τok ?_;refine ae (λT=>?_) (λT=>?_)
 ·have T:(b:Int)<vars+1:=T
  have W:J (pw m) m b 0 t:=D▸Cg (n:=n) hJ b;refine vi ?_;refine aB τok (σ:=Nat×G) [(0,_),(6,_),(88,_),(89,_),(10,_),(93,_),(94,_),(11,_),(98,_)] [] (λx=>[(99,vI x.1)]) (λx=>[(27,.ob 0 (QG x.2))]) (λx=>x.1<=n/\x.2=aM (Lv.step m b) x.1 t) (λx=>n-x.1) (0,t) ⟨KV _,rfl⟩ ?_;rintro⟨a,o⟩ ⟨P,I⟩;simp only at P I;refine aj τok ?_;refine ae (λE=>?_) (λE=>?_)
  ·have E:(a:Int)<vars+1:=E
   have X:J (pw m) m b a o:=I▸Cf W a;have F:Lv.step m b a o=aM (Lv.step m b) (a+1) t:=by rw[I];rfl
   refine sN (g:=o) (x:=(b:Int)) (y:=(m:Int)) m2e ?_;refine sN (g:=o) (x:=(m:Int)) (y:=(a:Int)) m2e ?_;have c:(o b m=none \/o m a=none) ->o=aM (Lv.step m b) (a+1) t:=λh=>by
    rw[<- F];rcases step_cases m b a o with ⟨p,q,hp,hq,_⟩|e
    ·rcases h with h|h
     ·rw[h]at hp;cases hp
     ·rw[h]at hq;cases hq
    ·exact e.symm
   cases Y:o b m with
   |none=>
    refine vi ?_;exact au (a+1,o) ⟨by show a+1<=_;omega,c (.inl Y)⟩
   |some p=>
    cases Z:o m a with
    |none=>
     refine vi ?_;exact au (a+1,o) ⟨by show a+1<=_;omega,c (.inr Z)⟩
    |some q=>
     have hs:=HF X Y Z;refine vi ?_ (by simp only[Option.getD_some];omega) (by simp only[Option.getD_some];omega);refine bS (λ_=>27) (λ_=>0) (D3 o b a (p+q)) ?_;refine vi ?_;exact au (a+1,dm o b a (p+q)) ⟨by show a+1<=_;omega,by rw[<- F,Be Y Z]⟩
  ·have E:¬ (a:Int)<vars+1:=E
   obtain rfl:a=n:=by omega
   refine vi ?_;exact au (b+1,o) ⟨by show b+1<=_;omega,by rw[I,D];rfl⟩
 have T:¬ (b:Int)<vars+1:=T;obtain rfl:b=n:=by omega
 have U:kk (pw (m+1)) t:=D▸HI R i;have H:ji b b 0 g=if iR b t then none else ji b (b-(m+1)) (m+1) t:=by
  rw[O,show b-m=(b-(m+1))+1 by omega,D];rfl
 refine vi ?_;refine aB τok (σ:=Nat) [(0,_),(6,_),(88,_),(89,_),(133,_)] [(27,_)] (λk=>[(134,vI k)]) (λ_=>[]) (λk=>k<=b/\∀v,v<k ->ov t v=false) (λk=>b-k) 0 ⟨KV _,λv hv=>by omega⟩ ?_;rintro k ⟨hk,M⟩;refine aj τok ?_;refine ae (λE=>?_) (λE=>?_)
 ·have E:(k:Int)<vars+1:=E
  refine wI m2e ?_;refine ae (λh8=>?_) (λh8=>?_)
  ·have Q:iR b t=true:=by
    unfold iR;rw[List.any_eq_true];exact⟨k,List.mem_range.2 (by omega),by unfold ov;exact decide_eq_true h8⟩
   rw[u 7 (by rw[z,H,Q];rfl)];exact .inl ⟨_,_,_,id,rfl,rfl,rfl,rfl,trivial,rfl⟩
  ·refine vi ?_
   refine au (k+1) ⟨by show k+1<=_;omega,λv hv=>?_⟩
   by_cases e:v=k
   ·subst e;unfold ov;exact decide_eq_false h8
   ·exact M v (by omega)
 ·have E:¬ (k:Int)<vars+1:=E
  obtain rfl:k=b:=by omega
  have Q:iR k t=false:=by
   unfold iR;rw[List.any_eq_false];intro v hv;simp[M v (List.mem_range.1 hv)]
  rw[Q]at H;refine vi ?_;exact au (m+1,t) ⟨by show m+1<=_;omega,H,U⟩
end Go.Proofs.YtjnjbghlemiklaaGreat
