import Derived.Test.YtjnjbghlemiklaaGreatMq09
set_option linter.unusedVariables false
set_option linter.unusedSimpArgs false
set_option linter.unusedSectionVars false
set_option maxRecDepth 100000
set_option maxHeartbeats 4000000
open Go.Proofs.Tryz
namespace Go.Proofs.YtjnjbghlemiklaaGreat
open Go.Wx Cd Tm Lv
def mS(t:List Nd)(i:Nat):Int:=if i=0 then -1 else ((t[i]?).map (·.a)).getD 0
theorem Jj{n:Nd}{r:List Nd}(h2:n.op=2)(y:aw n=true)(N:(n::r).length<=1000000):VC prog 114 [ah (n::r)] (gm (n::r)):=by
 have o:=BA (n::r) (a:=0) (n:=n) rfl h2 y;have Z:=db y;have z:aD n=true:=by simp[aD,y,h2]
 have A:bq n=0:=by simp[bq,h2]
 have b:gb (n::r) n.b.toNat (-1) (0+1)=none ->PV.tup [z6P,pI 0,.bool false]=gm (n::r):=λh=>x7 (by rw[o,h]);have O:=xk n;rw[z,A]at O;have Q:=ak ndP (n::r);refine vf 183 [.cell 2 111,.tmp 3,.tmp 4] τok func114 ?_;refine vn ?_ (by rw[Q,JV];omega);refine vm 0 rfl ?_;refine af O ?_;refine vm 0 rfl ?_;refine vm 0 rfl ?_;refine vy ?_;refine jE 7 4 1001 42 3 rfl rfl rfl OO<|az τok (σ:=Nat) [(0,_),(2,_),(3,_),(4,_),(5,_),(7,_)] [(2,_)] (λi=>[(8,vI ((1+i:Nat):Int)),(9,vI i)]) (λi=>[(7,.st 0 111 [.p (pI n.op),.p (pI n.a),.p (pI n.b),.p (.raw (.slice none 0 0)),.row 1001,.p (.raw (.slice none 0 0))]),(1001,.rw 42 3 ((r.take i).map ndP))]) (λi=>i<=n.b.toNat/\i<=r.length/\gb (n::r) n.b.toNat (-1) (0+1)=gb (n::r) (n.b.toNat-i) (mS (n::r) i) (1+i)) (λi=>n.b.toNat-i) 0 ⟨KV _,KV _,rfl⟩ ?_;rintro i ⟨h1,R,t⟩;rw[t]at o b;refine aj τok<|vm 0 rfl ?_;refine ae (λg=>?_) (λg=>?_)
 ·obtain⟨c,D⟩:∃c,n.b.toNat-i=c+1:=⟨n.b.toNat-i-1,Oo⟩
  rw[D]at o b t;simp only[gb]at o b t;refine ae (λS=>?_) (λS=>?_)
  ·rw[List.getElem?_eq_none Oo]at b
   exact vk ⟨_,_,rfl,rfl,b rfl⟩
  ·obtain⟨m,j⟩:∃m,(n::r)[1+i]?=some m:=⟨_,gE⟩
   rw[j]at b t;simp only at b t;refine vm (1+i) j ?_;refine ae (λs=>?_) (λs=>?_)
   ·exact vk ⟨_,_,rfl,rfl,b (if_neg λq=>s q.1)⟩
   have s:m.op=3:=Oo
   refine vm (1+i) j ?_;refine bH (iz _ _ _) (λu=>?_) (λu=>?_)
   ·refine vm (1+i) j ?_
    refine bH (iz _ _ _) (λE=>?_) (λE=>?_)
    ·have F:aw m=true:=by simp[aw,s,u,E]
     have H:mS (n::r) i<m.a ->gb (n::r) n.b.toNat (-1) (0+1)=gb (n::r) (n.b.toNat-(i+1)) (mS (n::r) (i+1)) (1+(i+1)):=λT=>by
      rw[t,if_pos ⟨s,F,T⟩,show n.b.toNat-(i+1)=c by omega];have e:mS (n::r) (i+1)=m.a:=by
       unfold mS;rw[if_neg Oo,Nat.add_comm i 1,j]
       rfl
      rw[e]
      rfl
     have P:(r.take i).map ndP++[ndP m]=(r.take (i+1)).map ndP:=by
      have I:r[i]?=some m:=by rwa [Nat.add_comm,List.getElem?_cons_succ]at j
      rw[List.take_add_one,I];simp
     refine ae (λU=>?_) (λU=>?_)
     ·obtain⟨p,v⟩:∃p,(n::r)[i]?=some p:=⟨_,List.getElem?_eq_getElem (by rw[JV];omega)⟩
      have K:mS (n::r) i=p.a:=by unfold mS;rw[if_neg Oo,v];rfl
      rw[K]at b H;refine vm (1+i) j ?_;refine vi ?_;refine vm i v ?_;refine ae (λV=>?_) (λV=>?_)
      ·exact vk ⟨_,_,rfl,rfl,b (if_neg λq=>by have:=q.2.2;omega)⟩
      ·refine vk ?_
       refine vm (1+i) j ?_;refine aV ?_;refine vk ?_;refine vi ?_;refine vi ?_;exact au (i+1) ⟨Oo,by have:=aI j;rw[JV]at this;omega,H Oo⟩ (sw 1001 101) (y':=⟨rfl,congrArg (λl=>some (SE.rw _ _ l)) P,trivial⟩)
     ·refine vk ?_
      refine vm (1+i) j ?_;refine aV ?_;refine vk ?_;refine vi ?_;refine vi ?_;exact au (i+1) ⟨Oo,by have:=aI j;rw[JV]at this;omega,H (by rw[mS,if_pos Oo];have:=dq.1 u;omega)⟩ (sw 1001 101) (y':=⟨rfl,congrArg (λl=>some (SE.rw _ _ l)) P,trivial⟩)
    ·exact vk ⟨_,_,rfl,rfl,b (if_neg λq=>by simp[aw,s,u,E]at q)⟩
   ·exact vk ⟨_,_,rfl,rfl,b (if_neg λq=>by simp[aw,s,u]at q)⟩
 ·rw[show n.b.toNat-i=0 by omega]at o
  simp only[gb]at o;obtain⟨x,W,X,L,Y⟩:=Dy o;have M:=Jh W h2 X L;refine az τok (σ:=Unit) [(2,_),(3,_),(4,_),(5,_),(7,_),(8,_)] [(2,_),(7,_),(1001,_)] (λ_=>[(10,vI 0)]) (λ_=>[]) (λ_=>True) (λ_=>0) () True.intro ?_;rintro _ _;exact aj τok<|vn<|⟨_,_,rfl,rfl,by rw[Y,M,show 1+i-1=i by omega];rfl⟩
theorem qH(t:List Nd)(s:Md)(c a:Nat):fZ t s (c+1) a=(endS t s a).bind (fZ t s c):=by
 simp only[fZ];cases endS t s a<;>rfl
theorem Dz{t:List Nd}{n:Nd}{i a:Nat}(h:n.op=12 ->i%2=1)(hi:(i:Int)<bq n)(hb:n.op=12 ->bq n=2*n.b/\0<=n.b):ii t n i a=(endS t .tm a).bind (ii t n (i+1)):=by
 unfold ii
 by_cases c:n.op=12
 ·have:=h c
  rw[if_pos c,if_neg Oo]
  congr 1
  funext b
  rw[if_pos c,if_pos Oo]
 ·rw[if_neg c,show (bq n).toNat-i=(bq n).toNat-(i+1)+1 by omega,qH]
  congr 1
  funext b
  rw[if_neg c]
theorem Jk{t:List Nd}{n f:Nd}{i a:Nat}(b:n.op=12)(h:i%2=0)(hi:(i:Int)<bq n)(hb:n.op=12 ->bq n=2*n.b/\0<=n.b)(l:t[a]?=some f)(j:f.op=13)(m:aw f=true):ii t n i a=(endS t .tm (a+1)).bind (ii t n (i+1)):=by
 obtain⟨o,b2⟩:=hb b;unfold ii;rw[if_pos b,if_pos h,show n.b.toNat-i/2=n.b.toNat-(i+1+1)/2+1 by omega,qH,qs t .fn l (c:=2) (by simp[cnt,j,m]) (λe=>by cases e) (s':=.tm) (λk=>rfl) Oo,qH t .tm 1];cases endS t .tm (a+1)with
 |none=>rfl
 |some e=>
  simp only[Option.bind_some,if_pos b];rw[if_neg Oo,qH t .tm 0];cases endS t .tm e<;>rfl
theorem DA{t:List Nd}{n:Nd}{i a:Nat}(b:n.op=12)(h:i%2=0)(hi:(i:Int)<bq n)(hb:n.op=12 ->bq n=2*n.b/\0<=n.b)(c:∀f,t[a]?=some f ->¬ (f.op=13/\aw f=true)):ii t n i a=none:=by
 obtain⟨j,b2⟩:=hb b;unfold ii;rw[if_pos b,if_pos h,show n.b.toNat-i/2=n.b.toNat-(i+1+1)/2+1 by omega,qH,sJ t .fn λf h=>by
  simp only[cnt];rw[if_neg (c f h)]]
 rfl
theorem Jl(t:List Nd)(a:Nat):PV.sl (((t.map ndP).take (t.map ndP).length).drop a)=ah (t.drop a):=by
 rw[List.take_length,<- List.map_drop]
 rfl
theorem Jm{n:Nd}{r:List Nd}(h2:n.op≠2)(I:aD n=true)(a7:(n::r).length<=1000000)(ih:∀a,1<=a ->a<=(n::r).length ->VC prog 114 [ah ((n::r).drop a)] (gm ((n::r).drop a))):VC prog 114 [ah (n::r)] (gm (n::r)):=by
 have A:aw n=true/\n.op≠3/\n.op≠13:=by simpa[aD]using I
 obtain⟨A,h3,D⟩:=A;have Y:=db A;have t:n.op=12 ->bq n=2*n.b/\0<=n.b:=λb=>by
  have L:IntKind.i64.wrap (2*n.b)=2*n.b:=by rw[IntKind.wrap_i64];omega
  exact⟨by simp[bq,b,L],Y.1⟩
 have a8:0<=bq n/\bq n<=100:=by
  have hk:=mn A
  by_cases b:n.op=12
  ·have:=t b
   have:aE n.b 1 4=true:=by simp[aw,b]at A;exact A.1
   have:=dq.1 this;omega
  ·have L:IntKind.i64.wrap (2+n.b)=2+n.b:=by rw[IntKind.wrap_i64];omega
   have:bp n=bq n:=by
    simp only[bp,bq,b,D,if_false,L,or_false]
    repeat' split
    all_goals first|rfl|omega
   omega
 have hE:endS (n::r) .tm 0=ii (n::r) n 0 1:=by
  have M:cnt .tm n=some (bp n).toNat:=by simp[cnt,A,h3,D,h2]
  unfold ii
  by_cases b:n.op=12
  ·have:=t b
   rw[if_pos b,if_pos OO,qs (n::r) .tm (a:=0) (n:=n) rfl M (λ_=>h2) (s':=.fn) (λk=>by simp[nx,b]) h2]
   congr 1
   simp[bp,b]
  ·rw[if_neg b,qs (n::r) .tm (a:=0) (n:=n) rfl M (λ_=>h2) (s':=.tm) (λk=>by simp[nx,b,h2]) h2]
   have L:IntKind.i64.wrap (2+n.b)=2+n.b:=by rw[IntKind.wrap_i64];omega
   have:bp n=bq n:=by
    simp only[bp,bq,b,D,if_false,L,or_false]
    repeat' split
    all_goals first|rfl|omega
   rw[this]
   rfl
 have M:=xk n;rw[I]at M;have eL:=ak ndP (n::r);have eC:(n::r).length=r.length+1:=rfl;refine cA 183 [.cell 2 111,.tmp 3,.tmp 4] τok func114 ?_;refine aj τok<|vn ?_;refine vm 0 rfl ?_;refine af M ?_;refine vm 0 rfl ?_;refine vm 0 rfl ?_;refine vn ?_;refine jE 7 3 1000 111 6 rfl rfl rfl OO<|jE 7 5 1002 42 3 rfl rfl rfl OO<|az τok (σ:=Nat×Nat×List Tr×List Nd) [(0,_),(2,_),(3,_),(4,_),(5,_),(7,_)] [(2,_)] (λq=>[(8,vI (q.2.1:Int)),(10,vI q.1)]) (λq=>[(7,.st 0 111 [.p (pI n.op),.p (pI n.a),.p (pI n.b),.row 1000,.p (.raw (.slice none 0 0)),.row 1002]),(1000,.rw 111 6 (q.2.2.1.map trP)),(1002,.rw 42 3 (q.2.2.2.map ndP))])
  (λq=>(q.1:Int)<=bq n/\1<=q.2.1/\q.2.1<=(n::r).length/\endS (n::r) .tm 0=ii (n::r) n q.1 q.2.1/\q.2.2.1.length=q.1/\(∀k∈q.2.2.1,Ok .tm k)/\(n.op=12 ->q.2.2.2.length=(q.1+1)/2)/\(n.op≠12 ->q.2.2.2=[])/\(n::r).take q.2.1=n::cd n.op q.2.2.2 0 q.2.2.1) (λq=>(bq n).toNat-q.1) (0,1,[],[]) ⟨OS,OO,Od,hE,rfl,Od,λ_=>rfl,λ_=>rfl,by simp[cd]⟩ ?_
 rintro⟨i,a,K,F⟩ ⟨g1,Z,g3,R,S,g6,N,T,U⟩;simp only at g1 Z g3 R S g6 N T U;have V:ii (n::r) n i a=none ->PV.tup [z6P,pI 0,.bool false]=gm (n::r):=λh=>x7 (by rw[R,h]);refine aC τok<|ae (λg=>?_) (λg=>?_)
 ·refine VCode.seq (VCode.blk ?_)
  refine dB τok (σ:=Nat×List Nd) [(0,_),(2,_),(3,_),(4,_),(5,_),(7,_),(10,_)] [(2,_),(1000,_)] (λq=>[(8,vI (q.1:Int))]) (λq=>[(7,.st 0 111 [.p (pI n.op),.p (pI n.a),.p (pI n.b),.row 1000,.p (.raw (.slice none 0 0)),.row 1002]),(1002,.rw 42 3 (q.2.map ndP))])
   (λq=>1<=q.1/\q.1<=(n::r).length/\ii (n::r) n i a=(endS (n::r) .tm q.1).bind (ii (n::r) n (i+1))/\(n.op=12 ->q.2.length=(i+2)/2)/\(n.op≠12 ->q.2=[])/\∀y,(n::r).take q.1++row y=n::cd n.op q.2 0 (K++[y])) ?_ ?_
  ·have v:∀y,(n::r).take a++((if n.op=12/\i%2=0 then (F[i/2]?).toList else [])++row y)=n::cd n.op F 0 (K++[y]):=λy=>by
    rw[x6,U,KW,S];simp
   refine vm 0 rfl ?_;refine ae (λb=>?_) (λb=>?_)
   ·refine ou Oo Oo Oo ?_
    refine ae (λW=>?_) (λW=>?_)
    ·refine ae (λq1=>?_) (λq1=>?_)<;>simp only at q1
     ·exact⟨_,_,rfl,rfl,V (DA b Oo g t λf c=>by rw[List.getElem?_eq_none Oo]at c;cases c)⟩
     obtain⟨f,c⟩:∃f,(n::r)[a]?=some f:=⟨_,gE⟩
     have E:¬ (f.op=13/\aw f=true) ->PV.tup [z6P,pI 0,.bool false]=gm (n::r):=λq=>V (DA b Oo g t λf' O=>by rw[c]at O;obtain rfl:=JB O;exact q);refine vm a c ?_;refine ae (λH=>?_) (λH=>?_)
     ·exact⟨_,_,rfl,rfl,E λq=>H q.1⟩
     have H:f.op=13:=Oo
     refine vm a c ?_;refine bH (iz _ _ _) (λX=>?_) (λX=>?_)
     ·refine vm a c ?_
      refine ae (λq4=>?_) (λq4=>?_)
      ·exact⟨_,_,rfl,rfl,E λq=>by simp[aw,H,X,q4]at q⟩
      have a0:aw f=true:=by simp[aw,H,X];omega
      have a1:=Jk b Oo g t c H a0;refine vm a c ?_;refine aV ?_;refine vk ?_;refine vi ?_;refine au (a+1,F++[f]) ⟨OS,aI c,a1,λ_=>by simp only[JK,List.length_singleton,N b];omega,λq=>absurd b q,λy=>?_⟩ (sw 1002 157);have a9:=N b;simp only;rw[x6,<- Dw (F:=F) K 0 λ_ j _ hj b0=>by rw[List.getElem?_append_left Oo],KW,S,if_pos ⟨b,Oo⟩,List.getElem?_append_right Oo,List.take_add_one,c,U,show i/2-F.length=0 by omega];simp
     ·exact⟨_,_,rfl,rfl,E λq=>by simp[aw,H,X]at q⟩
    ·refine au (a,F) ⟨Z,g3,Dz (λ_=>Oo) g t,λq=>by have:=N q;simp only;omega,T,λy=>?_⟩
     rw[<- v,if_neg λq=>W (by have:=q.2;simp only;omega)]
     rfl
   ·refine au (a,F) ⟨Z,g3,Dz (λq=>absurd q b) g t,λq=>absurd q b,T,λy=>?_⟩
    rw[<- v,if_neg λq=>b q.1]
    rfl
  ·rintro⟨o,F'⟩ ⟨m1,m2,m3,m4,m5,m6⟩
   simp only at m1 m2 m3 m4 m5 m6;have s:=ih o m1 m2;rw[<- Jl]at s;have u:=ti m2;have a2:∀x∈(n::r).map ndP,x.length=3:=λx hx=>by
    obtain⟨m,_,rfl⟩:=List.mem_map.1 hx
    rfl
   refine aj τok<|bC o _ ?_ a2;cases P:jW ((n::r).drop o)with
   |none=>
    rw[P]at u;rw[m3,u]at V;rw[show gm ((n::r).drop o)= .tup [z6P,pI 0,.bool false] by unfold gm;rw[P]]at s;exact af s<|⟨_,_,rfl,rfl,V rfl⟩
   |some q=>
    obtain⟨y,r'⟩:=q;rw[P]at u;rw[show gm ((n::r).drop o)= .tup [bB y,pI ((((n::r).drop o).length-r'.length:Nat):Int),.bool true] by unfold gm;rw[P]]at s;obtain⟨Q,a3⟩:=x5 P;have a4:=congrArg List.length Q;rw[JK,List.length_drop]at a4;have b1:=aS y;refine af s ?_;refine aV ?_;refine vi ?_ (by rw[List.length_drop];omega) (by rw[List.length_drop];omega);refine aj τok<|vi ?_;have e1:(o:Int)+((((n::r).drop o).length-r'.length:Nat):Int)=((o+(row y).length:Nat):Int):=by rw[List.length_drop];omega
    refine au (i+1,o+(row y).length,K++[y],F') ⟨OS,OS,OS,?_,by simp[S],λk hk=>?_,λq=>by have:=m4 q;simp only;omega,m5,?_⟩ (sw 1000 176) (x:=⟨congrArg (λz=>some (vI z)) e1,rfl,trivial⟩) (y':=⟨rfl,congrArg (λl=>some (SE.rw _ _ l)) (by rw[List.map_append];exact congrArg (List.map trP K++[·]) (jO y).symm),rfl,trivial⟩)
    ·rw[R,m3,u]
     simp only[Option.map_some,Option.bind_some];rw[show (n::r).length-r'.length=o+(row y).length by omega]
    ·rcases List.mem_append.1 hk with h|h
     ·exact g6 k h
     ·obtain rfl:=List.mem_singleton.1 h
      exact a3
    ·simp only
     rw[<- m6 y,List.take_add,Q,List.take_left]
 ·have W:endS (n::r) .tm 0=some a:=by
   rw[R];unfold ii
   by_cases b:n.op=12
   ·have:=t b
    rw[if_pos b,if_pos Oo,show n.b.toNat-i/2=0 by omega]
    rfl
   ·rw[if_neg b,show (bq n).toNat-i=0 by omega]
    rfl
  obtain⟨x,hx,ht,a5,hr⟩:=Dy W;have a6:=Ji hx h2 ht a5 g6 Oo (λb=>by have:=N b;have:=t b;omega) T U;exact⟨_,_,rfl,rfl,by rw[hr,a6];rfl⟩
theorem Dd':∀(N:Nat) (t:List Nd),t.length<=N ->N<=1000000 ->VC prog 114 [ah t] (gm t):=by
 intro N
 induction N with
 |zero=>
  intro t h _;obtain rfl:t=[]:=List.length_eq_zero_iff.1 (by omega);refine vf 183 [.cell 2 111,.tmp 3,.tmp 4] τok func114 ?_;exact⟨_,_,rfl,rfl,rfl⟩
 |succ N j=>
  intro t h l;cases t with
  |nil=>
   refine vf 183 [.cell 2 111,.tmp 3,.tmp 4] τok func114 ?_;exact⟨_,_,rfl,rfl,rfl⟩
  |cons n r=>
   cases b:aD n with
   |false=>
    have c:=xk n;rw[b]at c;have m:=ak ndP (n::r);have eC:(n::r).length=r.length+1:=rfl;refine vf 183 [.cell 2 111,.tmp 3,.tmp 4] τok func114 ?_;refine vn ?_;refine vm 0 rfl ?_;refine af c ?_;exact⟨_,_,rfl,rfl,x7 (Jg b)⟩
   |true=>
    by_cases i:n.op=2
    ·exact Jj i (by simp[aD]at b;exact b.1) (by omega)
    ·exact Jm i b (by omega) λa o p=>j _ (by rw[List.length_drop];omega) (by omega)
section
variable(f:Int ->Nd ->Tr)
mutual
def mT:Tr ->Int ->Int ->Tr
 | .mk n ks,d,nb=>if n.op=1 then f d n else .mk n (mK ks n nb 0 d)
def mK:List Tr ->Nd ->Int ->Int ->Int ->List Tr
 |[],_,_,_,_=>[]
 |x::r,n,nb,k,d=>mT x (d+arC n nb k) n.b::mK r n nb (k+1) d
end
end
theorem Jn{n:Nd}(h1:n.op=1)(b:aw n=true):0<=n.a/\n.a<=1048576/\n.b=0:=by
 have a:aE n.a 0 1048576=true/\n.b=0:=by simpa[aw,h1]using b
 have:=dq.1 a.1;exact⟨this.1,this.2,a.2⟩
section
variable{f g f3:Int ->Nd ->Tr}{h:Int ->Nd ->Option Tr}
theorem qI{n:Nd}{ks:List Tr}{d nb:Int}(h1:n.op=1):mT f (.mk n ks) d nb=f d n:=by simp[mT,h1]
theorem nS{n:Nd}{ks:List Tr}{d nb:Int}(h1:n.op≠1):mT f (.mk n ks) d nb= .mk n (mK f ks n nb 0 d):=by simp[mT,h1]
mutual
theorem wm':∀(x:Tr) (s:Md) (d nb:Int),okT cnt nx x s ->(∀q∈varsT x d nb,∀n:Nd,n.op=1 ->aw n=true ->n.a=q.1 ->h q.2 n=some (f q.2 n)) ->gT h x d nb=some (mT f x d nb)
 | .mk n ks,s,d,nb,b,H=>by
  have c:=fr' (.mk n ks) s b n (by simp[row]);obtain⟨j,hk⟩:=b
  by_cases a:n.op=1
  ·simp only[gT,mT,if_pos a]
   exact H (n.a,d) (by simp[varsT,a]) n a c rfl
  ·simp only[gT,mT,if_neg a]
   rw[Df' ks n s nb 0 d 0 hk λq i=>H q (by simpa[varsT,a]using i)]
theorem Df':∀(ks:List Tr) (n:Nd) (s:Md) (nb k d:Int) (j:Nat),okL cnt nx ks n s j ->(∀q∈varsK ks n nb k d,∀n:Nd,n.op=1 ->aw n=true ->n.a=q.1 ->h q.2 n=some (f q.2 n)) ->gK h ks n nb k d=some (mK f ks n nb k d)
 |[],n,s,nb,k,d,j,_,_=>rfl
 |x::r,n,s,nb,k,d,j,hk,H=>by
  obtain⟨b,hr⟩:=hk;simp only[gK,mK];rw[wm' x (nx s n j) _ _ b λq a=>H q (by simp[varsK,a]),Df' r n s nb (k+1) d (j+1) hr λq a=>H q (by simp[varsK,a])]
end
variable{e:Int}
mutual
theorem tU':∀(x:Tr) (s:Md) (d nb:Int),okT cnt nx x s ->(∀q∈varsT x d nb,∀n:Nd,n.op=1 ->aw n=true ->n.a=q.1 ->f (q.2+e) n=f3 q.2 n) ->mT f x (d+e) nb=mT f3 x d nb
 | .mk n ks,s,d,nb,b,H=>by
  have c:=fr' (.mk n ks) s b n (by simp[row]);obtain⟨j,hk⟩:=b
  by_cases a:n.op=1
  ·rw[qI a,qI a]
   exact H (n.a,d) (by simp[varsT,a]) n a c rfl
  ·rw[nS a,nS a,xY' ks n s nb 0 d 0 hk λq i=>H q (by simpa[varsT,a]using i)]
theorem xY':∀(ks:List Tr) (n:Nd) (s:Md) (nb k d:Int) (j:Nat),okL cnt nx ks n s j ->(∀q∈varsK ks n nb k d,∀n:Nd,n.op=1 ->aw n=true ->n.a=q.1 ->f (q.2+e) n=f3 q.2 n) ->mK f ks n nb k (d+e)=mK f3 ks n nb k d
 |[],n,s,nb,k,d,j,_,_=>rfl
 |x::r,n,s,nb,k,d,j,hk,H=>by
  obtain⟨b,hr⟩:=hk;simp only[mK];rw[show d+e+arC n nb k=d+arC n nb k+e by omega,tU' x (nx s n j) _ _ b λq a=>H q (by simp[varsK,a]),xY' r n s nb (k+1) d (j+1) hr λq a=>H q (by simp[varsK,a])]
end
mutual
theorem tV':∀(x:Tr) (s:Md) (d nb:Int),okT cnt nx x s ->(∀q∈varsT x d nb,∀n:Nd,n.op=1 ->aw n=true ->n.a=q.1 ->f (q.2+e) n= .mk n []) ->mT f x (d+e) nb=x
 | .mk n ks,s,d,nb,b,H=>by
  have c:=fr' (.mk n ks) s b n (by simp[row]);obtain⟨i,hk⟩:=b
  by_cases a:n.op=1
  ·have:ks=[]:=List.length_eq_zero_iff.1 (oC i a)
   subst this;rw[qI a];exact H (n.a,d) (by simp[varsT,a]) n a c rfl
  ·rw[nS a,tW' ks n s nb 0 d 0 hk λq j=>H q (by simpa[varsT,a]using j)]
theorem tW':∀(ks:List Tr) (n:Nd) (s:Md) (nb k d:Int) (j:Nat),okL cnt nx ks n s j ->(∀q∈varsK ks n nb k d,∀n:Nd,n.op=1 ->aw n=true ->n.a=q.1 ->f (q.2+e) n= .mk n []) ->mK f ks n nb k (d+e)=ks
 |[],n,s,nb,k,d,j,_,_=>rfl
 |x::r,n,s,nb,k,d,j,hk,H=>by
  obtain⟨b,hr⟩:=hk;simp only[mK];rw[show d+e+arC n nb k=d+arC n nb k+e by omega,tV' x (nx s n j) _ _ b λq a=>H q (by simp[varsK,a]),tW' r n s nb (k+1) d (j+1) hr λq a=>H q (by simp[varsK,a])]
end
theorem x8{x:Tr}(c:x.n.op≠13)(d nb a:Int):mT f x d nb=mT f x d a:=by
 obtain⟨n,b⟩:=x;have c:n.op≠13:=c;have hk:∀(b:List Tr) (k:Int),mK f b n nb k d=mK f b n a k d:=λb=>by
  induction b with
  |nil=>intro k;rfl
  |cons y r i=>intro k;simp only[mK,lz c,i]
 simp only[mT,hk]
end
def Jo(d:Int)(n:Nd):Nd:={n with a:=if d<=n.a then n.a+1 else n.a}
def Jp(d:Int)(n:Nd):Tr:=.mk (Jo d n) []
def up(k:Int)(x:Tr):Tr:=mT Jp x k 0
section
variable{x:Tr}{k:Int}
def Sm(x:Tr):Prop:=∀q∈varsT x 0 0,q.1<=400000/\0<=q.2/\q.2<=20000
end
def vK(n:Nd)(d:Int):List Tr ->Nat ->List (Int×Int)
 |[],_=>[]
 |y::r,i=>varsT y (d+kb n i) 0++vK n d r (i+1)
def gL(f:Int ->Nd ->Tr)(n:Nd)(d:Int):List Tr ->Nat ->List Tr
 |[],_=>[]
 |y::r,i=>mT f y (d+kb n i) 0::gL f n d r (i+1)
theorem x9{f:Int ->Nd ->Tr}{n:Nd}{d:Int}:∀(l:List Tr) (i:Nat),(gL f n d l i).length=l.length
 |[],_=>rfl
 |y::r,i=>by simp[gL,x9 r]
section
variable{x:Tr}{f:Int ->Nd ->Tr}{d:Int}
theorem ya{n:Nd}{ks:List Tr}(l:Ok .tm (.mk n ks))(a:n.op=12):∀y∈ks,Ok .fn y:=λy m=>by
 obtain⟨p,b,o⟩:=l.kids;obtain⟨j,c⟩:=JH m;have i:=iU ks 0 j y b c;rw[show nx Md.tm n (0+j)= .fn by simp[nx,a]]at i;exact⟨i,dE' ks j y o c⟩
theorem DB{n:Nd}{ks:List Tr}(l:Ok .tm (.mk n ks))(h2:n.op≠2)(a:n.op≠12):∀y∈ks,Ok .tm y:=λy m=>by
 obtain⟨p,b,o⟩:=l.kids;obtain⟨j,c⟩:=JH m;have i:=iU ks 0 j y b c;rw[show nx Md.tm n (0+j)= .tm by simp[nx,h2,a]]at i;exact⟨i,dE' ks j y o c⟩
theorem tj{n:Nd}{ks:List Tr}(c:Ok .tm (.mk n ks))(h2:n.op=2):∀y∈ks,∃m,y= .mk m []/\m.op=3:=λy i=>by
 obtain⟨o,b,p⟩:=c.kids;obtain⟨j,l⟩:=JH i;have a:=iU ks 0 j y b l;rw[show nx Md.tm n (0+j)= .am by simp[nx,h2]]at a;obtain⟨m,q⟩:=y;have a:=a.1;simp only[cnt]at a;split at a
 ·rename_i h
  exact⟨m,by rw[List.length_eq_zero_iff.1 (JB a).symm],h.1⟩
 ·cases a
theorem DC{n:Nd}(a:n.op=12):∀(ks:List Tr) (j:Int) (i:Nat),(∀y∈ks,Ok .fn y) ->i%2=0 ->varsK ks n 0 j d=vK n d (ks.flatMap (·.ks)) i
 |[],j,i,_,_=>rfl
 |y::r,j,i,o,hi=>by
  obtain⟨g,ty,bo,rfl,b,_,c,l⟩:=(o y Od).fn;have p:varsT (.mk g [ty,bo]) (d+arC n 0 j) n.b=varsT ty d 0++varsT bo (d+n.b) 0:=by
   rw[show d+arC n 0 j=d by simp[arC,aY,a]];simp only[varsT,varsK,if_neg (show ¬ g.op=1 by omega),JD];rw[sO c.n13 _ _ 0,sO l.n13 _ _ 0,show d+arC g n.b 0=d by simp[arC,b],show d+arC g n.b (0+1)=d+n.b by simp[arC,b]]
  have m:(Tr.mk g [ty,bo]).ks=[ty,bo]:=rfl;simp only[varsK,p,List.flatMap_cons,m,List.cons_append,List.nil_append,vK];rw[DC a r (j+1) (i+1+1) (λz q=>o z (by simp[q])) Oo];have s:kb n i=0:=by simp[kb,a];omega
  have t:kb n (i+1)=n.b:=by simp[kb,a];omega
  rw[s,t];simp
theorem DD{n:Nd}(a:n.op≠12)(b:n.op≠13):∀(ks:List Tr) (i:Nat),(∀y∈ks,Ok .tm y) ->varsK ks n 0 i d=vK n d ks i
 |[],i,_=>rfl
 |y::r,i,c=>by
  have:=DD a b r (i+1) λz j=>c z (by simp[j]);simp only[varsK,vK];rw[show (i:Int)+1=((i+1:Nat):Int) by omega,this,sO (c y Od).n13 _ _ 0];simp[kb,a,arC,b]
theorem yb(i:Ok .tm x)(h1:x.n.op≠1):varsT x d 0=vK x.n d (kidsT x) 0:=by
 obtain⟨n,b⟩:=x;obtain⟨u,q,p⟩:=i.tm;have h1:n.op≠1:=h1;have e:varsT (.mk n b) d 0=varsK b n 0 0 d:=by simp[varsT,h1]
 rw[e]
 by_cases o:n.op=2
 ·have c:kidsT (.mk n b)=[]:=by simp[kidsT,o]
  rw[c];have:∀(l:List Tr) (j:Int),(∀y∈l,∃m,y= .mk m []/\m.op=3) ->varsK l n 0 j d=[]:=by
   intro l
   induction l with
   |nil=>intros;rfl
   |cons y r s=>
    intro j h;obtain⟨m,rfl,q⟩:=h y Od;simp only[varsK,varsT,if_neg (show ¬ m.op=1 by omega),List.nil_append];exact s _ λz t=>h z (by simp[t])
  rw[this b 0 (tj i o)]
  rfl
 by_cases a:n.op=12
 ·have c:kidsT (.mk n b)=b.flatMap (·.ks):=by simp[kidsT,a]
  rw[c];exact DC a b 0 0 (ya i a) rfl
 ·have c:kidsT (.mk n b)=b:=by simp[kidsT,o,a]
  rw[c];exact DD a p b 0 (DB i o a)
theorem DE{n:Nd}(c:n.op=12):∀(ks:List Tr) (j:Int) (i:Nat),(∀y∈ks,Ok .fn y) ->i%2=0 ->(mK f ks n 0 j d).flatMap (·.ks)=gL f n d (ks.flatMap (·.ks)) i/\(mK f ks n 0 j d).map (·.n)=ks.map (·.n)
 |[],j,i,_,_=>⟨rfl,rfl⟩
 |y::r,j,i,q,hi=>by
  obtain⟨g,ty,bo,rfl,l,_,m,o⟩:=(q y Od).fn;obtain⟨s,t⟩:=DE c r (j+1) (i+1+1) (λz u=>q z (by simp[u])) Oo;have v:mT f (.mk g [ty,bo]) (d+arC n 0 j) n.b= .mk g [mT f ty d 0,mT f bo (d+n.b) 0]:=by
   rw[nS Oo,show d+arC n 0 j=d by simp[arC,aY,c]];simp only[mK];rw[x8 m.n13 _ _ 0,x8 o.n13 _ _ 0,show d+arC g n.b 0=d by simp[arC,l],show d+arC g n.b (0+1)=d+n.b by simp[arC,l]]
  have A:kb n i=0:=by simp[kb,c];omega
  have D:kb n (i+1)=n.b:=by simp[kb,c];omega
  have p:∀a b:Tr,(Tr.mk g [a,b]).ks=[a,b]:=λ_ _=>rfl;have E:∀a b:Tr,(Tr.mk g [a,b]).n=g:=λ_ _=>rfl;simp only[mK,List.flatMap_cons,List.map_cons,v,p,E,s,t,gL,List.cons_append,List.nil_append,A,D,Int.add_zero,and_self]
theorem DF{n:Nd}(a:n.op≠12)(b:n.op≠13):∀(ks:List Tr) (i:Nat),(∀y∈ks,Ok .tm y) ->mK f ks n 0 i d=gL f n d ks i
 |[],i,_=>rfl
 |y::r,i,c=>by
  have:=DF a b r (i+1) λz j=>c z (by simp[j]);simp only[mK,gL];rw[show (i:Int)+1=((i+1:Nat):Int) by omega,this,x8 (c y Od).n13 _ _ 0];simp[kb,a,arC,b]
theorem yc(h1:x.n.op≠1):(mT f x d 0).n=x.n:=by
 obtain⟨n,a⟩:=x;rw[nS (show n.op≠1 from h1)]
 rfl
theorem Jq(p:Ok .tm x)(h1:x.n.op≠1):kidsT (mT f x d 0)=gL f x.n d (kidsT x) 0/\atmsT (mT f x d 0)=atmsT x/\funsT (mT f x d 0)=funsT x:=by
 obtain⟨n,q⟩:=x;obtain⟨E,t,s⟩:=p.tm;have h1:n.op≠1:=h1;rw[nS h1]
 by_cases i:n.op=2
 ·have b:∀l,kidsT (.mk n l)=[]:=λl=>by simp[kidsT,i]
  have o:∀l,atmsT (.mk n l)=l.map (·.n):=λl=>if_pos i;have c:∀l,funsT (.mk n l)=[]:=λl=>if_neg (show ¬ n.op=12 by omega);rw[b,b,o,o,c,c];refine⟨rfl,?_,rfl⟩;have:∀(l:List Tr) (j:Int),(∀y∈l,∃m,y= .mk m []/\m.op=3) ->(mK f l n 0 j d).map (·.n)=l.map (·.n):=by
   intro l
   induction l with
   |nil=>intros;rfl
   |cons y r u=>
    intro j h;obtain⟨m,rfl,t⟩:=h y Od;simp only[mK,List.map_cons];rw[nS Oo,u _ λz v=>h z (by simp[v])]
    rfl
  exact this q 0 (tj p i)
 have o:∀l,atmsT (.mk n l)=[]:=λl=>if_neg i;rw[o,o]
 by_cases a:n.op=12
 ·have b:∀l,kidsT (.mk n l)=l.flatMap (·.ks):=λl=>by simp[kidsT,a]
  have c:∀l,funsT (.mk n l)=l.map (·.n):=λl=>if_pos a;obtain⟨A,D⟩:=DE (f:=f) (d:=d) a q 0 0 (ya p a) rfl;rw[b,b,c,c];exact⟨A,rfl,D⟩
 ·have b:∀l,kidsT (.mk n l)=l:=λl=>by simp[kidsT,i,a]
  have c:∀l,funsT (.mk n l)=[]:=λl=>if_neg a;rw[b,b,c,c];exact⟨DF a s q 0 (DB p i a),rfl,rfl⟩
theorem Jr(a:Ok .tm x)(h1:x.n.op≠1):bB (mT f x d 0)= .agg (eJ x.n ((gL f x.n d (kidsT x) 0).map trP) ((atmsT x).map ndP) ((funsT x).map ndP)):=by
 obtain⟨b,c,i⟩:=Jq (f:=f) (d:=d) a h1;show PV.agg (eJ _ _ _ _)=_;rw[b,c,i,yc h1]
theorem yd{n:Nd}{y:Tr}:∀(l:List Tr) (i:Nat),gL f n d (l++[y]) i=gL f n d l i++[mT f y (d+kb n (i+l.length)) 0]
 |[],i=>by simp[gL]
 |z::r,i=>by
  simp only[List.cons_append,gL,yd r (i+1),JV];rw[show i+1+r.length=i+(r.length+1) by omega]
end
theorem kI(t:List Nd)(h:t.length<=1000000):VC prog 99 [ah t] (pI (eg t)):=by
 have n:=ak ndP t;refine vf 23 [.tmp 2] τok func99 ?_;refine ae (λg=>?_) (λg=>?_)
 ·exact⟨_,_,rfl,rfl,by unfold eg;rw[if_pos Oo];rfl⟩
 have b:=Dd' _ t (KJ _) Oo;have a:=BF t;rw[ti Oo,List.drop_zero]at a;have c:¬ t.length>4096:=Oo
 unfold gm at b;cases i:jW t with
 |none=>
  rw[i]at b a;exact af b<|⟨_,_,rfl,rfl,by unfold eg;rw[if_neg c,if_neg λq=>by simpa using a.2 q];rfl⟩
 |some q=>
  obtain⟨x,r⟩:=q;obtain⟨j,o⟩:=x5 i;have l:=congrArg List.length j;rw[JK]at l;rw[i]at b a;simp only[Option.map_some,Option.some.injEq]at b a;refine af b ?_;refine ae (λm=>?_) (λm=>?_)
  ·exact⟨_,_,rfl,rfl,by unfold eg;rw[if_neg c,if_neg λq=>by have:=a.2 q;omega];rfl⟩
  ·exact⟨_,_,rfl,rfl,by unfold eg;rw[if_neg c,if_pos (a.1 Oo)];rfl⟩
theorem lK{x:Tr}(a:Wf x):eg (row x)=0:=je a.ok a.len
theorem tk{t:List Nd}(h:eg t=0):∃x,Wf x/\t=row x:=by
 unfold eg at h;split at h
 ·cases h
 ·split at h
  ·rename_i i a
   obtain⟨x,b⟩:=Option.isSome_iff_exists.1 a;obtain⟨rfl,c⟩:=BC b;exact⟨x,⟨c,Oo⟩,rfl⟩
  ·cases h
theorem iH{x:Tr}(a:Wf x):VC prog 64 [ah (row x)] (.tup [bB x,.bool true]):=by
 have c:=kI (row x) (by have:=a.len;omega);rw[lK a]at c;have b:=Dd' _ (row x) (KJ _) (by have:=a.len;omega);have:=xZ a.ok [];rw[JD]at this;unfold gm at b;rw[this]at b;refine vf 18 [.cell 2 111,.tmp 3] τok func64 ?_;refine af c ?_;refine vn ?_;refine af b ?_;exact eA9
theorem iI{x:Tr}(a:Wf x):VC prog 50 [ah (row x)] (bw ((kidsT x).map row)):=by
 have n:=ak trP (kidsT x);have m:=gA a.ok;refine cA 29 [.tmp 2] τok func50 ?_;refine aj τok<|af (iH a) ?_;refine cV 5 1000 29 1 rfl rfl<|az τok (σ:=Nat) [(3,_)] [(3,_)] (λi=>[(5,.c (.row 1000)),(6,vI i)]) (λi=>[(1000,.rw 29 1 (((kidsT x).take i).map λy=>[ah (row y)]))]) (λi=>i<=(kidsT x).length) (λi=>(kidsT x).length-i) 0 (KV _) ?_;rintro i o;refine aj τok<|ae (λg=>?_) (λg=>?_)
 ·obtain⟨y,b,p⟩:=ay (l:=kidsT x) (k:=i)
  have j:=a.kid b;refine vt i b ?_;refine af (kr 4096 Oo y j j.len) ?_;refine aV ?_;refine vi ?_;exact au (i+1) (by show i+1<=_;omega) (sw 1000 27) (y':=⟨congrArg (λl=>some (SE.rw _ _ l)) (by rw[List.take_add_one,b];simp[cQ];rfl),trivial⟩)
 ·exact⟨_,_,rfl,rfl,by rw[JG Oo];exact congrArg PV.sl (by rw[List.map_map];rfl)⟩
theorem tl{x y:Operand}{p q:Nd}{k:PV ->Prop}(hk:k (.bool (!decide (p=q)))):mc prog .neq 42 x y (.c (.p (.agg (ndP p)))) (.c (.p (.agg (ndP q)))) k:=by
 refine⟨_,λC ρ va s w j l=>?_,hk⟩;have rd:∀{p:Nd} {v:Value},RA C ρ (.c (.p (.agg (ndP p)))) v ->v=jd p:=λ{p v} h=>by
  have h:RV C (.agg (ndP p)) v:=h;cases h with
  |agg t us m i=>
   match us,m with
   |[a,b,c],_=>
    have n:=i 0 _ _ rfl rfl;have o:=i 1 _ _ rfl rfl;have r:=i 2 _ _ rfl rfl;cases n;cases o;cases r
    rfl
 rw[rd j,rd l];exact⟨_,.bool _,CY x y p q w⟩
theorem jX{a b:List Nd}(ha:a.length<=1000000000)(hb:b.length<=1000000000):VC prog 10 [ah a,ah b] (.bool (decide (a=b))):=by
 have r:=ak ndP a;have s:=ak ndP b;have n:a≠b ->PV.bool false= .bool (decide (a=b)):=λh=>by rw[decide_eq_false h]
 refine vf 26 [.tmp 4] τok func10 ?_;refine ae (λg=>?_) (λg=>?_)
 ·exact⟨_,_,rfl,rfl,n λh=>by subst h;omega⟩
 refine vl τok (σ:=Nat) [(0,_),(1,_)] (λi=>[(5,vI i)]) (λi=>i<=a.length/\a.take i=b.take i) (λi=>a.length-i) 0 ⟨KV _,Od⟩ ?_;rintro i ⟨t,j⟩;refine ae (λg=>?_) (λg=>?_)
 ·obtain⟨p,m,u⟩:=ay (l:=a) (k:=i)
  obtain⟨q,c,o⟩:=ay (l:=b) (k:=i);refine vm i m ?_;refine vm i c ?_;refine tl ?_
  by_cases h:p=q
  ·rw[decide_eq_true h]
   refine vk ?_;refine vi ?_;exact au (i+1) ⟨Oo,by rw[List.take_add_one,List.take_add_one,j,m,c,h]⟩
  ·rw[decide_eq_false h]
   exact vk ⟨_,_,rfl,rfl,n λe=>h (by subst e;rw[m]at c;exact JB c)⟩
 ·exact⟨_,_,rfl,rfl,by
   rw[JG Oo,JG Oo]at j;rw[decide_eq_true j]
   rfl⟩
theorem o3{a:List Nd}(ha:a.length<=1000000):VC prog 13 [ah a] (ah a):=by
 refine vf 6 [.tmp 2] τok func13 ?_;refine va ?_ (fN _);exact eA9
theorem mU{x:Tr}(b:Ok .tm x)(i:Nat):0<=kb x.n i/\kb x.n i<=4:=by
 obtain⟨n,c⟩:=x;obtain⟨a,_,_⟩:=b.tm;show 0<=kb n i/\kb n i<=4;unfold kb;split
 ·rename_i h
  have:aE n.b 1 4=true:=by simp[aw,h]at a;exact a.1
  have:=dq.1 this;split<;>omega
 ·have:=wC n i
  omega
def nT(q:Int×Int)(m:Int):Int:=max (max (q.1-q.2) (-1)) m
def dw(l:List (Int×Int)):Int:=l.foldr nT (-1)
theorem ng':∀l,-1<=dw l
 |[]=>by simp[dw]
 |q::r=>by
  have:=ng' r;simp only[dw,List.foldr_cons,nT]at this ⊢;omega
theorem tY':∀(l m:List (Int×Int)),dw (l++m)=max (dw l) (dw m)
 |[],m=>by have:=ng' m;simp only[dw,List.nil_append,List.foldr_nil]at this ⊢;omega
 |q::r,m=>by
  have:=tY' r m;simp only[dw,List.cons_append,List.foldr_cons,nT]at this ⊢;omega
theorem Js{l:List (Int×Int)}{b:Int}(hb:-1<=b)(h:∀q∈l,q.1-q.2<=b):dw l<=b:=by
 induction l with
 |nil=>exact hb
 |cons q r a=>
  have c:=a λz i=>h z (by simp[i]);have j:=h q Od;simp only[dw,List.foldr_cons,nT]at c ⊢;omega
theorem Jt{l:List (Int×Int)}{n:Int}:(dw l<0 \/dw l<n)↔l.all (λq=>decide (q.1-q.2<max n 0))=true:=by
 rw[List.all_eq_true]
 induction l with
 |nil=>simp[dw]
 |cons q r a=>
  have b:=ng' r;simp only[JJ,forall_eq_or_imp,decide_eq_true_eq]at a ⊢;rw[<- a];simp only[dw,List.foldr_cons,nT]at b ⊢;omega
def Dp(d:Int)(x:Tr):Prop:=0<=d/\d+4*(row x).length<=1000000000
theorem Dp.kid{d:Int}{x:Tr}(h:Dp d x)(a:Ok .tm x){i:Nat}{y:Tr}(b:(kidsT x)[i]?=some y):Dp (d+kb x.n i) y:=by
 have:=hH a b;have:=mU a i;unfold Dp at h ⊢;omega
theorem tn{x:Tr}(b:Ok .tm x){d:Int}(a:Dp d x):∀q∈varsT x d 0,d<=q.2/\q.2<=1000000000/\0<=q.1/\q.1<=1048576:=λq c=>by
 have:=fh' x .tm d 0 b.1 a.1 Oo Oo q c;have:=a.2;omega
theorem jY{x:Tr}(a:Ok .tm x)(h1:x.n.op=1):kidsT x=[]/\atmsT x=[]/\funsT x=[]/\x= .mk x.n []/\x.n.b=0/\0<=x.n.a/\x.n.a<=1048576:=by
 obtain⟨n,b⟩:=x;have h1:n.op=1:=h1;have hk:=List.length_eq_zero_iff.1 (oC a.kids.1 h1);subst hk;have:=Jn h1 a.tm.1;exact⟨by simp[kidsT],if_neg (by rw[show (Tr.mk n []).n=n from rfl];omega),if_neg (by rw[show (Tr.mk n []).n=n from rfl];omega),rfl,this.2.2,this.1,this.2.1⟩
theorem tu{x:Tr}(h1:x.n.op=1)(d:Int):varsT x d 0=[(x.n.a,d)]:=by
 obtain⟨n,a⟩:=x;exact if_pos h1
theorem fd(n:Nd)(i:Nat):kb ⟨n.op,n.a,n.b⟩ i=kb n i:=rfl
theorem DG(N:Nat)(K:N<=1000000):∀(x:Tr) (d:Int),Wf x ->Dp d x ->(row x).length<=N ->VC prog 103 [bB x,pI d] (pI (dw (varsT x d 0))):=by
 induction N with
 |zero=>
  intro x d _ _ h;have:=aS x;omega
 |succ N u=>
  intro x d a p L;have v:=gA a.ok;have M:=ak trP (kidsT x);have r:=p;unfold Dp at r;refine vf 39 [.tmp 4] τok func103 ?_;refine ae (λn=>?_) (λn=>?_)
  ·have O:=jY a.ok n
   exact vi<|⟨_,_,rfl,rfl,by rw[tu n];simp only[dw,List.foldr_cons,List.foldr_nil,nT];exact congrArg pI Oo⟩
  ·have c:=yb (d:=d) a.ok n
   rw[c];have j:=tn a.ok p;rw[c]at j;have z:=ng' (vK x.n d (kidsT x) 0);have A:=Js (l:=vK x.n d (kidsT x) 0) (b:=1048576) Oo λq D=>by have:=j q D;omega
   refine az τok (σ:=Nat×Int) [(1,_),(2,_)] [(2,_)] (λq=>[(5,vI q.2),(6,vI q.1)]) (λ_=>[]) (λq=>q.1<=(kidsT x).length/\ -1<=q.2/\max q.2 (dw (vK x.n d ((kidsT x).drop q.1) q.1))=dw (vK x.n d (kidsT x) 0)) (λq=>(kidsT x).length-q.1) (0,-1) ⟨KV _,OO,by have:=ng' (vK x.n d (kidsT x) 0);simp only[List.drop_zero];omega⟩ ?_;rintro⟨i,m⟩ ⟨E,F,s⟩;simp only at E F s;refine aj τok<|ae (λg=>?_) (λg=>?_)
   ·obtain⟨y,o,t⟩:=ay (l:=kidsT x) (k:=i)
    have H:=hH a.ok o;have I:=mU a.ok i;rw[t,vK,tY']at s;refine vt i o ?_;refine af (oJ _ _ _ i Oo) ?_;refine vi ?_ (by simp only[fd];omega) (by simp only[fd];omega);refine af (u Oo y _ (a.kid o) (p.kid a.ok o) Oo) ?_;refine vk ?_;refine vi ?_;exact au (i+1,max m (dw (varsT y (d+kb x.n i) 0))) ⟨OS,OS,OS⟩
   ·rw[JY Oo]at s
    have:dw (vK x.n d [] i)= -1:=rfl;exact⟨_,_,rfl,rfl,congrArg pI OS⟩
theorem Ju{x:Tr}(a:Wf x)(n:Int):VC prog 100 [ah (row x),pI n] (.bool (jI x n)):=by
 have j:=DG 4096 Oo x 0 a ⟨Oo,by have:=a.len;omega⟩ a.len;have b:=Jt (l:=varsT x 0 0) (n:=n);have e:(dw (varsT x 0 0)<0 \/dw (varsT x 0 0)<n) ->PV.bool true= .bool (jI x n):=λh=>congrArg PV.bool (b.1 h).symm;have m:¬ (dw (varsT x 0 0)<0 \/dw (varsT x 0 0)<n) ->PV.bool false= .bool (jI x n):=λh=>by
  cases o:jI x n with
  |false=>rfl
  |true=>exact absurd (b.2 o) h
 refine vf 25 [.tmp 4] τok func100 ?_;refine af (iH a) ?_;refine af j ?_;refine ae (λc=>?_) (λc=>?_)
 ·exact⟨_,_,rfl,rfl,e (.inl c)⟩
 ·refine ae (λi=>?_) (λi=>?_)
  ·exact⟨_,_,rfl,rfl,e (.inr i)⟩
  ·exact⟨_,_,rfl,rfl,m Oo⟩
def hiF(by_:Int)(q:Int×Int)(m:Int):Int:=max (if q.2<=q.1 then q.1+by_ else -1) m
def fT(by_:Int)(l:List (Int×Int)):Int:=l.foldr (hiF by_) (-1)
theorem ye{b:Int}:∀l,-1<=fT b l
 |[]=>by simp[fT]
 |q::r=>by
  have:=ye (b:=b) r;simp only[fT,List.foldr_cons,hiF]at this ⊢;omega
theorem DH{b:Int}:∀(l m:List (Int×Int)),fT b (l++m)=max (fT b l) (fT b m)
 |[],m=>by have:=ye (b:=b) m;simp only[fT,List.nil_append,List.foldr_nil]at this ⊢;omega
 |q::r,m=>by
  have:=DH (b:=b) r m;simp only[fT,List.cons_append,List.foldr_cons,hiF]at this ⊢;omega
theorem qJ{b c:Int}{l:List (Int×Int)}(hc:-1<=c)(h:∀q∈l,q.2<=q.1 ->q.1+b<=c):fT b l<=c:=by
 induction l with
 |nil=>exact hc
 |cons q r a=>
  have i:=a λz j=>h z (by simp[j]);have m:=h q Od;simp only[fT,List.foldr_cons,hiF]at i ⊢;split<;>omega
theorem qK(b:Int)(hb:0<=b/\b<=1000000000)(N:Nat)(I:N<=1000000):∀(x:Tr) (d:Int),Wf x ->Dp d x ->(row x).length<=N ->VC prog 104 [bB x,pI b,pI d] (pI (fT b (varsT x d 0))):=by
 induction N with
 |zero=>
  intro x d _ _ h;have:=aS x;omega
 |succ N v=>
  intro x d a o K;have z:=gA a.ok;have L:=ak trP (kidsT x);have p:=o;unfold Dp at p;refine vf 46 [.tmp 6] τok func104 ?_;refine ae (λc=>?_) (λc=>?_)
  ·have M:=jY a.ok c
   refine ae (λr=>?_) (λr=>?_)
   ·refine vi ?_
    exact⟨_,_,rfl,rfl,by rw[tu c];simp only[fT,List.foldr_cons,List.foldr_nil,hiF,if_pos r];exact congrArg pI Oo⟩
   ·exact⟨_,_,rfl,rfl,by rw[tu c];simp only[fT,List.foldr_cons,List.foldr_nil,hiF,if_neg r];exact congrArg pI Oo⟩
  ·have j:=yb (d:=d) a.ok c
   rw[j];have s:=tn a.ok o;rw[j]at s;have A:=ye (b:=b) (vK x.n d (kidsT x) 0);refine az τok (σ:=Nat×Int) [(1,_),(2,_),(3,_)] [(3,_)] (λq=>[(7,vI q.2),(8,vI q.1)]) (λ_=>[]) (λq=>q.1<=(kidsT x).length/\ -1<=q.2/\max q.2 (fT b (vK x.n d ((kidsT x).drop q.1) q.1))=fT b (vK x.n d (kidsT x) 0)) (λq=>(kidsT x).length-q.1) (0,-1) ⟨KV _,OO,by simp only[List.drop_zero];omega⟩ ?_;rintro⟨i,m⟩ ⟨D,E,t⟩;simp only at D E t;refine aj τok<|ae (λg=>?_) (λg=>?_)
   ·obtain⟨y,n,u⟩:=ay (l:=kidsT x) (k:=i)
    have F:=hH a.ok n;have H:=mU a.ok i;rw[u,vK,DH]at t;refine vt i n ?_;refine af (oJ _ _ _ i Oo) ?_;refine vi ?_ (by simp only[fd];omega) (by simp only[fd];omega);refine af (v Oo y _ (a.kid n) (o.kid a.ok n) Oo) ?_;refine vk ?_;refine vi ?_;exact au (i+1,max m (fT b (varsT y (d+kb x.n i) 0))) ⟨OS,OS,OS⟩
   ·rw[JY Oo]at t
    have:fT b (vK x.n d [] i)= -1:=rfl;exact⟨_,_,rfl,rfl,congrArg pI OS⟩
def cK(l:List (Int×Int)):Nat:=(l.filter λq=>decide (q.1=q.2)).length
def lL(v:Int)(q:Int×Int)(m:Int):Int:=if q.1=q.2 then max (q.2-v) m else m
def dI(v:Int)(l:List (Int×Int)):Int:=l.foldr (lL v) 0
theorem tv{q:Int×Int}{l:List (Int×Int)}:cK (q::l)=(if q.1=q.2 then 1 else 0)+cK l:=by
 unfold cK;rw[List.filter_cons]
 by_cases h:q.1=q.2
 ·rw[if_pos (decide_eq_true h),if_pos h,JV];omega
 ·rw[if_neg (by simpa using h),if_neg h];omega
theorem Jv(l m:List (Int×Int)):cK (l++m)=cK l+cK m:=by
 unfold cK;rw[List.filter_append,JK]
theorem nU{v:Int}:∀l,0<=dI v l
 |[]=>by simp[dI]
 |q::r=>by
  have:=nU (v:=v) r;simp only[dI,List.foldr_cons,lL]at this ⊢;split<;>omega
theorem DI{v:Int}:∀(l m:List (Int×Int)),dI v (l++m)=max (dI v l) (dI v m)
 |[],m=>by have:=nU (v:=v) m;simp only[dI,List.nil_append,List.foldr_nil]at this ⊢;omega
 |q::r,m=>by
  have:=DI (v:=v) r m;simp only[dI,List.cons_append,List.foldr_cons,lL]at this ⊢;split<;>omega
theorem DJ{v k:Int}(hk:0<=k):∀l:List (Int×Int),(∀q∈l,v+k<=q.2) ->dI v l=if 0<cK l then dI (v+k) l+k else 0
 |[],_=>rfl
 |q::r,h=>by
  have b:=DJ hk r λz c=>h z (by simp[c]);have o:=h q Od;have j:=nU (v:=v+k) r;rw[tv];simp only[dI,List.foldr_cons,lL]at b j ⊢;have m:∀l:List (Int×Int),¬ 0<cK l ->l.foldr (lL (v+k)) 0=0:=by
   intro l
   induction l with
   |nil=>intro _;rfl
   |cons z l n=>
    intro h;rw[tv]at h;split at h
    ·omega
    ·rename_i c
     simp only[List.foldr_cons,lL,if_neg c];exact n Oo
  by_cases a:q.1=q.2
  ·rw[if_pos a,if_pos a,if_pos a,b,if_pos (show 0<1+cK r by omega)]
   by_cases i:0<cK r
   ·rw[if_pos i]
    omega
   ·rw[if_neg i,m r i]
    omega
  ·rw[if_neg a,if_neg a,if_neg a,b]
   simp
theorem yf{v c:Int}{l:List (Int×Int)}(hc:0<=c)(h:∀q∈l,q.2-v<=c):dI v l<=c:=by
 induction l with
 |nil=>exact hc
 |cons q r a=>
  have b:=a λz i=>h z (by simp[i]);have j:=h q Od;simp only[dI,List.foldr_cons,lL]at b ⊢;split<;>omega
theorem yg(l:List (Int×Int)):cK l<=l.length:=List.length_filter_le _ _
theorem DK(N:Nat)(hN:N<=1000000):∀(x:Tr) (d:Int),Wf x ->Dp d x ->(row x).length<=N ->VC prog 108 [bB x,pI d] (.tup [pI (cK (varsT x d 0)),pI (dI d (varsT x d 0))]):=by
 induction N with
 |zero=>
  intro x d _ _ h;have:=aS x;omega
 |succ N R=>
  intro x d j E hl;have S:=gA j.ok;have eK:=ak trP (kidsT x);have F:=E;unfold Dp at F;have fin:∀{a b P Q:Int},a=P ->b=Q ->PV.tup [pI a,pI b]= .tup [pI P,pI Q]:=λr o=>by rw[r,o]
  refine vf 56 [.tmp 4,.tmp 5] τok func108 ?_;refine ae (λr=>?_) (λr=>?_)
  ·have hv:=jY j.ok r
   rw[tu r];refine ae (λo=>?_) (λo=>?_)
   ·exact⟨_,_,rfl,rfl,fin (by rw[tv,if_pos o];rfl) (by simp only[dI,List.foldr_cons,List.foldr_nil,lL,if_pos o];omega)⟩
   ·exact⟨_,_,rfl,rfl,fin (by rw[tv,if_neg o];rfl) (by simp only[dI,List.foldr_cons,List.foldr_nil,lL,if_neg o])⟩
  ·have H:=yb (d:=d) j.ok r
   have s:=gJ' x d 0;have t:=tn j.ok E;have T:=yg (varsT x d 0);have hw:=j.len;rw[H]at s t T ⊢;have U:=nU (v:=d) (vK x.n d (kidsT x) 0);have V:=yf (v:=d) (l:=vK x.n d (kidsT x) 0) (c:=1000000000) Oo λq I=>by have:=t q I;omega
   refine az τok (σ:=Nat×Int×Int) [(1,_),(2,_)] [(2,_)] (λq=>[(6,vI q.2.1),(7,vI q.2.2),(8,vI q.1)]) (λ_=>[]) (λq=>q.1<=(kidsT x).length/\0<=q.2.1/\0<=q.2.2/\q.2.1+cK (vK x.n d ((kidsT x).drop q.1) q.1)=cK (vK x.n d (kidsT x) 0)/\max q.2.2 (dI d (vK x.n d ((kidsT x).drop q.1) q.1))=dI d (vK x.n d (kidsT x) 0)) (λq=>(kidsT x).length-q.1) (0,0,0) ⟨KV _,OO,OO,by simp only[List.drop_zero];omega,by simp only[List.drop_zero];omega⟩ ?_;rintro⟨i,n,m⟩ ⟨W,X,Y,K,u⟩;simp only at W X Y K u;refine aj τok<|ae (λg=>?_) (λg=>?_)
   ·obtain⟨y,z,A⟩:=ay (l:=kidsT x) (k:=i)
    have Z:=hH j.ok z;have L:=mU j.ok i;have D:=E.kid j.ok z;have M:=tn (j.kid z).ok D;have O:=DJ L.1 (varsT y (d+kb x.n i) 0) λq I=>(M q I).1;have h0:=nU (v:=d+kb x.n i) (varsT y (d+kb x.n i) 0);rw[A,vK,Jv]at K;rw[A,vK,DI,O]at u;refine af (oJ _ _ _ i Oo) ?_;refine vt i z ?_;refine vi ?_ (by simp only[fd];omega) (by simp only[fd];omega);refine af (R Oo y _ (j.kid z) D Oo) ?_;refine ae (λp=>?_) (λp=>?_)
    ·have p:0<cK (varsT y (d+kb x.n i) 0):=by rw[fd]at p;omega
     rw[if_pos p]at u;refine vi ?_ (by simp only[fd];omega) (by simp only[fd];omega);refine vi ?_ (by simp only[fd];omega) (by simp only[fd];omega);refine vi ?_;exact au (i+1,n+cK (varsT y (d+kb x.n i) 0),max m (dI (d+kb x.n i) (varsT y (d+kb x.n i) 0)+kb x.n i)) ⟨OS,OS,OS,OS,OS⟩
    ·have p:¬ 0<cK (varsT y (d+kb x.n i) 0):=by rw[fd]at p;omega
     rw[if_neg p]at u;refine vi ?_ (by simp only[fd];omega) (by simp only[fd];omega);refine vi ?_;exact au (i+1,n+cK (varsT y (d+kb x.n i) 0),m) ⟨OS,OS,OS,OS,OS⟩
   ·rw[JY Oo]at K u
    have e1:cK (vK x.n d [] i)=0:=rfl;have e2:dI d (vK x.n d [] i)=0:=rfl;exact⟨_,_,rfl,rfl,fin OS OS⟩
def fe(b:Int)(d:Int)(n:Nd):Tr:=.mk {n with a:=if d<=n.a then n.a+b else n.a} []
theorem Jw{x:Tr}(c:Ok .tm x)(i:dL x){b:Int}(hb:b<=500000):aH x b 0=mT (fe b) x 0 0:=by
 have a:=mr c i (by_:=b) (fr:=0) hb;unfold ka at a;rw[wm' (h:=fB b 0) (f:=fe b) x .tm 0 0 c.1 λq l n a o p=>by
   have m:=i q l;unfold fB fe
   by_cases j:q.2<=n.a
   ·rw[if_pos Oo,if_neg Oo,if_pos j]
   ·rw[if_neg Oo,if_neg j]]at a
 exact(JB a).symm
def qL(u:Tr)(v:Int)(d:Int)(n:Nd):Tr:=if n.a=v+d then jJ u (v+d)else if v+d<n.a/\0<n.a then .mk {n with a:=n.a-1} []else .mk n []
theorem Jx{x u:Tr}(b:Ok .tm x)(v:Int):eu x u v=mT (qL u v) x 0 0:=by
 have a:=oE (u:=u) b v;rw[wm' (h:=eo u v) (f:=qL u v) x .tm 0 0 b.1 λq c n a i j=>by
   unfold eo qL;split
   ·rfl
   ·split<;>rfl]at a
 exact(JB a).symm
def Jy{α β:Type}(f:α ->β)(m:Except Int α):Except Int β:=match m with
 | .error e=>.error e
 | .ok x=>.ok (f x)
theorem DL{x:Tr}{f:Int ->Nd ->Tr}{d:Int}(b:Ok .tm x)(h:x.n.op≠1 \/mT f x d 0=x):PV.agg (eJ x.n ((gL f x.n d (kidsT x) 0).map trP) ((atmsT x).map ndP) ((funsT x).map ndP))=bB (mT f x d 0):=by
 by_cases a:x.n.op=1
 ·rcases h with h|h
  ·exact absurd a h
  ·rw[h,(jY b a).1,(jY b a).2.1,(jY b a).2.2.1]
   show _=PV.agg (eJ _ _ _ _);rw[(jY b a).1,(jY b a).2.1,(jY b a).2.2.1]
   rfl
 ·exact(Jr b a).symm
theorem DM(a b:Int):bB (.mk ⟨1,a,b⟩ [])= .agg [pI 1,pI a,pI b,.sl [],.sl [],.sl []]:=rfl
theorem qM(b:Int)(hb:0<=b/\b<=1000000000)(N:Nat)(L:N<=1000000):∀(x:Tr) (d:Int),Wf x ->Dp d x ->(row x).length<=N ->VC prog 105 [bB x,pI b,pI d] (bB (mT (fe b) x d 0)):=by
 induction N with
 |zero=>
  intro x d _ _ h;have:=aS x;omega
 |succ N v=>
  intro x d a r M;have z:=gA a.ok;have A:=ak trP (kidsT x);have m:=r;unfold Dp at m;refine vf 60 [.cell 6 111] τok func105 ?_;refine ae (λc=>?_) (λc=>?_)
  ·have D:=jY a.ok c
   obtain⟨s,O,P,t,E,Q,R⟩:=D;have u:mT (fe b) x d 0=fe b d x.n:=by rw[t];exact qI c
   refine ae (λo=>?_) (λo=>?_)
   ·refine vi ?_
    exact⟨_,_,rfl,rfl,by
     have e:fe b d x.n= .mk ⟨1,x.n.a+b,0⟩ []:=by unfold fe;rw[if_pos o,c,E]
     rw[u,e,DM]
     rfl⟩
   ·refine az τok (σ:=Unit) [(1,_),(2,_),(3,_),(6,_),(7,_)] [(3,_),(6,_),(7,_)] (λ_=>[(8,vI 0)]) (λ_=>[]) (λ_=>True) (λ_=>0) () trivial ?_
    rintro _ _;refine aj τok<|vn ?_ (by rw[A,s];simp);exact⟨_,_,rfl,rfl,by
     have e:fe b d x.n=x:=by unfold fe;rw[if_neg o];exact t.symm
     rw[u,e];show _=PV.agg (eJ _ _ _ _);rw[s]
     rfl⟩
  ·refine jE 7 3 1000 111 6 rfl rfl rfl OO ?_
   refine az τok (σ:=Nat) [(1,_),(2,_),(3,_),(6,_),(7,_)] [(3,_),(6,_)] (λi=>[(8,vI i)]) (λi=>[(7,.st 0 111 [.p (pI x.n.op),.p (pI x.n.a),.p (pI x.n.b),.row 1000,.p (.sl ((atmsT x).map ndP)),.p (.sl ((funsT x).map ndP))]),(1000,.rw 111 6 ((gL (fe b) x.n d ((kidsT x).take i) 0).map trP))]) (λi=>i<=(kidsT x).length) (λi=>(kidsT x).length-i) 0 (KV _) ?_;rintro i F;refine aj τok<|ae (λg=>?_) (λg=>?_)
   ·obtain⟨y,j,H⟩:=ay (l:=kidsT x) (k:=i)
    have I:=hH a.ok j;have K:=mU a.ok i;have q:=x9 (f:=fe b) (n:=x.n) (d:=d) ((kidsT x).take i) 0;rw[List.length_take]at q;refine vt i j ?_;refine af (oJ _ _ _ i Oo) ?_;refine vi ?_ (by rw[fd];omega) (by rw[fd];omega);refine af (v Oo y _ (a.kid j) (r.kid a.ok j) Oo) ?_;refine aV ?_;refine vk ?_;refine vi ?_;refine au (i+1) (by show i+1<=_;omega) (sw 1000 57) (y':=⟨rfl,congrArg (λl=>some (SE.rw _ _ l)) ?_,trivial⟩);rw[List.take_add_one,j,Option.toList,yd,List.map_append,List.length_take,KW,Nat.min_eq_left F];exact congrArg (_++[·]) (jO _).symm
   ·rw[JG Oo]
    exact⟨_,_,rfl,rfl,DL a.ok (.inl c)⟩
def jZ(u:Tr)(d:Int)(n:Nd):Tr:=if n.a=d then mT (fe d) u 0 0 else if d<n.a then .mk {n with a:=n.a-1} []else .mk n []
theorem qN(u:Tr)(m:Wf u)(N:Nat)(K:N<=1000000):∀(x:Tr) (d:Int),Wf x ->Dp d x ->(row x).length<=N ->VC prog 109 [bB x,bB u,pI d,pI d] (bB (mT (jZ u) x d 0)):=by
 induction N with
 |zero=>
  intro x d _ _ h;have:=aS x;omega
 |succ N v=>
  intro x d a s L;have z:=gA a.ok;have M:=ak trP (kidsT x);have o:=s;unfold Dp at o;refine vf 73 [.cell 8 111] τok func109 ?_;refine ae (λb=>?_) (λb=>?_)
  ·obtain⟨O,P,Q,t,A,R,S⟩:=jY a.ok b
   have D:mT (jZ u) x d 0=jZ u d x.n:=by rw[t];exact qI b
   rw[D];refine ae (λj=>?_) (λj=>?_)
   ·refine af (qM d Oo 4096 Oo u 0 m ⟨Oo,by have:=m.len;omega⟩ m.len) ?_
    exact⟨_,_,rfl,rfl,by unfold jZ;rw[if_pos j];rfl⟩
   ·refine ae (λq=>?_) (λq=>?_)
    ·refine vi ?_
     exact⟨_,_,rfl,rfl,by unfold jZ;rw[if_neg j,if_pos q,b,A,DM];rfl⟩
    ·exact⟨_,_,rfl,rfl,by unfold jZ;rw[if_neg j,if_neg q,<- t];rfl⟩
  ·refine jE 9 3 1000 111 6 rfl rfl rfl OO ?_
   refine az τok (σ:=Nat) [(1,_),(2,_),(3,_),(4,_),(5,_),(8,_),(9,_)] [(4,_),(5,_),(8,_)] (λi=>[(10,vI i)]) (λi=>[(9,.st 0 111 [.p (pI x.n.op),.p (pI x.n.a),.p (pI x.n.b),.row 1000,.p (.sl ((atmsT x).map ndP)),.p (.sl ((funsT x).map ndP))]),(1000,.rw 111 6 ((gL (jZ u) x.n d ((kidsT x).take i) 0).map trP))]) (λi=>i<=(kidsT x).length) (λi=>(kidsT x).length-i) 0 (KV _) ?_;rintro i E;refine aj τok<|ae (λg=>?_) (λg=>?_)
   ·obtain⟨y,c,F⟩:=ay (l:=kidsT x) (k:=i)
    have H:=hH a.ok c;have I:=mU a.ok i;have r:=x9 (f:=jZ u) (n:=x.n) (d:=d) ((kidsT x).take i) 0;rw[List.length_take]at r;refine af (oJ _ _ _ i Oo) ?_;refine vt i c ?_;refine vi ?_ (by rw[fd];omega) (by rw[fd];omega);refine vi ?_ (by rw[fd];omega) (by rw[fd];omega);refine af (v Oo y _ (a.kid c) (s.kid a.ok c) Oo) ?_;refine aV ?_;refine vk ?_;refine vi ?_;refine au (i+1) (by show i+1<=_;omega) (sw 1000 70) (y':=⟨rfl,congrArg (λl=>some (SE.rw _ _ l)) ?_,trivial⟩);rw[List.take_add_one,c,Option.toList,yd,List.map_append,List.length_take,KW,Nat.min_eq_left E];exact congrArg (_++[·]) (jO _).symm
   ·rw[JG Oo]
    exact⟨_,_,rfl,rfl,DL a.ok (.inl b)⟩
theorem tw{x:Tr}(c:Ok .tm x)(i:dL x){b fr:Int}(hb:b<=500000):aH x b fr=mT (fe b) x fr 0:=by
 have a:=mr c i (by_:=b) (fr:=fr) hb;unfold ka at a;rw[wm' (h:=fB b fr) (f:=λd n=>fe b (d+fr) n) x .tm 0 0 c.1 λq m n a p r=>by
   have o:=i q m;unfold fB fe
   by_cases j:q.2+fr<=n.a
   ·rw[if_pos Oo,if_neg Oo,if_pos j]
   ·rw[if_neg Oo,if_neg j]]at a
 have l:=tU' (f:=fe b) (f3:=λd n=>fe b (d+fr) n) (e:=fr) x .tm 0 0 c.1 λ_ _ _ _ _ _=>rfl;rw[Int.zero_add]at l;rw[l];exact(JB a).symm
theorem DN(x:Tr)(d:Int):varsT x d 0=(varsT x 0 0).map λq=>(q.1,q.2+d):=by
 have:=wU d x 0 0
 rwa [Int.zero_add]at this
theorem o4{x:Tr}(a:Wf x)(j:dL x){b fr:Int}(hb:0<=b/\b<=500000)(K:0<=fr/\fr<=500000):VC prog 52 [ah (row x),pI b,pI fr] (.tup [ah (row (aH x b fr)),pI 0]):=by
 have D:=a.len;have i:=kI (row x) Oo;rw[lK a]at i;have E:Dp 0 x:=⟨Oo,Oo⟩
 have o:Dp fr x:=⟨Oo,Oo⟩
 have F:=DG 4096 Oo x 0 a E a.len;have H:=qK b Oo 4096 Oo x fr a o a.len;have s:=qM b Oo 4096 Oo x fr a o a.len;have t:=tw a.ok j (b:=b) (fr:=fr) hb.2;rw[<- t]at s;have u:Wf (aH x b fr):=⟨wL a.ok j hb.1 hb.2,KQ (wO a.ok j hb.2) D⟩
 have I:=qJ (b:=b) (l:=varsT x fr 0) (c:=1000000) Oo λq m _=>by
  rw[DN]at m;obtain⟨p,v,rfl⟩:=List.mem_map.1 m;have:=j p v;simp only;omega
 refine vf 49 [.tmp 6,.tmp 7] τok func52 ?_;refine af i ?_;refine vn ?_;refine vn ?_;refine vn ?_;refine af (iH a) ?_;refine af F ?_;refine ae (λg=>?_) (λg=>?_)
 ·have:aH x b fr=x:=by
   have y:=tV' (f:=fe b) (e:=fr) x .tm 0 0 a.ok.1 λq m n L v M=>by
    have:q.1-q.2<=dw (varsT x 0 0):=by
     have:∀l:List (Int×Int),q∈l ->q.1-q.2<=dw l:=by
      intro l
      induction l with
      |nil=>intro h;cases h
      |cons z r A=>
       intro h;simp only[dw,List.foldr_cons,nT]at A ⊢;rcases List.mem_cons.1 h with rfl|h
       ·omega
       ·have:=A h;omega
     exact this _ m
    unfold fe;rw[if_neg Oo]
   rw[Int.zero_add]at y;rw[t];exact y
  rw[this];refine af (kr 4096 Oo x a a.len) ?_;exact eA9
 ·refine vn ?_
  refine af H ?_;refine vn ?_;refine af s ?_;refine af (kr 4096 Oo _ u u.len) ?_;exact eA9
theorem DO{x u:Tr}(a:Wf x){v:Int}(c:Ok .tm u)(i:dL u)(m:0<=v/\v<=300000):mT (jZ u) x v 0=eu x u v:=by
 rw[Jx a.ok v];have j:=tU' (f:=jZ u) (f3:=qL u v) (e:=v) x .tm 0 0 a.ok.1 λq l n o p r=>by
  have s:=fh' x .tm 0 0 a.ok.1 Oo Oo Oo q l;have:=a.len;unfold jZ qL
  by_cases e:n.a=q.2+v
  ·rw[if_pos e,if_pos Oo,jJ,if_pos Oo,Jw c i Oo,Int.add_comm]
  ·rw[if_neg e]
   by_cases b:q.2+v<n.a
   ·rw[if_pos b,if_neg (show ¬ n.a=v+q.2 by omega),if_pos Oo]
   ·rw[if_neg b,if_neg (show ¬ n.a=v+q.2 by omega),if_neg Oo]
 rwa [Int.zero_add]at j
theorem DP(x:Tr)(v:Int):(cK (varsT x v 0):Int)=(nJ x v).1:=by
 have b:=wX v (varsT x 0 0) (0,0);unfold nJ;rw[b,DN];simp only[Int.zero_add,gV,cK]
 congr 1
 induction varsT x 0 0 with
 |nil=>rfl
 |cons q r a=>
  simp only[List.map_cons,List.filter_cons]
  by_cases h:q.1=q.2+v
  ·rw[if_pos (decide_eq_true h),if_pos OK,JV,JV,a]
  ·rw[if_neg (by simpa using h),if_neg OK,a]
theorem tx{x u:Tr}(a:Wf x)(i:Wf u)(p:dL u){v:Int}(I:0<=v/\v<=300000):VC prog 60 [ah (row x),ah (row u),pI v] (cW (bk x u v)):=by
 have V:=a.len;have M:=i.len;have o:=ak ndP (row x);have j:=ak ndP (row u);have N:=aS u;have r:=kI (row x) Oo;have s:=kI (row u) Oo;rw[lK a]at r;rw[lK i]at s;have K:Dp v x:=⟨Oo,Oo⟩
 have O:=DK 4096 Oo x v a K a.len;have W:=yg (varsT x v 0);have P:=gJ' x v 0;have Q:=nU (v:=v) (varsT x v 0);have D:=fh' x .tm v 0 a.ok.1 I.1 Oo Oo;have R:=yf (v:=v) (l:=varsT x v 0) (c:=20000) Oo λq E=>by have:=D q E;omega
 have S:=qK (v+dI v (varsT x v 0)) Oo 4096 Oo u 0 i ⟨Oo,Oo⟩ i.len;have T:=qJ (b:=v+dI v (varsT x v 0)) (l:=varsT u 0 0) (c:=1000000) Oo λq E _=>by have:=p q E;omega
 have F:=qN u i 4096 Oo x v a K a.len;rw[DO a i.ok p I]at F;have U:=DP x v;have L:0<=(cK (varsT x v 0):Int)*(((row u).length:Int)-1)/\(cK (varsT x v 0):Int)*(((row u).length:Int)-1)<=4096*4096:=⟨Int.mul_nonneg Oo Oo,Int.mul_le_mul Oo Oo Oo Oo⟩
 have t:gc x u v=true↔4096<((row x).length:Int)+(cK (varsT x v 0):Int)*(((row u).length:Int)-1):=by
  unfold gc;rw[<- U];exact decide_eq_true_iff
 have y:VC prog 102 [bB (eu x u v)] (ah (row (eu x u v))) \/gc x u v=true:=by
  cases z:gc x u v with
  |true=>exact .inr rfl
  |false=>exact .inl (kr 4096 Oo _ ⟨wN a.ok i.ok p,sP a.ok i.ok p z⟩ (sP a.ok i.ok p z))
 have A:min v 2097152=v:=Oo
 refine vf 69 [.tmp 6,.tmp 7] τok func60 ?_;refine af r ?_;refine vy ?_;refine af s ?_;refine vn ?_;refine vn ?_;refine af (iH a) ?_;refine af (iH i) ?_;refine af (show VC prog _ [bB x,pI (min v 2097152)] _ by rw[A];exact O) ?_;have fin:4096<((row x).length:Int)+(cK (varsT x v 0):Int)*(((row u).length:Int)-1) ->PV.tup [.sl [],pI 9]=cW (bk x u v):=λh=>by unfold bk;rw[if_pos (t.2 h)];rfl
 have n:¬ 4096<((row x).length:Int)+(cK (varsT x v 0):Int)*(((row u).length:Int)-1) ->VC prog 102 [bB (eu x u v)] (ah (row (eu x u v)))/\PV.tup [ah (row (eu x u v)),pI 0]=cW (bk x u v):=λh=>by
  have z:¬ gc x u v=true:=λq=>h (t.1 q);refine⟨y.resolve_right z,?_⟩;unfold bk;rw[if_neg z]
  rfl
 refine ae (λg=>?_) (λg=>?_)
 ·refine vi ?_
  refine af (show VC prog _ [bB u,pI (min v 2097152+dI v (varsT x v 0)),pI 0] _ by rw[A];exact S) ?_;refine vn ?_;refine vi ?_;refine vi ?_ (by simp only[j];omega) (by simp only[j];omega);refine vi ?_ (by simp only[o,j];omega) (by simp only[o,j];omega);refine ae (λm=>?_) (λm=>?_)<;>simp only[o,j]at m
  ·exact⟨_,_,rfl,rfl,fin m⟩
  ·obtain⟨q1,H⟩:=n m
   refine af (show VC prog _ [bB x,bB u,pI (min v 2097152),pI (min v 2097152)] _ by rw[A];exact F) ?_;exact af q1<|⟨_,_,rfl,rfl,H⟩
 ·refine vi ?_
  refine vi ?_ (by simp only[j];omega) (by simp only[j];omega);refine vi ?_ (by simp only[o,j];omega) (by simp only[o,j];omega);refine ae (λm=>?_) (λm=>?_)<;>simp only[o,j]at m
  ·exact⟨_,_,rfl,rfl,fin m⟩
  ·obtain⟨q1,H⟩:=n m
   refine af (show VC prog _ [bB x,bB u,pI (min v 2097152),pI (min v 2097152)] _ by rw[A];exact F) ?_;exact af q1<|⟨_,_,rfl,rfl,H⟩
theorem lM{x:Tr}(i:Wf x)(b:x.n.op=6):∃f a,kidsT x=[f,a]/\Wf f/\Wf a/\headT x=headT f/\argsT x=argsT f++[a]/\(row f).length<(row x).length:=by
 obtain⟨n,l⟩:=x;have b:n.op=6:=id b;have c:¬ n.op=2/\¬ n.op=12:=Oo
 obtain⟨f,a,rfl,m,o⟩:=ms i.ok b;have hk:kidsT (.mk n [f,a])=[f,a]:=by simp only[kidsT,if_neg c.1,if_neg c.2]
 exact⟨f,a,hk,i.kid (j:=0) (by rw[hk];rfl),i.kid (j:=1) (by rw[hk];rfl),kc b,ke b,hH i.ok (j:=0) (by rw[hk];rfl)⟩
theorem gn{x:Tr}(a:x.n.op≠6):headT x=x/\argsT x=[]:=by
 obtain⟨n,b⟩:=x;exact⟨lA a,mu a⟩
theorem mV{x:Tr}(c:Wf x):∀N:Nat,(row x).length<=N ->(argsT x).length<N:=by
 intro N
 induction N generalizing x with
 |zero=>intro h;have:=aS x;omega
 |succ N i=>
  intro h
  by_cases b:x.n.op=6
  ·obtain⟨f,a,_,j,_,_,e,l⟩:=lM c b
   have:=i j Oo;rw[e];simp;omega
  ·rw[(gn b).2]
   simp
theorem yh{x:Tr}(i:Wf x):VC prog 112 [ah (row x)] (.tup [ah (row (headT x)),bw ((argsT x).map row)]):=by
 have t:=mV i 4096 i.len;refine cA 33 [.tmp 2,.tmp 3] τok func112 ?_;refine aj τok<|af (iH i) ?_;refine cV 6 1000 29 1 rfl rfl<|az τok (σ:=Tr×List Tr) [(0,_),(2,_),(3,_),(4,_)] [] (λq=>[(6,.c (.row 1000))]) (λq=>[(4,.st 0 111 ((dT q.1).map .p)),(1000,.rw 29 1 (q.2.map λy=>[ah (row y)]))]) (λq=>Wf q.1/\headT q.1=headT x/\argsT q.1++q.2=argsT x) (λq=>(row q.1).length) (x,[]) ⟨i,rfl,Od⟩ ?_;rintro⟨z,u⟩ ⟨j,m,b⟩;simp only at j m b;have v:=congrArg List.length b;rw[JK]at v;refine aj τok<|ae (λg=>?_) (λg=>?_)
 ·obtain⟨f,a,hk,A,r,n,o,D⟩:=lM j g
  refine vt 1 (by rw[hk];rfl) ?_;refine af (kr 4096 Oo a r r.len) ?_;refine va ?_ (λy _=>⟨rfl,λq s=>by simp at s;subst s;rfl⟩);refine vt 0 (by rw[hk];rfl) ?_;exact au (f,a::u) ⟨A,by rw[<- n];exact m,by rw[<- b,o];simp⟩ (sw 1000 25)
 ·obtain⟨n,o⟩:=gn g
  refine af (kr 4096 Oo z j j.len) ?_;rw[n]at m;rw[o,List.nil_append]at b;exact⟨_,_,rfl,rfl,by
   rw[<- m,<- b];exact congrArg (λl=>PV.tup [ah (row z),PV.sl l]) (by rw[List.map_map];rfl)⟩
theorem Jz{x:Tr}{ys:List Tr}{i:Nat}{y:Tr}(a:ys[i]?=some y):row (al' x (ys.take (i+1)))=appN::row (al' x (ys.take i))++row y/\(row (al' x (ys.take i))).length<=(row (al' x ys)).length:=by
 have n:=aI a;have e:ys=ys.take i++y::ys.drop (i+1):=by
  obtain⟨z,j,o⟩:=ay n;rw[a]at j;obtain rfl:=JB j;rw[<- o,List.take_append_drop]
 have p:∀l:List Tr,rows (l++[y])=rows l++row y:=by
  intro l
  induction l with
  |nil=>simp[rows]
  |cons z r b=>simp[rows,b]
 constructor
 ·rw[List.take_add_one,a,Option.toList,bJ',bJ',p,JK,List.length_singleton,List.replicate_succ]
  simp
 ·have c:∀l m:List Tr,(rows (l++m)).length=(rows l).length+(rows m).length:=by
   intro l m
   induction l with
   |nil=>simp[rows]
   |cons z r b=>simp only[List.cons_append,rows,JK,b];omega
  conv=>rhs;rw[e]
  simp only[bJ',JK,List.length_replicate,c];omega
theorem qO{x:Tr}(p:Wf x){ys:List Tr}(u:∀y∈ys,Wf y)(hl:ys.length<=5000):VC prog 110 [ah (row x),bw (ys.map row)] (cW (aK x ys)):=by
 have m:=kI (row x) (by have:=p.len;omega);rw[lK p]at m;have v:=p.len;have z:((ys.map row).map λt=>[ah t])=ys.map λy=>[ah (row y)]:=by rw[List.map_map];rfl
 have H:=ak (λy=>[ah (row y)]) ys;show VC _ _ [ah (row x),.sl ((ys.map row).map λt=>[ah t])] _;rw[z];refine vf 47 [.tmp 4,.tmp 5] τok func110 ?_;refine af m ?_;refine vn ?_;refine va ?_ (fN _);refine az τok (σ:=Nat×List Nd) [(1,_),(4,_),(5,_)] [] (λq=>[(7,.c (.row 1000)),(8,vI q.1)]) (λq=>[(1000,.rw 42 3 (q.2.map ndP))]) (λq=>q.1<=ys.length/\q.2.length<=10000/\(q.2=row (al' x (ys.take q.1)) \/4096<q.2.length/\4096<(row (al' x ys)).length)) (λq=>ys.length-q.1) (0,row x) ⟨KV _,OS,.inl (by simp[al'])⟩ ?_ (sw 1000 16);rintro⟨i,l⟩ ⟨A,r,n⟩;simp only at A r n;have D:=ak ndP l;refine aj τok<|ae (λg=>?_) (λg=>?_)
 ·obtain⟨y,a,I⟩:=ay (l:=ys) (k:=i)
  have s:=u y (JQ a);have E:=s.len;have o:=kI (row y) Oo;rw[lK s]at o;obtain⟨F,K⟩:=Jz (x:=x) a;refine vm i a ?_;refine af o ?_;refine vn ?_;refine ae (λj=>?_) (λj=>?_)
  ·refine va ?_ (fN _)
   refine vm i a ?_;refine va ?_ (fN _);refine vk ?_;refine vi ?_;have b:l=row (al' x (ys.take i)):=n.resolve_right λq=>by have:=q.1;simp only at j;omega
   exact au (i+1,appN::l++row y) ⟨OS,by simp only[JK,JV];simp only at j;omega,.inl (by rw[F,b])⟩ (sw 1000 42) (y':=⟨congrArg (λl=>some (SE.rw _ _ l)) (by simp[cQ];rfl),trivial⟩)
  ·refine vi ?_
   refine au (i+1,l) ⟨OS,r,.inr ?_⟩;simp only at j;rcases n with h|h
   ·have:=congrArg List.length h
    exact⟨OS,Oo⟩
   ·exact h
 ·refine ae (λj=>?_) (λj=>?_)<;>simp only[D]at j
  ·exact⟨_,_,rfl,rfl,by
    unfold aK;rw[if_pos]
    ·rfl
    ·rcases n with h|h
     ·rw[JG Oo]at h
      rw[<- h];omega
     ·exact h.2⟩
  ·have b:l=row (al' x ys):=by
    rcases n with h|h
    ·rwa [JG Oo]at h
    ·have:=h.1;omega
   exact⟨_,_,rfl,rfl,by
    unfold aK;rw[if_neg (by rw[<- b];omega),b]
    rfl⟩
theorem preB_take{ys:List Tr}{i:Nat}{y:Tr}(a:ys[i]?=some y):dF 4 (ys.take (i+1))=dF 4 (ys.take i)++⟨4,0,0⟩::row y/\(dF 4 (ys.take i)).length<=(dF 4 ys).length:=by
 constructor
 ·rw[List.take_add_one,a,Option.toList]
  simp[dF]
 ·conv=>rhs;rw[<- List.take_append_drop i ys]
  simp only[dF,List.flatMap_append,JK];omega
theorem tz{x:Tr}(r:Wf x){ys:List Tr}(z:∀y∈ys,Wf y)(hl:ys.length<=5000):VC prog 58 [pI 4,bw (ys.map row),ah (row x)] (cW (be ys x)):=by
 have m:=kI (row x) (by have:=r.len;omega);rw[lK r]at m;have A:=r.len;have D:=aS x;have E:((ys.map row).map λt=>[ah t])=ys.map λy=>[ah (row y)]:=by rw[List.map_map];rfl
 have L:=ak (λy=>[ah (row y)]) ys;have s:=sN 4 ys x;have n:=congrArg List.length s;rw[JK]at n;show VC _ _ [pI 4,.sl ((ys.map row).map λt=>[ah t]),_] _;rw[E];refine cA 57 [.tmp 6,.tmp 7] τok func58 ?_;refine aj τok<|vn ?_;refine cV 8 1000 42 3 rfl rfl<|az τok (σ:=Nat×List Nd) [(0,_),(1,_),(2,_),(6,_),(7,_)] [] (λq=>[(8,.c (.row 1000)),(9,vI q.1)]) (λq=>[(1000,.rw 42 3 (q.2.map ndP))]) (λq=>q.1<=ys.length/\q.2.length<=10000/\(q.2=dF 4 (ys.take q.1) \/4096<q.2.length/\4096<(dF 4 ys).length)) (λq=>ys.length-q.1) (0,[]) ⟨KV _,Od,.inl (by simp[dF])⟩ ?_;rintro⟨i,l⟩ ⟨F,u,o⟩;simp only at F u o;have H:=ak ndP l;refine aj τok<|ae (λg=>?_) (λg=>?_)
 ·obtain⟨y,a,M⟩:=ay (l:=ys) (k:=i)
  have v:=z y (JQ a);have I:=v.len;have p:=kI (row y) Oo;rw[lK v]at p;obtain⟨K,N⟩:=preB_take a;refine vm i a ?_;refine af p ?_;refine vn ?_;refine ae (λj=>?_) (λj=>?_)
  ·refine aV ?_
   refine vm i a ?_;refine va ?_ (fN _);refine vk ?_;refine vi ?_;have b:l=dF 4 (ys.take i):=o.resolve_right λq=>by have:=q.1;simp only at j;omega
   exact au (i+1,l++⟨4,0,0⟩::row y) ⟨OS,by simp only[JK,JV];simp only at j;omega,.inl (by rw[K,b])⟩ (sw 1000 44) (y':=⟨congrArg (λl=>some (SE.rw _ _ l)) (by simp[cQ];rfl),trivial⟩)
  ·refine vi ?_
   refine au (i+1,l) ⟨OS,u,.inr ?_⟩;simp only at j;rcases o with h|h
   ·have:=congrArg List.length h
    exact⟨OS,Oo⟩
   ·exact h
 ·refine af m ?_
  refine vn ?_;refine va ?_ (fN _);refine ae (λj=>?_) (λj=>?_)<;>simp only[JK,H,ak ndP (row x)]at j
  ·exact⟨_,_,rfl,rfl,by
    unfold be;rw[if_pos]
    ·rfl
    ·rcases o with h|h
     ·rw[JG Oo]at h
      rw[h]at j;omega
     ·omega⟩
  ·have b:l=dF 4 ys:=by
    rcases o with h|h
    ·rwa [JG Oo]at h
    ·have:=h.1;omega
   exact⟨_,_,rfl,rfl,by
    unfold be;rw[if_neg (by rw[n,<- b];omega),b];show _=PV.tup [ah (row (dS 4 ys x)),pI 0];rw[s];exact congrArg (λl=>PV.tup [.sl l,pI 0]) (by rw[List.map_append])⟩
theorem lN{B:aq}{a:Int}(b:0<=a)(h:a<B.ents.length:=by omega):B.ents[a.toNat]?=some (aP B a):=by
 unfold aP;rw[List.getD_eq_getElem?_getD,gE]
 rfl
theorem qP{B:aq}{known:Nat}(hk:known<=B.ents.length)(e:Int):VC prog 40 [aW B,pI e,pI known] (.bool (bI B known e)):=by
 have l:=ak aQ B.ents;have b:∀{p:Prop},¬ (0<=e/\e<known/\(aP B e).kind=1) ->PV.bool false= .bool (bI B known e):=λh=>by
  cases j:bI B known e with
  |false=>rfl
  |true=>exact absurd (by simpa[bI]using j) h
 refine vf 30 [.tmp 6] τok func40 ?_;refine ae (λa=>?_) (λa=>?_)
 ·refine ae (λc=>?_) (λc=>?_)
  ·refine vy ?_
   refine vm e.toNat (lN a) ?_;refine ae (λi=>?_) (λi=>?_)
   ·exact⟨_,_,rfl,rfl,by rw[show bI B known e=true by simp only[bI,Bool.and_eq_true,decide_eq_true_eq];exact⟨a,c,i⟩];rfl⟩
   ·exact⟨_,_,rfl,rfl,b (p:=True) λq=>i q.2.2⟩
  ·exact⟨_,_,rfl,rfl,b (p:=True) λq=>c q.2.1⟩
 ·exact⟨_,_,rfl,rfl,b (p:=True) λq=>a q.1⟩
section
variable{B:aq}{known:Nat}{self:Int}
def kJ(B:aq)(known:Nat)(self:Int)(x:Tr):Bool:=(row x).all (aT B known self)
theorem JA{x:Tr}(j:Ok .tm x):∀f∈funsT x,f.op=13:=λf b=>by
 obtain⟨n,c⟩:=x
 by_cases a:n.op=12
 ·have e:funsT (.mk n c)=c.map (·.n):=if_pos a
  rw[e]at b;obtain⟨y,l,rfl⟩:=List.mem_map.1 b;obtain⟨g,m,o,rfl,i,_⟩:=(ya j a y l).fn;exact i
 ·have e:funsT (.mk n c)=[]:=if_neg a
  rw[e]at b;cases b
theorem JC{x:Tr}(i:Ok .tm x):∀f∈atmsT x,f.op=3:=λf a=>by
 obtain⟨n,b⟩:=x
 by_cases c:n.op=2
 ·have e:atmsT (.mk n b)=b.map (·.n):=if_pos c
  rw[e]at a;obtain⟨y,j,rfl⟩:=List.mem_map.1 a;obtain⟨m,rfl,l⟩:=tj i c y j;exact l
 ·have e:atmsT (.mk n b)=[]:=if_neg c
  rw[e]at a;cases a
theorem DR{op:Int}{F:List Nd}(b:∀f∈F,aT B known self f=true):∀(K:List Tr) (i:Nat),(cd op F i K).all (aT B known self)=K.all (kJ B known self)
 |[],i=>rfl
 |y::r,i=>by
  simp only[cd,List.all_append,List.all_cons,DR b r (i+1)];have:(if op=12/\i%2=0 then (F[i/2]?).toList else []).all (aT B known self)=true:=by
   split
   ·rw[List.all_eq_true]
    intro f a;cases h:F[i/2]? with
    |none=>rw[h]at a;cases a
    |some g=>
     rw[h]at a;obtain rfl:f=g:=by simpa using a
     exact b f (JQ h)
   ·rfl
  rw[this,Bool.true_and]
  rfl
theorem JE{x:Tr}(a:Ok .tm x):kJ B known self x=(aT B known self x.n && ((atmsT x).all (aT B known self) && (kidsT x).all (kJ B known self))):=by
 have b:=iA a;have c:∀f∈funsT x,aT B known self f=true:=λf i=>by simp[aT,JA a f i]
 unfold kJ;rw[b,List.all_cons,List.all_append,DR c]
 rfl
theorem JI(hk:known<=B.ents.length)(N:Nat)(hN:N<=1000000):∀x:Tr,Wf x ->(row x).length<=N ->VC prog 101 [aW B,pI known,pI self,bB x] (.bool (kJ B known self x)):=by
 induction N with
 |zero=>
  intro x _ h;have:=aS x;omega
 |succ N V=>
  intro x t hl;have W:=gA t.ok;have eK:=ak trP (kidsT x);have eA:=ak ndP (atmsT x);have eE:=ak aQ B.ents;have I:aw x.n=true/\x.n.op≠3/\x.n.op≠13:=by
   obtain⟨n,ks⟩:=x;exact t.ok.tm
  obtain⟨I,X,Y⟩:=I;have u:=db I;have Z:(atmsT x).length<=4096:=by
   have h1:=congrArg List.length (iA t.ok);rw[JV,JK]at h1;have:=t.len;omega
  rw[JE t.ok];have q:aT B known self x.n=false ->PV.bool false= .bool (aT B known self x.n && ((atmsT x).all (aT B known self) && (kidsT x).all (kJ B known self))):=λh=>by rw[h];rfl
  have K:x.n.op=8 ->aT B known self x.n=(decide (0<=x.n.a) && (decide (x.n.a<known) && decide ((aP B x.n.a).kind=2))):=λh=>by simp[aT,h]
  have L:x.n.op=9 ->aT B known self x.n=(decide (x.n.a=self)||bI B known x.n.a):=λh=>by simp[aT,h]
  have D:x.n.op=11 ->aT B known self x.n=bI B known x.n.a:=λh=>by simp[aT,h]
  have v:x.n.op=10 ->aT B known self x.n=(bI B known x.n.a && decide (x.n.b<(aP B x.n.a).ctors.length)):=λh=>by simp[aT,h]
  have nn:x.n.op≠8 ->x.n.op≠9 ->x.n.op≠10 ->x.n.op≠11 ->aT B known self x.n=true:=λa b c d=>by simp[aT,a,b,c,d,X]
  have r:=qP hk x.n.a;refine cA 126 [.tmp 8] τok func101 ?_;refine aC τok<|aC τok<|dB τok (σ:=Unit) [(1,_),(2,_),(4,_),(7,_),(9,_)] [(4,_),(7,_),(9,_)] (λ_=>[]) (λ_=>[]) (λ_=>x.n.op=8 ->aT B known self x.n=true) ?_ ?_
  ·refine ae (λo=>?_) (λo=>?_)
   ·refine ae (λp=>?_) (λp=>?_)
    ·refine vy ?_
     refine vm x.n.a.toNat (lN u.2.2.1) ?_;refine ae (λs=>?_) (λs=>?_)
     ·exact au () λh=>by rw[K h];simp only[Bool.and_eq_true,decide_eq_true_eq];exact⟨u.2.2.1,p,s⟩
     ·exact⟨_,_,rfl,rfl,q (by rw[K o];simp[s])⟩
    ·exact⟨_,_,rfl,rfl,q (by rw[K o];simp[p])⟩
   ·exact au () λh=>absurd h o
  rintro _ m1;refine dB τok (σ:=Unit) [(1,_),(2,_),(4,_),(7,_),(9,_)] [(4,_),(7,_),(9,_)] (λ_=>[]) (λ_=>[]) (λ_=>(x.n.op=9 ->aT B known self x.n=true)/\(x.n.op=10 \/x.n.op=11 ->bI B known x.n.a=true)) ?_ ?_
  ·refine ae (λo=>?_) (λo=>?_)
   ·refine bH r (λf=>?_) (λf=>?_)
    ·refine vn ?_
     exact au () ⟨λh=>Oo,λ_=>f⟩
    ·exact⟨_,_,rfl,rfl,q (by rw[v o,f];rfl)⟩
   ·refine ae (λp=>?_) (λp=>?_)
    ·refine bH r (λf=>?_) (λf=>?_)
     ·refine vn ?_
      exact au () ⟨λh=>Oo,λ_=>f⟩
     ·exact⟨_,_,rfl,rfl,q (by rw[D p,f])⟩
    ·refine ae (λs=>?_) (λs=>?_)
     ·refine ae (λQ=>?_) (λQ=>?_)
      ·refine bH r (λf=>?_) (λf=>?_)
       ·exact au () ⟨λh=>by rw[L h,f,Bool.or_true],λh=>Oo⟩
       ·exact⟨_,_,rfl,rfl,q (by rw[L s,f,decide_eq_false Q];rfl)⟩
      ·exact au () ⟨λh=>by rw[L h,decide_eq_true Oo];rfl,λh=>Oo⟩
     ·exact au () ⟨λh=>absurd h s,λh=>Oo⟩
  rintro _ ⟨m2,R⟩;refine dB τok (σ:=Unit) [(1,_),(2,_),(4,_),(7,_)] [(4,_),(7,_)] (λ_=>[]) (λ_=>[]) (λ_=>aT B known self x.n=true) ?_ ?_
  ·refine ae (λo=>?_) (λo=>?_)
   ·have f:=R (.inl o)
    have ff:(0<=x.n.a/\x.n.a<known/\(aP B x.n.a).kind=1):=by simpa[bI]using f
    refine vm x.n.a.toNat (lN u.2.2.1) ?_;refine ae (λp=>?_) (λp=>?_)
    ·refine vk ?_
     exact⟨_,_,rfl,rfl,q (by rw[v o,f,decide_eq_false (by rw[List.length_map]at p;omega)];rfl)⟩
    ·refine vk ?_
     exact au () (by show aT B known self x.n=true;rw[v o,f,decide_eq_true (by rw[List.length_map]at p;omega)];rfl)
   ·refine vk ?_
    refine au () ?_;show aT B known self x.n=true
    by_cases S:x.n.op=8
    ·exact m1 S
    ·by_cases T:x.n.op=9
     ·exact m2 T
     ·by_cases A:x.n.op=11
      ·rw[D A];exact R (.inr A)
      ·exact nn S T o A
  rintro _ hn;rw[hn,Bool.true_and];refine aj τok<|az τok (σ:=Nat) [(1,_),(2,_),(4,_),(7,_)] [(4,_),(7,_)] (λi=>[(10,vI i)]) (λ_=>[]) (λi=>i<=(atmsT x).length/\∀m∈(atmsT x).take i,aT B known self m=true) (λi=>(atmsT x).length-i) 0 ⟨KV _,Od⟩ ?_;rintro i ⟨o,p⟩;refine aj τok<|ae (λg=>?_) (λg=>?_)
  ·obtain⟨m,M,hd⟩:=ay (l:=atmsT x) (k:=i)
   have E:=JQ M;have U:aT B known self m=decide (m.a<=B.vars):=by simp[aT,JC t.ok m E]
   refine vm i M ?_;refine ae (λs=>?_) (λs=>?_)
   ·refine vk ?_
    exact⟨_,_,rfl,rfl,by
     have:(atmsT x).all (aT B known self)=false:=by
      rw[List.all_eq_false];exact⟨m,E,by rw[U,decide_eq_false Oo];decide⟩
     rw[this]
     rfl⟩
   ·refine vk ?_
    refine vi ?_;refine au (i+1) ⟨Oo,λz F=>?_⟩;rw[List.take_add_one,M,Option.toList]at F;rcases List.mem_append.1 F with h|h
    ·exact p z h
    ·obtain rfl:=List.mem_singleton.1 h
     rw[U,decide_eq_true Oo]
  ·rw[JG Oo]at p
   have hA:(atmsT x).all (aT B known self)=true:=List.all_eq_true.2 p;rw[hA,Bool.true_and];refine az τok (σ:=Nat) [(1,_),(2,_),(4,_),(7,_)] [(4,_),(7,_)] (λi=>[(11,vI i)]) (λ_=>[]) (λi=>i<=(kidsT x).length/\∀m∈(kidsT x).take i,kJ B known self m=true) (λi=>(kidsT x).length-i) 0 ⟨KV _,Od⟩ ?_;rintro j ⟨k1,O⟩;refine aj τok<|ae (λk=>?_) (λk=>?_)
   ·obtain⟨y,H,hd⟩:=ay (l:=kidsT x) (k:=j)
    have P:=JQ H;have a0:=hH t.ok H;refine vt j H ?_;refine bH (V Oo y (t.kid H) Oo) (λf=>?_) (λf=>?_)
    ·refine vk ?_
     refine vi ?_;refine au (j+1) ⟨Oo,λz F=>?_⟩;rw[List.take_add_one,H,Option.toList]at F;rcases List.mem_append.1 F with h|h
     ·exact O z h
     ·obtain rfl:=List.mem_singleton.1 h
      exact f
    ·refine vk ?_
     exact⟨_,_,rfl,rfl,by
      have:(kidsT x).all (kJ B known self)=false:=by
       rw[List.all_eq_false];exact⟨y,P,by rw[f];decide⟩
      rw[this]
      rfl⟩
   ·rw[JG Oo]at O
    exact⟨_,_,rfl,rfl,by rw[List.all_eq_true.2 O];rfl⟩
theorem o5(hk:known<=B.ents.length)(t:List Nd)(i:t.length<=1000000)(below:Int):VC prog 48 [aW B,pI known,pI self,pI below,ah t] (pI (cw B known self t below)):=by
 have j:=kI t i;refine vf 36 [.tmp 10] τok func48 ?_;refine af j ?_
 by_cases a:eg t=0
 ·obtain⟨x,c,rfl⟩:=tk a
  have l:cw B known self (row x) below=if jI x below=false then 8 else if (row x).any (λm=>!aT B known self m)=true then 8 else 0:=by
   unfold cw;rw[if_neg (by rw[a];decide),gW c.ok]
  have n:(row x).any (λm=>!aT B known self m)= !kJ B known self x:=by
   unfold kJ;rw[<- List.not_all_eq_any_not]
  rw[l,n];refine vn ?_ (by rw[a];decide);refine af (iH c) ?_;refine bH (Ju c below) (λb=>?_) (λb=>?_)
  ·refine bH (JI hk 4096 Oo x c c.len) (λf=>?_) (λf=>?_)
   ·exact⟨_,_,rfl,rfl,by rw[b,f];rfl⟩
   ·exact⟨_,_,rfl,rfl,by rw[b,f];rfl⟩
  ·exact⟨_,_,rfl,rfl,by rw[b];rfl⟩
 ·refine vy ?_ a
  exact⟨_,_,rfl,rfl,by unfold cw;rw[if_pos a];rfl⟩
theorem yi{step:Int}:∀(ls:List (List Nd)) (b:Int) (i:Nat) (t:List Nd),ls[i]?=some t ->bQ B known self step (ls.drop i) b=if cw B known self t b≠0 then cw B known self t b else bQ B known self step (ls.drop (i+1)) (b+step)
 |l::r,b,0,t,h=>by
  obtain rfl:=JB h
  rfl
 |l::r,b,i+1,t,h=>yi r b i t h
theorem yj(hk:known<=B.ents.length){ls:List (List Nd)}(hl:ls.length<=1000000/\∀t∈ls,t.length<=1000000){below:Int}(hb:-1000000000<=below/\below<=1000000000):VC prog 132 [aW B,pI known,pI self,pI below,bw ls] (pI (bQ B known self 1 ls below)):=by
 have j:=ak (λt=>[ah t]) ls;refine vf 33 [.tmp 10] τok func132 ?_;refine az τok (σ:=Nat) [(1,_),(2,_),(3,_),(4,_),(5,_),(10,_)] [(5,_)] (λi=>[(11,vI i)]) (λ_=>[]) (λi=>i<=ls.length/\bQ B known self 1 ls below=bQ B known self 1 (ls.drop i) (below+i)) (λi=>ls.length-i) 0 ⟨KV _,Od⟩ ?_;rintro i ⟨m,a⟩;refine aj τok<|ae (λg=>?_) (λg=>?_)
 ·obtain⟨t,b,n⟩:=ay (l:=ls) (k:=i)
  rw[yi ls _ i t b]at a;refine vi ?_;refine vm i b ?_;refine af (o5 hk t (hl.2 t (JQ b)) _) ?_;refine vk ?_;refine ae (λc=>?_) (λc=>?_)
  ·rw[if_pos c]at a
   exact⟨_,_,rfl,rfl,by rw[a];rfl⟩
  ·rw[if_neg c]at a
   refine vi ?_;exact au (i+1) ⟨Oo,by rw[a,show below+(i:Int)+1=below+((i+1:Nat):Int) by omega]⟩
 ·rw[JY Oo]at a
  exact⟨_,_,rfl,rfl,by rw[a];rfl⟩
end
def o6(p:Nd)(a:AV):Prop:=∀C ρ v,RA C ρ a v ->v=jd p
theorem DS(p:Nd):o6 p (.c (.p (.agg (ndP p)))):=λC ρ v h=>by
 have h:RV C (.agg (ndP p)) v:=h;cases h with
 |agg o us j i=>
  match us,j with
  |[a,b,c],_=>
   have l:=i 0 _ _ rfl rfl;have m:=i 1 _ _ rfl rfl;have n:=i 2 _ _ rfl rfl;cases l;cases m;cases n
   rfl
theorem DT(o a b:Int):o6 ⟨o,a,b⟩ (.agg [.p (pI o),.p (pI a),.p (pI b)]):=λC ρ v h=>by
 obtain⟨us,rfl,j,i⟩:=h
 match us,j with
 |[a,b,c],_=>
  have l:RV C (pI _) _:=i 0 _ _ rfl rfl;have m:RV C (pI _) _:=i 1 _ _ rfl rfl;have n:RV C (pI _) _:=i 2 _ _ rfl rfl;cases l;cases m;cases n
  rfl
theorem yk{x y:Operand}{p q:Nd}{a b:AV}{k:PV ->Prop}(ha:o6 p a)(hb:o6 q b)(hk:k (.bool (!decide (p=q)))):mc prog .neq 42 x y a b k:=by
 refine⟨_,λC ρ va j w c i=>?_,hk⟩;obtain rfl:=ha _ _ _ c;obtain rfl:=hb _ _ _ i;exact⟨_,.bool _,CY x y p q w⟩
theorem yl{x y:Operand}{p q:Nd}{a b:AV}{k:PV ->Prop}(ha:o6 p a)(hb:o6 q b)(hk:k (.bool (decide (p=q)))):mc prog .eql 42 x y a b k:=by
 refine⟨_,λC ρ va j w c i=>?_,hk⟩;obtain rfl:=ha _ _ _ c;obtain rfl:=hb _ _ _ i;exact⟨_,.bool _,CZ _ _ p q w⟩
theorem JL{B:aq}(U:dc B)(a:Int):VC prog 130 [aW B,pI a] (.bool (lI B a)):=by
 have eE:=ak aQ B.ents;generalize b:lI B a=q;unfold lI at b;refine vf 104 [.tmp 4] τok func130 ?_;refine ae (λS=>?_) (λS=>?_)
 ·rw[if_pos (.inl S)]at b
  exact⟨_,_,rfl,rfl,congrArg PV.bool b⟩
 refine ae (λs=>?_) (λs=>?_)
 ·have s:((B.ents.map aQ).length:Int)<=a:=s
  rw[if_pos (.inr (.inl Oo))]at b;exact⟨_,_,rfl,rfl,congrArg PV.bool b⟩
 have s:¬ ((B.ents.map aQ).length:Int)<=a:=s;obtain⟨n,rfl⟩:∃n:Nat,a=(n:Int):=⟨a.toNat,Oo⟩
 obtain⟨x,M,_⟩:=ay (l:=B.ents) (k:=n);rw[qw M]at b;have hX:=U.x x (JQ M);have V:=hX.p.1;have W:=hX.i.1;have l1:=ak ndP x.sort;have l2:=ak (λt=>[ah t]) x.params;have l3:=ak (λt=>[ah t]) x.indices;have l4:=ak aZ x.ctors;refine vm (p:=aQ) n M ?_;refine ae (λi=>?_) (λi=>?_)
 ·have i:x.kind≠1:=i
  rw[if_pos (.inr (.inr i))]at b;exact⟨_,_,rfl,rfl,congrArg PV.bool b⟩
 have i:¬ x.kind≠1:=i;rw[if_neg Oo]at b;refine vm (p:=aQ) n M ?_;have u:∀{P:Prop} [Decidable P] {r:Bool},P ->(if P then false else r)=q ->gz' [PV.nz (.bool false)]= .bool q:=λh e=>by rw[if_pos h]at e;rw[<- e];rfl
 refine ae (λv=>?_) (λv=>?_)
 ·have v:((x.sort.map ndP).length:Int)≠2:=v
  exact⟨_,_,rfl,rfl,u (.inl Oo) b⟩
 have v:¬ ((x.sort.map ndP).length:Int)≠2:=v;obtain⟨Q,y,_⟩:=ay (l:=x.sort) (k:=0);obtain⟨R,z,_⟩:=ay (l:=x.sort) (k:=1);have X:x.sort.getD 0 ⟨0,0,0⟩=Q:=by rw[List.getD_eq_getElem?_getD,y];rfl
 have Y:x.sort.getD 1 ⟨0,0,0⟩=R:=by rw[List.getD_eq_getElem?_getD,z];rfl
 rw[X,Y]at b;refine vm (p:=ndP) 0 y ?_;refine ae (λj=>?_) (λj=>?_)
 ·have j:Q.a≠1:=j
  exact⟨_,_,rfl,rfl,u (.inr (.inl j)) b⟩
 have j:¬ Q.a≠1:=j;refine vm (p:=ndP) 1 z ?_;refine yk (DS R) (DT 3 0 0) ?_
 by_cases N:R=⟨3,0,0⟩
 rotate_left
 ·rw[decide_eq_false N]
  exact⟨_,_,rfl,rfl,u (.inr (.inr (.inl N))) b⟩
 rw[decide_eq_true N];refine vi ?_;refine ae (λA=>?_) (λA=>?_)
 ·have A:(0:Int)<((x.params.map λt=>[ah t]).length:Int)+((x.indices.map λt=>[ah t]).length:Int):=A
  exact⟨_,_,rfl,rfl,u (.inr (.inr (.inr (.inl Oo)))) b⟩
 have A:¬ (0:Int)<((x.params.map λt=>[ah t]).length:Int)+((x.indices.map λt=>[ah t]).length:Int):=A;refine ae (λD=>?_) (λD=>?_)
 ·have D:((x.ctors.map aZ).length:Int)≠2:=D
  exact⟨_,_,rfl,rfl,u (.inr (.inr (.inr (.inr Oo)))) b⟩
 have D:¬ ((x.ctors.map aZ).length:Int)≠2:=D;rw[if_neg (by rintro(h|h|h|h|h)<;>first|omega|exact h N)]at b;obtain⟨O,E,_⟩:=ay (l:=x.ctors) (k:=0);obtain⟨m,F,_⟩:=ay (l:=x.ctors) (k:=1);have Z:x.ctors.getD 0 default=O:=by rw[List.getD_eq_getElem?_getD,E];rfl
 have e3:x.ctors.getD 1 default=m:=by rw[List.getD_eq_getElem?_getD,F];rfl
 rw[Z,e3]at b;have l5:=ak rP O.args;have l6:=ak rP m.args;refine vm (p:=aZ) 0 E ?_;refine vm (p:=aZ) 1 F ?_;refine vk ?_;refine ae (λH=>?_) (λH=>?_);rotate_left
 ·have H:¬ ((O.args.map rP).length:Int)=0:=H
  rw[decide_eq_false Oo]at b;exact⟨_,_,rfl,rfl,congrArg PV.bool b⟩
 have H:((O.args.map rP).length:Int)=0:=H;rw[decide_eq_true Oo,Bool.true_and]at b;refine ae (λI=>?_) (λI=>?_);rotate_left
 ·have I:¬ ((m.args.map rP).length:Int)=1:=I
  rw[decide_eq_false Oo]at b;exact⟨_,_,rfl,rfl,congrArg PV.bool b⟩
 have I:((m.args.map rP).length:Int)=1:=I;rw[decide_eq_true Oo,Bool.true_and]at b;obtain⟨o,c,_⟩:=ay (l:=m.args) (k:=0);have e4:m.args.getD 0 []=o:=by rw[List.getD_eq_getElem?_getD,c];rfl
 rw[e4]at b;have l7:=ak ndP o;refine vm (p:=rP) 0 c ?_;refine ae (λK=>?_) (λK=>?_);rotate_left
 ·have K:¬ ((o.map ndP).length:Int)=1:=K
  rw[decide_eq_false Oo]at b;exact⟨_,_,rfl,rfl,congrArg PV.bool b⟩
 have K:((o.map ndP).length:Int)=1:=K;rw[decide_eq_true Oo,Bool.true_and]at b;obtain⟨T,L,_⟩:=ay (l:=o) (k:=0);have e5:o.getD 0 ⟨0,0,0⟩=T:=by rw[List.getD_eq_getElem?_getD,L];rfl
 rw[e5]at b;refine vm (p:=rP) 0 c ?_;refine vm (p:=ndP) 0 L ?_;exact yl (DS T) (DT 9 n 0)<|⟨_,_,rfl,rfl,congrArg PV.bool b⟩
def OnG(g:G):Prop:=∀x y v,g x y=some v ->v=1
theorem OnG.bd{g:G}(h:OnG g)(x y:Int):0<=(g x y).getD 0/\(g x y).getD 0<=1:=by
 cases a:g x y with
 |none=>simp
 |some v=>have:=h x y v a;simp[this]
theorem OnG.put{g:G}(h:OnG g)(x y:Int):OnG (putG g x y 1):=λa b v c=>by
 unfold putG at c;split at c
 ·exact(JB c).symm
 ·exact h a b v c
theorem JM{B:aq}(t:dc B):VC prog 76 [aW B] (.bool (gJ B)):=by
 have K:=ak prP B.prims;have L:=ak aQ B.ents;have z:=t.p;generalize a:gJ B=j;unfold gJ at a;have m:∀{P:Prop} [Decidable P] {r:Bool},P ->(if P then false else r)=j ->gz' [PV.nz (.bool false)]= .bool j:=λh e=>by rw[if_pos h]at e;rw[<- e];rfl
 refine cA 89 [.tmp 2] τok func76 ?_;refine aC τok<|dB τok (σ:=Unit) [(1,_),(2,_)] [(1,_)] (λ_=>[]) (λ_=>[]) (λ_=>lJ B B.prims (λ_ _=>none)=j) ?_ ?_
 ·refine ae (λn=>?_) (λn=>?_)
  ·refine bH (JL t B.nat) (λf=>?_) (λf=>?_)
   ·refine vn ?_
    exact au () (by rwa [if_neg (by rintro(⟨_,h⟩|⟨h,_⟩);exact absurd (f.symm.trans h) OO;exact n h)]at a)
   ·exact⟨_,_,rfl,rfl,m (.inl ⟨n,f⟩) a⟩
  ·refine vy ?_
   refine ae (λA=>?_) (λA=>?_)
   ·exact⟨_,_,rfl,rfl,m (.inr ⟨Oo,Oo⟩) a⟩
   ·exact au () (by rwa [if_neg (by rintro(⟨h,_⟩|⟨_,h⟩);exact n h;omega)]at a)
 rintro _ a;refine aC τok<|pX (QG λ_ _=>none) ?_ qg0;refine aj τok<|az τok (σ:=Nat×G) [(1,_),(3,_),(31,_),(32,_)] [(1,_)] (λq=>[(33,vI q.1)]) (λq=>[(29,.ob 0 (QG q.2))]) (λq=>q.1<=B.prims.length/\OnG q.2/\lJ B (B.prims.drop q.1) q.2=j) (λq=>B.prims.length-q.1) (0,_) ⟨KV _,(λ_ _ _ h=>(by cases h):OnG λ_ _=>none),a⟩ ?_;rintro⟨i,g⟩ ⟨D,o,b⟩;simp only at D o b;refine aj τok<|ae (λc=>?_) (λc=>?_);rotate_left
 ·rw[JY Oo]at b
  exact⟨_,_,rfl,rfl,congrArg PV.bool b⟩
 obtain⟨p,E,F⟩:=ay (l:=B.prims) (k:=i);rw[F]at b;simp only[lJ]at b;refine vm (p:=prP) i E ?_;refine vk ?_;refine ae (λu=>?_) (λu=>?_)
 ·refine vk ?_
  exact⟨_,_,rfl,rfl,m (.inl u) b⟩
 refine ae (λH=>?_) (λH=>?_)
 ·refine vk ?_
  exact⟨_,_,rfl,rfl,m (.inr (.inl Oo)) b⟩
 refine vm (p:=aQ) p.1.toNat (lN Oo) ?_;refine ae (λv=>?_) (λv=>?_)
 ·refine vk ?_
  exact⟨_,_,rfl,rfl,m (.inr (.inr (.inl v))) b⟩
 refine ae (λy=>?_) (λy=>?_)
 ·refine vk ?_
  exact⟨_,_,rfl,rfl,m (.inr (.inr (.inr (.inl y)))) b⟩
 refine ae (λI=>?_) (λI=>?_)
 ·refine vk ?_
  exact⟨_,_,rfl,rfl,m (.inr (.inr (.inr (.inr (.inl Oo))))) b⟩
 refine ww m2p<|ww m2p ?_;have M:=o.bd p.1 (-1);have b2:=o.bd (-1) p.2;refine vi ?_;refine ae (λs=>?_) (λs=>?_)
 ·refine vk ?_
  exact⟨_,_,rfl,rfl,m (.inr (.inr (.inr (.inr (.inr s))))) b⟩
 have s:¬ (0:Int)<(g p.1 (-1)).getD 0+(g (-1) p.2).getD 0:=s;refine vk ?_;rw[if_neg Oo]at b;refine oz m2p<|oz m2p<|vk ?_;refine vi ?_;exact au (i+1,putG (putG g p.1 (-1) 1) (-1) p.2 1) ⟨by show i+1<=_;omega,(o.put _ _).put _ _,b⟩
abbrev o7(B:aq)(known self:Int):PV:=.agg (jM B++[pI known,pI self])
theorem cy{p q:Bool}(h:p=q):gz' [PV.nz (.bool p)]= .bool q:=by rw[h];rfl
theorem JN{x:Tr}(a:Wf x){n:Int}(b:I64 n):VC prog 134 [ah (row x),pI n] (.bool (jI x n)):=Ig a.ok a.len n
section
variable{B:aq}{known:Nat}{self:Int}(hk:known<=B.ents.length)
include hk
theorem JO{a:Int}(b:0<=a):VC prog 170 [o7 B known self,pI a] (.bool (bI B known a)):=by
 have i:=ak aQ B.ents;refine vf 19 [.tmp 4] τok func170 ?_;refine ae (λg=>?_) (λg=>?_)
 ·refine vm (p:=aQ) a.toNat (lN b) ?_
  refine ae (λc=>?_) (λc=>?_)
  all_goals exact⟨_,_,rfl,rfl,cy (by simp[bI,b,g,c])⟩
 ·exact⟨_,_,rfl,rfl,cy (by simp[bI,g])⟩
theorem JP{m:Nd}(hm:aw m=true):VC prog 135 [o7 B known self,oK m] (.bool (aT B known self m)):=by
 have s:=ak aQ B.ents;have b:=db hm;have i:=JO hk (self:=self) b.2.2.1;generalize a:aT B known self m=q;unfold aT at a;refine vf 72 [.tmp 4] τok func135 ?_;refine ae (λj=>?_) (λj=>?_)
 ·rw[if_pos j]at a
  refine ae (λg=>?_) (λg=>?_)
  all_goals exact⟨_,_,rfl,rfl,cy (by rw[<- a];simp[g])⟩
 rw[if_neg j]at a;refine ae (λl=>?_) (λl=>?_)
 ·rw[if_pos l]at a
  refine ae (λg=>?_) (λg=>?_)
  ·refine vm (p:=aQ) m.a.toNat (lN b.2.2.1) ?_
   refine ae (λc=>?_) (λc=>?_)
   all_goals exact⟨_,_,rfl,rfl,cy (by rw[<- a];simp[b.2.2.1,g,c])⟩
  ·exact⟨_,_,rfl,rfl,cy (by rw[<- a];simp[g])⟩
 rw[if_neg l]at a;refine ae (λc=>?_) (λc=>?_)
 ·rw[if_pos c]at a
  refine ae (λg=>?_) (λg=>?_)
  ·exact⟨_,_,rfl,rfl,cy (by rw[<- a];simp[g])⟩
  ·refine af i ?_
   exact⟨_,_,rfl,rfl,cy (by rw[<- a];simp[g])⟩
 rw[if_neg c]at a;refine ae (λn=>?_) (λn=>?_)
 ·rw[if_pos n]at a
  exact af i<|⟨_,_,rfl,rfl,cy a⟩
 rw[if_neg n]at a;refine ae (λo=>?_) (λo=>?_)
 ·rw[if_pos o]at a
  refine bH i (λf=>?_) (λf=>?_)
  ·have r:=f
   simp only[bI,Bool.and_eq_true,decide_eq_true_eq]at r;have eC:=ak aZ (aP B m.a).ctors;refine vm (p:=aQ) m.a.toNat (lN b.2.2.1) ?_;refine ae (λg=>?_) (λg=>?_)
   all_goals refine vk ?_
   all_goals exact⟨_,_,rfl,rfl,cy (by rw[<- a,f];rw[eC]at g;simp[g])⟩
  ·refine vk ?_
   exact⟨_,_,rfl,rfl,cy (by rw[<- a,f];rfl)⟩
 rw[if_neg o]at a;exact⟨_,_,rfl,rfl,cy a⟩
theorem ym{l:List Nd}(hl:l.length<=1000000000){below:Int}(hb:I64 below):VC prog 81 [o7 B known self,ah l,pI below] (pI (cw B known self l below)):=by
 have q:=ak ndP l;generalize a:cw B known self l below=c;unfold cw at a;refine vf 30 [.tmp 6] τok func81 ?_;refine af (jQ l hl) ?_;refine ae (λg=>?_) (λg=>?_)
 ·rw[if_pos g]at a
  exact⟨_,_,rfl,rfl,congrArg (PV.int .i64) a⟩
 rw[if_neg g]at a;obtain⟨x,j,rfl⟩:=tk (Decidable.of_not_not g);rw[gW j.ok]at a;refine bH (JN j hb) (λf=>?_) (λf=>?_);rotate_left
 ·rw[if_pos f]at a
  exact⟨_,_,rfl,rfl,congrArg (PV.int .i64) a⟩
 rw[if_neg (by rw[f];decide)]at a;refine az τok (σ:=Nat) [(3,_),(19,_),(20,_)] [(3,_)] (λi=>[(21,vI i)]) (λ_=>[]) (λi=>i<=(row x).length/\(if ((row x).drop i).any (λm=>!aT B known self m)=true then (8:Int)else 0)=c) (λi=>(row x).length-i) 0 ⟨KV _,a⟩ ?_
 clear a
 rintro i ⟨r,b⟩;refine aj τok<|ae (λo=>?_) (λo=>?_);rotate_left
 ·rw[JY Oo]at b
  exact⟨_,_,rfl,rfl,congrArg (PV.int .i64) b⟩
 obtain⟨m,n,p⟩:=ay (l:=row x) (k:=i);rw[p,List.any_cons]at b;refine vm i n ?_;refine bH (JP hk (fr' x .tm j.ok.1 m (JQ n))) (λf=>?_) (λf=>?_);rotate_left
 ·rw[if_pos (by rw[f];rfl)]at b
  exact⟨_,_,rfl,rfl,congrArg (PV.int .i64) b⟩
 rw[f,Bool.not_true,Bool.false_or]at b;refine vi ?_;exact au (i+1) ⟨by show i+1<=_;omega,b⟩
theorem qQ{ls:List (List Nd)}(hl:ko ls){below step:Int}(hb:0<=below/\below<=1000000000)(v:0<=step/\step<=1):VC prog 126 [o7 B known self,bw ls,pI below,pI step] (pI (bQ B known self step ls below)):=by
 have y:=ak (λt=>[ah t]) ls;have o:=hl.1;generalize b:bQ B known self step ls below=c;refine vf 29 [.tmp 8] τok func126 ?_;refine az τok (σ:=Nat×Int) [(3,_),(4,_),(12,_),(13,_)] [(4,_)] (λq=>[(2,vI q.2),(14,vI q.1)]) (λ_=>[]) (λq=>q.1<=ls.length/\below<=q.2/\q.2<=below+q.1/\bQ B known self step (ls.drop q.1) q.2=c) (λq=>ls.length-q.1) (0,below) ⟨KV _,Int.le_refl _,Od,b⟩ ?_
 clear b
 rintro⟨i,x⟩ ⟨r,j,m,a⟩;simp only at r j m a;refine aj τok<|ae (λs=>?_) (λs=>?_);rotate_left
 ·rw[JY Oo]at a
  exact⟨_,_,rfl,rfl,congrArg (PV.int .i64) a⟩
 obtain⟨l,n,u⟩:=ay (l:=ls) (k:=i);rw[u]at a;simp only[bQ]at a;have z:=hl.2 l (JQ n);refine vm (p:=λt=>[ah t]) i n ?_;refine af (ym hk (l:=l) Oo (below:=x) ⟨Oo,Oo⟩) ?_;refine ae (λg=>?_) (λg=>?_)
 ·rw[if_pos g]at a
  exact⟨_,_,rfl,rfl,congrArg (PV.int .i64) a⟩
 rw[if_neg g]at a;refine vi ?_;refine vi ?_;exact au (i+1,x+step) ⟨by show i+1<=_;omega,OS,OS,a⟩
theorem JR{x:bX}(hX:oI x)(H:x.params.length<=16):VC prog 129 [o7 B known self,.agg (aQ x)] (pI (fS B known x x.ctors)):=by
 have s:=ak (λt=>[ah t]) x.params;have I:=ak (λt=>[ah t]) x.indices;have K:=ak aZ x.ctors;have u:=hX.c;generalize b:fS B known x x.ctors=n;refine vf 55 [.tmp 4] τok func129 ?_;refine az τok (σ:=Nat) [(2,_),(3,_),(13,_),(14,_)] [(2,_),(3,_)] (λi=>[(15,vI i)]) (λ_=>[]) (λi=>i<=x.ctors.length/\fS B known x (x.ctors.drop i)=n) (λi=>x.ctors.length-i) 0 ⟨KV _,b⟩ ?_
 clear b
 rintro i ⟨L,a⟩;refine aj τok<|ae (λv=>?_) (λv=>?_);rotate_left
 ·rw[JY Oo]at a
  exact⟨_,_,rfl,rfl,congrArg (PV.int .i64) a⟩
 obtain⟨c,r,y⟩:=ay (l:=x.ctors) (k:=i);rw[y]at a;simp only[fS]at a;obtain⟨z,A⟩:=hX.a c (JQ r);have D:=ak (λt=>[ah t]) c.args;have M:=ak (λt=>[ah t]) c.out;refine vm (p:=aZ) i r ?_;refine ae (λj=>?_) (λj=>?_)
 ·have j:((c.args.map λt=>[ah t]).length:Int)>16:=j
  rw[if_pos Oo]at a;exact⟨_,_,rfl,rfl,congrArg (PV.int .i64) a⟩
 have j:¬ ((c.args.map λt=>[ah t]).length:Int)>16:=j;rw[if_neg Oo]at a;refine ae (λm=>?_) (λm=>?_)
 ·have m:((c.out.map λt=>[ah t]).length:Int)≠((x.indices.map λt=>[ah t]).length:Int):=m
  rw[if_pos Oo]at a;exact⟨_,_,rfl,rfl,congrArg (PV.int .i64) a⟩
 have m:¬ ((c.out.map λt=>[ah t]).length:Int)≠((x.indices.map λt=>[ah t]).length:Int):=m;rw[if_neg Oo]at a;have E:=qQ hk (self:=known) z (below:=((x.params.map λt=>[ah t]).length:Int)) (step:=1) ⟨Oo,Oo⟩ ⟨OO,OO⟩;have F:=qQ hk (self:=known) A (below:=((x.params.map λt=>[ah t]).length:Int)+((c.args.map λt=>[ah t]).length:Int)) (step:=0) ⟨Oo,Oo⟩ ⟨OO,OO⟩;refine af E ?_;rw[<- s,<- D]at a;refine ae (λo=>?_) (λo=>?_)
 ·rw[if_pos o]at a
  exact⟨_,_,rfl,rfl,congrArg (PV.int .i64) a⟩
 rw[if_neg o]at a;refine vi ?_;refine af F ?_;refine ae (λq=>?_) (λq=>?_)
 ·rw[if_pos q]at a
  exact⟨_,_,rfl,rfl,congrArg (PV.int .i64) a⟩
 rw[if_neg q]at a;refine vi ?_;exact au (i+1) ⟨by show i+1<=_;omega,a⟩
end
theorem JS{l:List Nd}(b:0<l.length):VC prog 124 [ah l] (pI (gI l)):=by
 obtain⟨m,a,_⟩:=ay (l:=l) (k:=0) b;unfold gI;rw[List.getD_eq_getElem?_getD,a];refine vf 8 [.tmp 2] τok func124 ?_;refine vm 0 a ?_;refine ae (λg=>?_) (λg=>?_)
 ·exact⟨_,_,rfl,rfl,by rw[show ((some m).getD ⟨0,0,0⟩)=m from rfl,if_pos g];rfl⟩
 ·exact⟨_,_,rfl,rfl,by rw[show ((some m).getD ⟨0,0,0⟩)=m from rfl,if_neg g];rfl⟩
theorem lO(a b c:Int):bh (bh a b) c=bh a (bh b c):=by
 unfold bh
 by_cases h:a≠0
 ·rw[if_pos h,if_pos h,if_pos h]
 ·rw[if_neg h,if_neg h]
theorem kK{a b:Int}(h:a≠0):bh a b=a:=if_pos h
theorem jo{a b:Int}(h:¬ a≠0):bh a b=b:=if_neg h
theorem JT{B:aq}{known:Nat}{self:Int}:∀(ls:List (List Nd)) (b:Int) (i:Nat) (t:List Nd),ls[i]?=some t ->bQ B known self 0 (ls.drop i) b=bh (cw B known self t b) (bQ B known self 0 (ls.drop (i+1)) b):=λls b i t h=>by
 rw[yi ls b i t h,Int.add_zero]
 rfl
theorem J0{B:aq}(V:dc B){i:Nat}{x:bX}(s:B.ents[i]?=some x):VC prog 80 [aW B,pI i] (pI (eS B i x)):=by
 have W:=aI s;have hk:i<=B.ents.length:=Oo
 have hX:=V.x x (JQ s);have e1:=ak ndP x.sort;have X:=ak (λt=>[ah t]) x.params;have e3:=ak (λt=>[ah t]) x.indices;have e4:=ak aZ x.ctors;have e5:=ak ndP x.type;have e6:=ak ndP x.body;have Y:=hX.s;have s2:=hX.p.1;have s3:=hX.i.1;have s4:=hX.c;refine cA 179 [.tmp 4] τok func80 ?_;refine aC τok<|aC τok<|vm i s ?_;refine aC τok<|ae (λp=>?_) (λp=>?_)
 ·have u:eS B i x=if 0<x.sort.length+x.params.length+x.indices.length+x.ctors.length then 8 else bh (cw B i (-1) x.type 0) (cw B i (-1) x.body 0):=by
   unfold eS;rw[if_neg Oo,if_pos p]
   congr 1
   simp only[bQ,bh,Int.add_zero];split
   ·rfl
   ·split
    ·rfl
    ·omega
  rw[u];have n:0<x.sort.length+x.params.length+x.indices.length+x.ctors.length ->pI 8=pI (if 0<x.sort.length+x.params.length+x.indices.length+x.ctors.length then 8 else bh (cw B i (-1) x.type 0) (cw B i (-1) x.body 0)):=λh=>by rw[if_pos h]
  refine ae (λq1=>?_) (λq1=>?_)
  ·exact⟨_,_,rfl,rfl,n Oo⟩
  refine ae (λA=>?_) (λA=>?_)
  ·exact⟨_,_,rfl,rfl,n Oo⟩
  refine ae (λD=>?_) (λD=>?_)
  ·exact⟨_,_,rfl,rfl,n Oo⟩
  refine ae (λE=>?_) (λE=>?_)
  ·exact⟨_,_,rfl,rfl,n Oo⟩
  rw[if_neg Oo];refine af (o5 hk x.type hX.t 0) ?_;refine ae (λF=>?_) (λF=>?_)
  ·refine af (o5 hk x.body hX.b 0) ?_
   exact⟨_,_,rfl,rfl,by rw[jo Oo];rfl⟩
  ·exact⟨_,_,rfl,rfl,by rw[kK Oo];rfl⟩
 refine aC τok ?_;have H:(x.kind≠1 \/0<x.type.length+x.body.length) ->pI 8=pI (eS B i x):=λh=>by
  unfold eS
  by_cases O:x.kind=1
  ·rw[if_pos O,if_pos (h.resolve_left Oo)]
  ·rw[if_neg O,if_neg p]
 refine ae (λq1=>?_) (λq1=>?_)
 ·exact⟨_,_,rfl,rfl,H (.inl q1)⟩
 refine ae (λA=>?_) (λA=>?_)
 ·exact⟨_,_,rfl,rfl,H Oo⟩
 refine ae (λD=>?_) (λD=>?_)
 ·exact⟨_,_,rfl,rfl,H Oo⟩
 have u:eS B i x=if 16<x.params.length \/16<x.indices.length \/16<x.ctors.length then 5 else bh (cw B i (-1) x.sort 0) (bh (gI x.sort) (bh (bQ B i (-1) 1 x.params 0) (bh (bQ B i (-1) 1 x.indices (x.params.length:Int)) (fS B i x x.ctors)))):=by
  unfold eS;rw[if_pos Oo,if_neg Oo]
 rw[u];have I:(16<x.params.length \/16<x.indices.length \/16<x.ctors.length) ->pI 5=pI (if 16<x.params.length \/16<x.indices.length \/16<x.ctors.length then 5 else bh (cw B i (-1) x.sort 0) (bh (gI x.sort) (bh (bQ B i (-1) 1 x.params 0) (bh (bQ B i (-1) 1 x.indices (x.params.length:Int)) (fS B i x x.ctors))))):=λh=>by rw[if_pos h]
 refine aC τok<|ae (λE=>?_) (λE=>?_)
 ·exact⟨_,_,rfl,rfl,I Oo⟩
 refine ae (λF=>?_) (λF=>?_)
 ·exact⟨_,_,rfl,rfl,I Oo⟩
 refine ae (λZ=>?_) (λZ=>?_)
 ·exact⟨_,_,rfl,rfl,I Oo⟩
 rw[if_neg Oo];refine aC τok<|aC τok<|af (o5 hk x.sort Y 0) ?_;refine dB τok (σ:=Unit) [(1,_),(2,_),(4,_),(5,_),(7,_)] [(2,_),(5,_)] (λ_=>[(8,vI (bh (cw B i (-1) x.sort 0) (gI x.sort)))]) (λ_=>[]) (λ_=>True) ?_ ?_
 ·refine ae (λb=>?_) (λb=>?_)
  ·have hs:eg x.sort=0:=by
    unfold cw at b;split at b
    ·exact absurd b (by assumption)
    ·rename_i h;exact Decidable.of_not_not h
   obtain⟨y,hy,hr⟩:=tk hs;have K:=aS y;obtain⟨m,P⟩:∃m,x.sort[0]?=some m:=⟨_,List.getElem?_eq_getElem (by rw[hr];exact K)⟩
   have Q:gI x.sort=if m.op≠2 then 8 else 0:=by unfold gI;rw[List.getD_eq_getElem?_getD,P];rfl
   refine vm 0 P ?_;refine ae (λo=>?_) (λo=>?_)
   ·exact au () trivial (x:=⟨by rw[jo Oo,Q,if_pos o];rfl,trivial⟩)
   ·exact au () trivial (x:=⟨by rw[jo Oo,Q,if_neg o,b];rfl,trivial⟩)
  ·exact au () trivial (x:=⟨congrArg (λz=>some (vI z)) (kK Oo).symm,trivial⟩)
 rintro _ _;refine dB τok (σ:=Unit) [(1,_),(2,_),(4,_),(5,_),(7,_)] [(2,_),(5,_)] (λ_=>[(8,vI (bh (bh (cw B i (-1) x.sort 0) (gI x.sort)) (bQ B i (-1) 1 x.params 0)))]) (λ_=>[]) (λ_=>True) ?_ ?_
 ·refine ae (λb=>?_) (λb=>?_)
  ·refine af (yj hk hX.p Oo) ?_
   exact au () trivial (x:=⟨congrArg (λz=>some (vI z)) (jo Oo).symm,trivial⟩)
  ·exact au () trivial (x:=⟨congrArg (λz=>some (vI z)) (kK Oo).symm,trivial⟩)
 rintro _ _;have L:((x.params.map λt=>[ah t]).length:Int)=(x.params.length:Int):=by rw[X]
 refine dB τok (σ:=Unit) [(1,_),(2,_),(4,_),(5,_),(7,_)] [(2,_),(5,_)] (λ_=>[(8,vI (bh (bh (bh (cw B i (-1) x.sort 0) (gI x.sort)) (bQ B i (-1) 1 x.params 0)) (bQ B i (-1) 1 x.indices (x.params.length:Int))))]) (λ_=>[]) (λ_=>True) ?_ ?_
 ·refine ae (λb=>?_) (λb=>?_)
  ·refine af (show VC prog _ [aW B,pI i,pI (-1),pI ((x.params.map λt=>[ah t]).length:Int),bw x.indices] _ by rw[L];exact yj hk hX.i Oo) ?_
   exact au () trivial (x:=⟨congrArg (λz=>some (vI z)) (jo Oo).symm,trivial⟩)
  ·exact au () trivial (x:=⟨congrArg (λz=>some (vI z)) (kK Oo).symm,trivial⟩)
 rintro _ _;rw[<- lO,<- lO,<- lO];refine aj τok<|az τok (σ:=Nat×Int) [(1,_),(2,_),(4,_),(5,_),(7,_)] [(2,_),(5,_)] (λq=>[(8,vI q.2),(9,vI q.1)]) (λ_=>[]) (λq=>q.1<=x.ctors.length/\bh (bh (bh (bh (cw B i (-1) x.sort 0) (gI x.sort)) (bQ B i (-1) 1 x.params 0)) (bQ B i (-1) 1 x.indices (x.params.length:Int))) (fS B i x x.ctors)=bh q.2 (fS B i x (x.ctors.drop q.1))) (λq=>x.ctors.length-q.1) (0,_) ⟨KV _,rfl⟩ ?_;rintro⟨k,e⟩ ⟨b,o⟩;simp only at b o;refine aC τok<|ae (λR=>?_) (λR=>?_)
 ·refine ae (λp=>?_) (λp=>?_)
  ·simp only at p
   obtain⟨c,S,hd⟩:=ay (l:=x.ctors) (k:=k);obtain⟨T,co⟩:=hX.a c (JQ S);have f1:=ak (λt=>[ah t]) c.args;have f2:=ak (λt=>[ah t]) c.out;have a0:=T.1;rw[hd,jo (a:=e) Oo]at o;rw[o];have eC:fS B i x (c::x.ctors.drop (k+1))=if 16<c.args.length then 5 else if c.out.length≠x.indices.length then 8 else bh (bh (bQ B i i 1 c.args (x.params.length:Int)) (bQ B i i 0 c.out ((x.params.length:Int)+(c.args.length:Int)))) (fS B i x (x.ctors.drop (k+1))):=by
    rw[lO]
    rfl
   rw[eC];refine VCode.seq (VCode.blk<|aC τok<|vm k S ?_);refine aC τok<|ae (λk3=>?_) (λk3=>?_)
   ·exact⟨_,_,rfl,rfl,by rw[if_pos Oo];rfl⟩
   refine aC τok<|ae (λk4=>?_) (λk4=>?_)
   ·exact⟨_,_,rfl,rfl,by rw[if_neg Oo,if_pos Oo];rfl⟩
   rw[if_neg Oo,if_neg Oo];refine aj τok<|af (show VC prog _ [aW B,pI i,pI i,pI ((x.params.map λt=>[ah t]).length:Int),bw c.args] _ by rw[L];exact yj hk T Oo) ?_;refine az τok (σ:=Nat×Int) [(1,_),(2,_),(4,_),(5,_),(7,_),(9,_),(10,_)] [(2,_),(5,_),(10,_)] (λq=>[(8,vI q.2),(11,vI q.1)]) (λ_=>[]) (λq=>q.1<=c.out.length/\bh (bQ B i i 1 c.args (x.params.length:Int)) (bQ B i i 0 c.out ((x.params.length:Int)+(c.args.length:Int)))=bh q.2 (bQ B i i 0 (c.out.drop q.1) ((x.params.length:Int)+(c.args.length:Int)))) (λq=>c.out.length-q.1) (0,_) ⟨KV _,rfl⟩ ?_;rintro⟨j,v⟩ ⟨j1,r⟩;simp only at j1 r;refine aj τok ?_;have done:(v≠0 \/c.out.length<=j) ->bh (bQ B i i 1 c.args (x.params.length:Int)) (bQ B i i 0 c.out ((x.params.length:Int)+(c.args.length:Int)))=v:=λh=>by
    rw[r];rcases h with h|h
    ·exact kK h
    ·rw[JY h]
     unfold bh;split
     ·rfl
     ·rename_i h;simp only[bQ];omega
   refine ae (λU=>?_) (λU=>?_)
   ·refine ae (λM=>?_) (λM=>?_)
    ·simp only at M
     obtain⟨t,N,a1⟩:=ay (l:=c.out) (k:=j);rw[JT _ _ j t N,jo (a:=v) Oo]at r;refine vi ?_;refine vm j N ?_;refine af (show VC prog _ [aW B,pI i,pI i,pI (((x.params.map λt=>[ah t]).length:Int)+((c.args.map λt=>[ah t]).length:Int)),ah t] _ by rw[L,f1];exact o5 hk t (co.2 t (JQ N)) _) ?_;refine vk ?_;refine vi ?_;exact au (j+1,_) ⟨OS,r⟩
    ·refine aj τok ?_
     refine vi ?_;exact au (k+1,v) ⟨OS,by rw[done (.inl M)]⟩
   ·refine aj τok ?_
    refine vi ?_;exact au (k+1,v) ⟨OS,by rw[done (.inr (by simp only at U;omega))]⟩
  ·exact⟨_,_,rfl,rfl,by rw[o,kK p];rfl⟩
 ·exact⟨_,_,rfl,rfl,by
   rw[o,JY (by simp only at R;omega)];refine congrArg pI ?_;simp only;unfold bh;split
   ·rfl
   ·rename_i h;simp only[fS];omega⟩
def iD':List Int ->Int
 |[]=>0
 |a::r=>bh a (iD' r)
theorem o8{P:Program}{f:FuncId}{a:List PV}{n:Int}(h:VC P f a (pI n)){w:World}{C:Mem}{vs:List Value}(hS:Sub C w)(b:cP C a vs):dz P f/\Calls P f vs.toArray w (λe w'=>e= .returned (.int .i64 n)/\Kp [] w w'):=⟨h.1,(h.run.2 w C vs hS b).mono λe w' ⟨v,l,c,i,j⟩=>⟨by rw[c,fM i],j.kp⟩⟩
theorem mW{C:Mem}:cP C [] []:=⟨rfl,λi x v a=>by simp at a⟩
theorem dj{C:Mem}{p:PV}{v:Value}{a:List PV}{vs:List Value}(h:RV C p v)(h2:cP C a vs):cP C (p::a) (v::vs):=⟨congrArg (· +1) h2.1,λi x u b c=>by
 cases i with
 |zero=>obtain rfl:=JB b;obtain rfl:=JB c;exact h
 |succ i=>exact h2.2 i x u b c⟩
theorem nV{C:Mem}{a:List PV}{vs:List Value}(h:cP C a vs):RV C (.agg a) (.agg vs.toArray):=.agg _ _ h.1 h.2
section
variable{C:Mem}{w:World}{B:aq}{known:Nat}{x:bX}
theorem J1{fs:List (Nat×Array Value)}{rs:List Int}(u:rs.length=fs.length)(E:fs.length<=100){b T:Nat}(hb:Bk w.heap b (fs.map λq=>.func (.func q.1) #[] q.2) T)
  (F:∀(i:Nat) q w',fs[i]?=some q ->Kp [] w w' ->(∀j,j<i ->rs.getD j 0=0) ->dz prog q.1/\Calls prog q.1 (#[]++ #[]++q.2) w' (λe v=>e= .returned (iV (rs.getD i 0))/\Kp [] w' v)):
  CC 121 #[.slice (some ⟨b,0,none⟩) fs.length fs.length] w (λe w'=>e= .returned (iV (iD' rs))/\Kp [] w w'):=by
 refine oF func121 ?_;generalize m:iD' rs=t;refine cO (args:=[_]) 18 [.tmp 2] τok func121 ?_;refine lp τok (σ:=Nat) (λi=>[(6,.slice (some ⟨b,0,none⟩) fs.length fs.length),(7,iV (fs.length:Int)),(8,iV (i:Int))])
  (λi w'=>i<=fs.length/\Kp [] w w'/\(∀j,j<i ->rs.getD j 0=0)/\iD' (rs.drop i)=t) (λi=>fs.length-i) 0 rfl
  ⟨rfl,rfl,rfl,trivial⟩ ⟨KV _,Kp.refl _ _,λj H=>Oo,m⟩ ?_
 clear m
 rintro i y ⟨L,c,z,a⟩;refine da (λg=>?_) (λg=>?_)
 ·have g:(i:Int)<(fs.length:Int):=g
  obtain⟨q,A,_⟩:=ay (l:=fs) (k:=i);obtain⟨r,I,K⟩:=ay (l:=rs) (k:=i);rw[K]at a;have p:rs.getD i 0=r:=by rw[List.getD_eq_getElem?_getD,I];rfl
  have n:Cl y.heap b (0+i*1) (.func (.func q.1) #[] q.2):=(hb.kp c Od).cl (by rw[Nat.mul_one,KW,JX,A];rfl);refine ix i rfl Oo<|ld (Cl.cell n) ?_;have D:=F i q y A c z;rw[p]at D;refine ir D ?_;rintro e v ⟨rfl,s⟩;simp only[iD',bh]at a;refine da (λo=>?_) (λo=>?_)
  ·have o:r≠0:=o
   rw[if_pos o]at a;subst a;exact⟨rfl,c.tr s⟩
  ·have o:¬ r≠0:=o
   rw[if_neg o]at a;exact i6<|⟨i+1,Oo,rfl,⟨rfl,rfl,rfl,trivial⟩,Oo,c.tr s,λj H=>by
    by_cases h:j=i
    ·subst h
     rw[p];omega
    ·exact z j Oo,a⟩
 ·have g:¬ (i:Int)<(fs.length:Int):=g
  rw[JY Oo]at a;simp only[iD']at a;subst a;exact⟨rfl,c⟩
structure Bxq(C:Mem)(w:World)(B:aq)(known:Nat)(x:bX)(b2 b3:Nat)(us es:List Value):Prop where
 lk:Bk w.heap b2 us 123
 en:Bk w.heap b3 es 67
 u:cP C (jM B++[pI known,pI (-1)]) us
 e:cP C (aQ x) es
 k:known<=B.ents.length
 sm:oI x
 lp:x.params.length<=16
theorem Bxq.kp{b2 b3:Nat}{us es:List Value}(h:Bxq C w B known x b2 b3 us es){w':World}(k:Kp [] w w'):Bxq C w' B known x b2 b3 us es:=⟨h.lk.kp k Od,h.en.kp k Od,h.u,h.e,h.k,h.sm,h.lp⟩
variable{b2 b3:Nat}{us es:List Value}(hS:Sub C w)(h:Bxq C w B known x b2 b3 us es)
include hS h
theorem Gj':CC 122 #[pt b2,pt b3] w (λe w'=>e= .returned (iV (cw B known (-1) x.sort 0))/\Kp [] w w'):=by
 refine oF func122 ?_;have t:=h.sm;have A:=t.s;obtain⟨v,y,a,b,hk,_,_⟩:=h
 match us,es,a,b with
 |[m,n,o,p,q,r,s],[D,E,F,H,I,K,L],a,b=>
 have c:∀j u,[m,n,o,p,q,r,s][j]?=some u ->Cl w.heap b2 (0+j) u:=λj u z=>by rw[KW];exact v.cl z
 refine cO (args:=[_,_]) 7 [.tmp 2] τok func122 ?_;refine j4 [m,n,o,p,q,r,s] rfl c<|lb y ?_;refine ir (o8 (ym hk (l:=x.sort) Oo (below:=0) (by constructor<;>simp)) hS (dj (nV a) (dj (b.2 1 _ _ rfl rfl) (dj (.int _ _) mW)))) ?_;rintro e M ⟨rfl,i⟩;exact⟨rfl,i⟩
theorem J2(i:0<x.sort.length):CC 123 #[pt b3] w (λe w'=>e= .returned (iV (gI x.sort))/\Kp [] w w'):=by
 refine oF func123 ?_;have l:=h.sm;obtain⟨m,j,c,a,hk,_,_⟩:=h
 match us,es,c,a with
 |[n,o,p,q,r,s,t],[u,v,y,z,A,D,E],c,a=>
 refine cO (args:=[_]) 5 [.tmp 1] τok func123 ?_;refine lb j ?_;refine ir (o8 (JS i) hS (dj (a.2 1 _ _ rfl rfl) mW)) ?_;rintro e F ⟨rfl,b⟩;exact⟨rfl,b⟩
theorem Gl':CC 125 #[pt b2,pt b3] w (λe w'=>e= .returned (.int .i64 (bQ B known (-1) 1 x.params 0))/\Kp [] w w'):=by
 refine oF func125 ?_;have s:=h.sm;obtain⟨t,v,a,b,hk,_,_⟩:=h
 match us,es,a,b with
 |[l,m,n,o,p,q,r],[z,A,D,E,F,H,I],a,b=>
 have c:∀j u,[l,m,n,o,p,q,r][j]?=some u ->Cl w.heap b2 (0+j) u:=λj u y=>by rw[KW];exact t.cl y
 refine cO (args:=[_,_]) 7 [.tmp 2] τok func125 ?_;refine j4 [l,m,n,o,p,q,r] rfl c<|lb v ?_;refine ir (o8 (qQ hk s.p (below:=0) (step:=1) Oo Oo) hS (dj (nV a) (dj (b.2 2 _ _ rfl rfl) (dj (.int _ _) (dj (.int _ _) mW))))) ?_;rintro e K ⟨rfl,i⟩;exact⟨rfl,i⟩
theorem J3{l T:Nat}(t:Bk w.heap l [iV (x.params.length:Int)] T):CC 127 #[pt b2,pt b3,pt l] w (λe w'=>e= .returned (iV (bQ B known (-1) 1 x.indices (x.params.length:Int)))/\Kp [] w w'):=by
 refine oF func127 ?_;have v:=h.sm;have y:=h.lp;obtain⟨z,A,a,b,hk,_,_⟩:=h
 match us,es,a,b with
 |[m,n,o,p,q,r,s],[E,F,H,I,K,L,M],a,b=>
 have c:∀j u,[m,n,o,p,q,r,s][j]?=some u ->Cl w.heap b2 (0+j) u:=λj u D=>by rw[KW];exact z.cl D
 refine cO (args:=[_,_,_]) 9 [.tmp 3] τok func127 ?_;refine j4 [m,n,o,p,q,r,s] rfl c<|lb A ?_;refine lb t ?_;refine ir (o8 (qQ hk v.i (below:=(x.params.length:Int)) (step:=1) Oo Oo) hS (dj (nV a) (dj (b.2 3 _ _ rfl rfl) (dj (.int _ _) (dj (.int _ _) mW))))) ?_;rintro e N ⟨rfl,i⟩;exact⟨rfl,i⟩
theorem Gn':CC 128 #[pt b2,pt b3] w (λe w'=>e= .returned (iV (fS B known x x.ctors))/\Kp [] w w'):=by
 refine oF func128 ?_;have t:=h.sm;have a:=h.lp;obtain⟨v,y,b,c,hk,_,_⟩:=h
 match us,es,b,c with
 |[m,n,o,p,q,r,s],[z,A,D,E,F,H,I],b,c=>
 have i:∀j u,[m,n,o,p,q,r,s][j]?=some u ->Cl w.heap b2 (0+j) u:=λj u K=>by rw[KW];exact v.cl K
 refine cO (args:=[_,_]) 6 [.tmp 2] τok func128 ?_;refine j4 [m,n,o,p,q,r,s] rfl i<|j4 [z,A,D,E,F,H,I] rfl (bZ y)<|ir (o8 (JR hk t a) hS (dj (nV b) (dj (nV c) mW))) ?_;rintro e L ⟨rfl,l⟩;exact⟨rfl,l⟩
end
theorem o9{C:Mem}{l:List (List PV)}{v:Value}(h:RV C (.sl l) v):∃a c,v= .slice a l.length c:=by
 cases h with
 |nil a c=>exact⟨a,c,rfl⟩
 |sl l i b o c f=>exact⟨_,c,rfl⟩
section
variable{B:aq}{known:Nat}{x:bX}(hk:known<=B.ents.length)(hX:oI x)
include hk hX
theorem Ah':VC prog 75 [o7 B known (-1),.agg (aQ x)] (pI (eS B known x)):=.of ⟨⟨_,func75,rfl,OO⟩,λw C vs hS hV=>by
 suffices H:Calls prog 75 vs.toArray w (λe T=>e= .returned (.int .i64 (eS B known x))/\Kp [] w T)from H.mono λe T ⟨e1,k⟩=>⟨_,C,e1,.int _ _,hS.tr k,λ_ _ _ h=>h,λb o v h=>.inl ⟨o,v,h⟩,k⟩
 obtain⟨lv,ev,rfl,g1,p⟩:=xj hV;generalize c:eS B known x=L;unfold eS at c;cases g1 with|agg _ us ul uh=>
 cases p with|agg _ es el eh=>
 have hu:cP C (jM B++[pI known,pI (-1)]) us:=⟨ul,uh⟩
 have r:cP C (aQ x) es:=⟨el,eh⟩
 clear ul uh el eh
 match us,es,hu,r with
 |[u0,u1,u2,u3,u4,u5,u6],[e0,e1,e2,e3,e4,e5,e6],hu,r=>
 obtain rfl:=fM (r.2 0 _ _ rfl rfl);obtain⟨V,W,r1⟩:=o9 (r.2 1 _ _ rfl rfl);obtain⟨ap,cp,r2⟩:=o9 (r.2 2 _ _ rfl rfl);obtain⟨ai,ci,r3⟩:=o9 (r.2 3 _ _ rfl rfl);obtain⟨ac,cc,r4⟩:=o9 (r.2 4 _ _ rfl rfl);obtain⟨s,t,r5⟩:=o9 (r.2 5 _ _ rfl rfl);obtain⟨X,Y,r6⟩:=o9 (r.2 6 _ _ rfl rfl);rw[List.length_map]at r1 r2 r3 r4 r5 r6;subst r1 r2 r3 r4 r5 r6;have l1:=hX.s;have l2:=hX.p.1;have l3:=hX.i.1;have l4:=hX.c;have l5:=hX.t;have l6:=hX.b;refine cO (args:=[_,_]) 69 [.tmp 4] τok func75 ?_;refine iO λb2 w1 a' U b0 a4=>?_;have U:Bk w1.heap b2 [u0,u1,u2,u3,u4,u5,u6] 123:=U;refine iO λb3 w2 b1 n b4 Z=>?_;have n:Bk w2.heap b3 [.int .i64 x.kind,.slice V x.sort.length W,.slice ap x.params.length cp,.slice ai x.indices.length ci,.slice ac x.ctors.length cc,.slice s x.type.length t,.slice X x.body.length Y] 67:=n;have U:=U.kp Z Od;have m:=a4.tr Z;refine lb n ?_;refine da (λM=>?_) (λM=>?_)
 ·have M:x.kind=1:=M
  rw[if_pos M]at c;refine lb n ?_;refine lb n ?_;refine i6 ?_;refine da (λp=>?_) (λp=>?_)
  ·have p:(0:Int)<(x.type.length:Int)+(x.body.length:Int):=p
   rw[if_pos Oo]at c;subst c;exact⟨rfl,m⟩
  have p:¬ (0:Int)<(x.type.length:Int)+(x.body.length:Int):=p;rw[if_neg Oo]at c;have N:∀{T},Kp [] w T ->L=5 ->Ending.returned (Go.Wx.one [.int .i64 5])= .returned (.int .i64 L)/\Kp [] w T:=λk h=>by subst h;exact⟨rfl,k⟩
  refine lb n ?_;refine da (λA=>?_) (λA=>?_)
  ·have A:(16:Int)<(x.params.length:Int):=A
   rw[if_pos (.inl Oo)]at c;exact N m c.symm
  have A:¬ (16:Int)<(x.params.length:Int):=A;refine lb n ?_;refine da (λg4=>?_) (λg4=>?_)
  ·have g4:(16:Int)<(x.indices.length:Int):=g4
   rw[if_pos (.inr (.inl Oo))]at c;exact N m c.symm
  have g4:¬ (16:Int)<(x.indices.length:Int):=g4;refine lb n ?_;refine da (λg5=>?_) (λg5=>?_)
  ·have g5:(16:Int)<(x.ctors.length:Int):=g5
   rw[if_pos (.inr (.inr Oo))]at c;exact N m c.symm
  have g5:¬ (16:Int)<(x.ctors.length:Int):=g5;rw[if_neg Oo]at c;refine lb n ?_;refine iO λK w3 a0 I a5 O=>?_;refine st (b:=K) (o:=0) I Od rfl λw4 I b7 P=>?_;have I:Bk w4.heap K [.int .i64 (x.params.length:Int)] 3:=I;have a6:=O.newSt a0 P;refine fill [.func (.func 122) #[] #[pt b2,pt b3],.func (.func 123) #[] #[pt b3],.func (.func 125) #[] #[pt b2,pt b3],.func (.func 127) #[] #[pt b2,pt b3,pt K],.func (.func 128) #[] #[pt b2,pt b3]] rfl<|iO λb6 w5 b8 h6 b9 a1=>?_;have Q:=a6.tr a1;have a2:=m.tr Q;have I:=I.kp a1 Od;have a7:Bxq C w5 B known x b2 b3 [u0,u1,u2,u3,u4,u5,u6] [.int .i64 x.kind,.slice V x.sort.length W,.slice ap x.params.length cp,.slice ai x.indices.length ci,.slice ac x.ctors.length cc,.slice s x.type.length t,.slice X x.body.length Y]:=⟨U.kp Q Od,n.kp Q Od,hu,r,hk,hX,Oo⟩
  have a8:=J1 (w:=w5) (fs:=[(122,#[pt b2,pt b3]),(123,#[pt b3]),(125,#[pt b2,pt b3]),(127,#[pt b2,pt b3,pt K]),(128,#[pt b2,pt b3])])
   (rs:=[cw B known (-1) x.sort 0,gI x.sort,bQ B known (-1) 1 x.params 0,bQ B known (-1) 1 x.indices (x.params.length:Int),fS B known x x.ctors]) rfl Od h6 (λi q T hq R hz=>by
    have D:=(hS.tr a2).tr R;have E:=a7.kp R
    match i,hq with
    |0,rfl=>exact Gj' D E
    |1,rfl=>
     refine J2 D E ?_;rw[(th Oo (hz 0 Oo)).1];exact aS _
    |2,rfl=>exact Gl' D E
    |3,rfl=>exact J3 D E (I.kp R Od)
    |4,rfl=>exact Gn' D E)
  refine ir a8 ?_;rintro e w6 ⟨rfl,a9⟩;have:iD' [cw B known (-1) x.sort 0,gI x.sort,bQ B known (-1) 1 x.params 0,bQ B known (-1) 1 x.indices (x.params.length:Int),fS B known x x.ctors]=L:=by
   rw[<- c];have e:∀a,bh a 0=a:=λa=>by unfold bh;split<;>omega
   simp only[iD',e]
  rw[this];exact⟨rfl,a2.tr a9⟩
 have M:¬ x.kind=1:=M;rw[if_neg M]at c;refine da (λp=>?_) (λp=>?_)
 ·have p:x.kind=2:=p
  rw[if_pos p]at c;refine lb n ?_;refine lb n ?_;refine i6 ?_;refine lb n ?_;refine i6 ?_;refine lb n ?_;refine i6 ?_;refine da (λA=>?_) (λA=>?_)
  ·have A:(0:Int)<(x.sort.length:Int)+(x.params.length:Int)+(x.indices.length:Int)+(x.ctors.length:Int):=A
   rw[if_pos Oo]at c;subst c;exact⟨rfl,m⟩
  have A:¬ (0:Int)<(x.sort.length:Int)+(x.params.length:Int)+(x.indices.length:Int)+(x.ctors.length:Int):=A;rw[if_neg Oo]at c;refine j4 [u0,u1,u2,u3,u4,u5,u6] rfl (bZ U)<|lb n ?_;refine lb n ?_;refine fill [.slice s x.type.length t,.slice X x.body.length Y] rfl<|iO λK w3 a0 I a5 O=>?_;have a3:=m.tr O;have F:∀j u,[Value.slice s x.type.length t,.slice X x.body.length Y][j]?=some u ->Cn C w w3 K (0+j) u:=λj u hj=>by
   refine .inr ⟨by have:=m.size;omega,?_⟩;rw[KW];exact I.cu hj
  have S:RV (Cn C w w3) (bw [x.type,x.body]) (.slice (some ⟨K,0,none⟩) 2 2):=by
   refine .sl _ 1 K 0 2 (λi _=>[Value.slice s x.type.length t,.slice X x.body.length Y].getD i undef) (λy hy=>by simp[bw]at hy;rcases hy with rfl|rfl<;>rfl) (KJ 2) (λi j y z hy hz=>?_) λi j y z hy hz=>?_
   all_goals match i,j,hy,hz with
    |0,0,rfl,rfl=>first|exact F 0 _ rfl|exact(r.2 5 _ _ rfl rfl).mono λ_ _ _ h=>.inl h
    |1,0,rfl,rfl=>first|exact F 1 _ rfl|exact(r.2 6 _ _ rfl rfl).mono λ_ _ _ h=>.inl h
  refine ir (o8 (qQ (B:=B) hk (ls:=[x.type,x.body]) (self:=-1) (below:=0) (step:=0) ⟨Od,λl hl=>by simp at hl;rcases hl with rfl|rfl;exact hX.t;exact hX.b⟩ Oo Oo) (Cn.sub hS a3) (dj ((nV hu).mono λ_ _ _ h=>.inl h) (dj S (dj (.int _ _) (dj (.int _ _) mW))))) ?_;rintro e w4 ⟨rfl,P⟩;subst c;exact⟨rfl,a3.tr P⟩
 have p:¬ x.kind=2:=p;rw[if_neg p]at c;subst c;exact⟨rfl,m⟩⟩
end
theorem tA(l:List Int)(v:Nat)(x y:Int):(l.map iP).set v ((iP x).set 0 (pI y))=(l.set v y).map iP:=by rw[List.map_set];rfl
theorem mX{d:List Int}{v:Nat}(h:v<d.length):d[v]?=some (gt d v):=by
 unfold gt;rw[List.getD_eq_getElem?_getD,List.getElem?_eq_getElem h]
 rfl
def J4(r:Option (List Int)):PV:=match r with
 |some d=>.tup [.sl (d.map iP),.bool true]
 |none=>.tup [.sl [],.bool false]
theorem DU{vars:Int}{n:Nat}(R:(n:Int)=vars+1)(S:n<=17){os:List aO}(T:Lv.Good n os)(hl:os.length<=64){low:Nat}(m:low<n):VC prog 131 [pI vars,.sl (os.map orP),pI low] (J4 (jG n os low)):=by
 have eO:=ak orP os;have ini:=qr os m;refine vf 107 [.tmp 6,.tmp 7] τok func131 ?_;refine vi ?_;refine Aj n ?_ R.symm R.symm;refine az τok (σ:=Nat×List Int) [(0,_),(1,_),(2,_),(6,_),(7,_),(8,_)] [] (λq=>[(9,vI q.1)]) (λq=>[(17,.rw 3 1 (q.2.map iP))]) (λq=>q.1<=n/\q.2.length=n/\∀j,j<q.1 ->q.2[j]?=some non) (λq=>n-q.1) (0,List.replicate n 0) ⟨KV _,Od,λj z=>absurd z Od⟩ ?_ (y1:=⟨congrArg (λl=>some (SE.rw _ _ l)) (by rw[List.map_replicate];rfl),trivial⟩);rintro⟨v,l⟩ ⟨L,A,a⟩;simp only at L A a;refine aj τok<|ae (λg=>?_) (λg=>?_)
 ·simp only at g
  have U:=mX (d:=l) (v:=v) Oo;refine vm v U ?_;refine dG U<|vi ?_;refine au (v+1,l.set v non) ⟨OS,by simp[A],λj z=>?_⟩ (y':=⟨congrArg (λl=>some (SE.rw _ _ l)) (tA l v _ _),trivial⟩);simp only at z ⊢;rw[List.getElem?_set]
  by_cases e:v=j
  ·rw[if_pos e,if_pos Oo]
  ·rw[if_neg e]
   exact a j Oo
 simp only at g;have M:l=List.replicate n non:=by
  refine List.ext_getElem? λj=>?_
  by_cases z:j<n
  ·rw[a j Oo,List.getElem?_replicate,if_pos z]
  ·rw[List.getElem?_eq_none Oo,List.getElem?_eq_none OK]
 subst M;refine vm low (mX (by simpa using m)) ?_;refine dG (mX (by simpa using m))<|az τok (σ:=Nat×List Int) [(0,_),(1,_),(2,_),(6,_),(7,_),(8,_)] [] (λq=>[(10,vI q.1)]) (λq=>[(17,.rw 3 1 (q.2.map iP))]) (λq=>q.1<=n+1/\Inv n os low (64000*q.1) q.2/\jG n os low=ly n os (n+1-q.1) q.2) (λq=>n+1-q.1) (0,(List.replicate n non).set low 0) ⟨KV _,by simpa using ini.1,rfl⟩ ?_ (y1:=⟨congrArg (λl=>some (SE.rw _ _ l)) (tA _ low _ _),trivial⟩);rintro⟨r,d⟩ ⟨L,A,a⟩;simp only at L A a;refine aj τok<|vi ?_;refine ae (λg=>?_) (λg=>?_)
 ·simp only at g
  obtain⟨c,X⟩:∃c,n+1-r=c+1:=⟨n-r,Oo⟩
  rw[X]at a;simp only[ly]at a;have Y:=we A Oo;refine az τok (σ:=Nat) [(0,_),(1,_),(2,_),(6,_),(7,_),(8,_),(10,_)] [] (λv=>[(11,.c (.p (.bool (aN bD v (d,false)).2))),(12,vI v)]) (λv=>[(17,.rw 3 1 ((aN bD v (d,false)).1.map iP))]) (λv=>v<=n) (λv=>n-v) 0 (KV _) ?_;rintro v Z;obtain⟨V,_⟩:=Y v Z;have a0:=V.len;refine aj τok<|ae (λk2=>?_) (λk2=>?_)
  ·have x0:=mX (d:=(aN bD v (d,false)).1) (v:=0) Oo
   have t:=mX (d:=(aN bD v (d,false)).1) (v:=v) Oo;have e:aN bD (v+1) (d,false)=bD v (aN bD v (d,false)):=rfl;have u:¬ (gt (aN bD v (d,false)).1 0≠non/\gt (aN bD v (d,false)).1 v<gt (aN bD v (d,false)).1 0) ->bD v (aN bD v (d,false))=aN bD v (d,false):=λh=>if_neg h;refine vm 0 x0 ?_;refine dG x0<|ae (λD=>?_) (λD=>?_)
   ·refine vm v t ?_
    refine dG t<|vm 0 x0 ?_;refine dG x0<|ae (λy=>?_) (λy=>?_)
    ·have s:bD v (aN bD v (d,false))=((aN bD v (d,false)).1.set v (gt (aN bD v (d,false)).1 0),true):=if_pos ⟨D,y⟩
     refine vk ?_;refine vm 0 x0 ?_;refine dG x0<|vm v t ?_;refine dG t<|vi ?_;exact au (v+1) (by show v+1<=n;omega) (x:=⟨by rw[e,s];rfl,rfl,trivial⟩) (y':=⟨congrArg (λl=>some (SE.rw _ _ l)) (by rw[e,s];exact tA _ _ _ _),trivial⟩)
    ·refine vk ?_
     refine vi ?_;exact au (v+1) (by show v+1<=n;omega) (x:=⟨by rw[e,u λq=>y q.2];rfl,rfl,trivial⟩) (y':=⟨by rw[e,u λq=>y q.2];rfl,trivial⟩)
   ·refine vk ?_
    refine vi ?_;exact au (v+1) (by show v+1<=n;omega) (x:=⟨by rw[e,u λq=>D q.1];rfl,rfl,trivial⟩) (y':=⟨by rw[e,u λq=>D q.1];rfl,trivial⟩)
  have N:v=n:=Oo
  subst N;refine az τok (σ:=Nat) [(0,_),(1,_),(2,_),(6,_),(7,_),(8,_),(10,_)] [] (λi=>[(11,.c (.p (.bool ((os.take i).foldl cq (aN bD v (d,false))).2))),(13,vI i)]) (λi=>[(17,.rw 3 1 (((os.take i).foldl cq (aN bD v (d,false))).1.map iP))]) (λi=>i<=os.length) (λi=>os.length-i) 0 (KV _) ?_;rintro i D;have O:=wg T (os.take i) (64000*r) (aN bD v (d,false)) (λo E=>List.mem_of_mem_take E) V (by rw[List.length_take];omega);obtain⟨b,_⟩:=O;have P:=b.len;rw[List.length_take]at b;refine aj τok<|ae (λy=>?_) (λy=>?_)
  ·obtain⟨o,E,hd⟩:=ay (l:=os) (k:=i)
   have Q:=T o (JQ E);unfold Rg at Q;have e:(os.take (i+1)).foldl cq (aN bD v (d,false))=cq ((os.take i).foldl cq (aN bD v (d,false))) o:=by
    rw[List.take_add_one,E,Option.toList,List.foldl_append]
    rfl
   have W:=b.bd o.low.toNat Oo;have x0:=mX (d:=((os.take i).foldl cq (aN bD v (d,false))).1) (v:=o.low.toNat) Oo;have t:=mX (d:=((os.take i).foldl cq (aN bD v (d,false))).1) (v:=o.high.toNat) Oo;have u:¬ (gt ((os.take i).foldl cq (aN bD v (d,false))).1 o.low.toNat≠non/\gt ((os.take i).foldl cq (aN bD v (d,false))).1 o.high.toNat<gt ((os.take i).foldl cq (aN bD v (d,false))).1 o.low.toNat+o.add) ->cq ((os.take i).foldl cq (aN bD v (d,false))) o=((os.take i).foldl cq (aN bD v (d,false))):=λh=>if_neg h;refine vm i E ?_;refine vm o.low.toNat x0 ?_;refine dG x0<|ae (λF=>?_) (λF=>?_)
   ·have W:=W.resolve_left F
    refine vm o.high.toNat t ?_;refine dG t<|vm o.low.toNat x0 ?_;refine dG x0<|vi ?_;refine ae (λI=>?_) (λI=>?_)
    ·have s:cq ((os.take i).foldl cq (aN bD v (d,false))) o=(((os.take i).foldl cq (aN bD v (d,false))).1.set o.high.toNat (gt ((os.take i).foldl cq (aN bD v (d,false))).1 o.low.toNat+o.add),true):=if_pos ⟨F,I⟩
     refine vk ?_;refine vm o.low.toNat x0 ?_;refine dG x0<|vi ?_;refine vm o.high.toNat t ?_;refine dG t<|vk ?_;refine vi ?_;exact au (i+1) (by show i+1<=_;omega) (x:=⟨by rw[e,s];rfl,rfl,trivial⟩) (y':=⟨congrArg (λl=>some (SE.rw _ _ l)) (by rw[e,s];exact tA _ _ _ _),trivial⟩)
    ·refine vk ?_
     refine vi ?_;exact au (i+1) (by show i+1<=_;omega) (x:=⟨by rw[e,u λq=>I q.2];rfl,rfl,trivial⟩) (y':=⟨by rw[e,u λq=>I q.2];rfl,trivial⟩)
   ·refine vk ?_
    refine vi ?_;exact au (i+1) (by show i+1<=_;omega) (x:=⟨by rw[e,u λq=>F q.1];rfl,rfl,trivial⟩) (y':=⟨by rw[e,u λq=>F q.1];rfl,trivial⟩)
  ·rw[JG Oo]at b P
   have er:bT v os d=os.foldl cq (aN bD v (d,false)):=rfl;have K:(os.take i).foldl cq (aN bD v (d,false))=bT v os d:=by rw[JG Oo];rfl
   rw[<- er]at b;refine br (λH=>?_) (λH=>?_)
   ·rw[K]at H
    rw[if_neg (by simpa using H)]at a;exact⟨_,_,rfl,rfl,by rw[a,<- K];rfl⟩
   ·rw[K]at H
    rw[if_pos (by simpa using H)]at a;refine vi ?_;exact au (r+1,(bT v os d).1) ⟨OS,b.mono OS,by rw[a,show v+1-(r+1)=c by omega]⟩ (y':=⟨by rw[<- K];rfl,trivial⟩)
 ·simp only at g
  rw[show n+1-r=0 by omega]at a;exact⟨_,_,rfl,rfl,by rw[a];rfl⟩
def jp(l:List Atom)(i:Nat):Int:=if i=0 then -1 else ((l[i-1]?).map (·.var)).getD 0
theorem qR{l:List Atom}(hl:l.length<=1000000)(vars:Int):VC prog 106 [cr l,pI vars] (.bool (cF l vars)):=by
 have H:=ak atP l;have m:(vars<0 \/16<vars \/l.length<1 \/4<l.length) ->PV.bool false= .bool (cF l vars):=λh=>by unfold cF;rw[if_pos h]
 refine vf 75 [.tmp 4] τok func106 ?_;refine ae (λn=>?_) (λn=>?_)
 ·exact⟨_,_,rfl,rfl,m (.inl n)⟩
 refine ae (λo=>?_) (λo=>?_)
 ·exact⟨_,_,rfl,rfl,m (.inr (.inl o))⟩
 refine ae (λq=>?_) (λq=>?_)
 ·exact⟨_,_,rfl,rfl,m Oo⟩
 refine ae (λr=>?_) (λr=>?_)
 ·exact⟨_,_,rfl,rfl,m Oo⟩
 have s:cF l vars=eX vars l (-1):=by unfold cF;rw[if_neg Oo]
 rw[s];refine vl τok (σ:=Nat) [(0,_),(1,_)] (λi=>[(5,vI i)]) (λi=>i<=l.length/\ -1<=jp l i/\eX vars l (-1)=eX vars (l.drop i) (jp l i)) (λi=>l.length-i) 0 ⟨KV _,by simp[jp],rfl⟩ ?_;rintro i ⟨I,K,c⟩;refine ae (λg=>?_) (λg=>?_)
 ·obtain⟨x,j,t⟩:=ay (l:=l) (k:=i)
  rw[t]at c;simp only[eX]at c;have a:(x.var<=jp l i \/vars<x.var \/x.add<0 \/1000<x.add) ->PV.bool false= .bool (eX vars l (-1)):=λh=>by rw[c,if_pos h]
  refine vm i j ?_;refine ae (λu=>?_) (λu=>?_)
  ·exact⟨_,_,rfl,rfl,a Oo⟩
  refine vm i j ?_;refine ae (λv=>?_) (λv=>?_)
  ·exact⟨_,_,rfl,rfl,a Oo⟩
  refine vm i j ?_;refine ae (λz=>?_) (λz=>?_)
  ·exact⟨_,_,rfl,rfl,a Oo⟩
  refine vm i j ?_;refine ae (λA=>?_) (λA=>?_)
  ·exact⟨_,_,rfl,rfl,a Oo⟩
  have nx:jp l (i+1)=x.var:=by unfold jp;rw[if_neg Oo,Nat.add_sub_cancel,j];rfl
  have b:jp l i<x.var ->eX vars l (-1)=eX vars (l.drop (i+1)) (jp l (i+1)):=λh=>by rw[c,if_neg Oo,nx]
  refine ae (λD=>?_) (λD=>?_)
  ·obtain⟨y,p⟩:∃y,l[i-1]?=some y:=⟨_,gE⟩
   have E:jp l i=y.var:=by unfold jp;rw[if_neg Oo,p];rfl
   refine vm i j ?_;refine vi ?_;refine vm (i-1) p ?_;refine ae (λF=>?_) (λF=>?_)
   ·refine vk ?_
    exact⟨_,_,rfl,rfl,a Oo⟩
   ·refine vk ?_
    refine vi ?_;exact au (i+1) ⟨Oo,Oo,b Oo⟩
  ·have E:jp l i= -1:=by unfold jp;rw[if_pos Oo]
   refine vk ?_;refine vi ?_;exact au (i+1) ⟨Oo,Oo,b Oo⟩
 ·rw[JY Oo]at c
  exact⟨_,_,rfl,rfl,by rw[c];rfl⟩
theorem DV{vars:Int}{o:aO}:cR vars o=true↔(o.low<0 \/vars<o.low \/o.high<0 \/vars<o.high \/o.add< -1000 \/1000<o.add):=by
 unfold cR;exact decide_eq_true_iff
theorem DW{vars:Int}{os:List aO}(hl:os.length<=1000000):VC prog 79 [pI vars,.sl (os.map orP)] (pI (gS vars os)):=by
 have N:=ak orP os;refine vf 73 [.tmp 4] τok func79 ?_;refine ae (λt=>?_) (λt=>?_)
 ·exact⟨_,_,rfl,rfl,by unfold gS;rw[if_pos (.inl t)];rfl⟩
 refine ae (λy=>?_) (λy=>?_)
 ·exact⟨_,_,rfl,rfl,by unfold gS;rw[if_pos (.inr y)];rfl⟩
 refine ae (λD=>?_) (λD=>?_)
 ·exact⟨_,_,rfl,rfl,by unfold gS;rw[if_neg Oo,if_pos Oo];rfl⟩
 have E:gS vars os=if os.any (cR vars)then 1 else if (List.range (vars.toNat+1)).all (λv=>(jG (vars.toNat+1) os v).isSome)then 0 else 7:=by unfold gS;rw[if_neg Oo,if_neg Oo]
 rw[E];refine vl τok (σ:=Nat) [(0,_),(1,_),(4,_)] (λi=>[(5,vI i)]) (λi=>i<=os.length/\∀o∈os.take i,cR vars o=false) (λi=>os.length-i) 0 ⟨KV _,Od⟩ ?_;rintro i ⟨O,r⟩;refine ae (λg=>?_) (λg=>?_)
 ·obtain⟨o,c,P⟩:=ay (l:=os) (k:=i)
  have a:(o.low<0 \/vars<o.low \/o.high<0 \/vars<o.high \/o.add< -1000 \/1000<o.add) ->pI 1=pI (if os.any (cR vars)then 1 else if (List.range (vars.toNat+1)).all (λv=>(jG (vars.toNat+1) os v).isSome)then 0 else 7):=λh=>by
   rw[if_pos (List.any_eq_true.2 ⟨o,JQ c,DV.2 h⟩)]
  refine vm i c ?_;refine ae (λz=>?_) (λz=>?_)
  ·exact⟨_,_,rfl,rfl,a Oo⟩
  refine ae (λm=>?_) (λm=>?_)
  ·exact⟨_,_,rfl,rfl,a Oo⟩
  refine ae (λs=>?_) (λs=>?_)
  ·exact⟨_,_,rfl,rfl,a Oo⟩
  refine ae (λF=>?_) (λF=>?_)
  ·exact⟨_,_,rfl,rfl,a Oo⟩
  refine ae (λH=>?_) (λH=>?_)
  ·exact⟨_,_,rfl,rfl,a Oo⟩
  refine ae (λI=>?_) (λI=>?_)
  ·exact⟨_,_,rfl,rfl,a Oo⟩
  refine vi ?_;refine au (i+1) ⟨Oo,λp A=>?_⟩;rw[List.take_add_one,c,Option.toList]at A;rcases List.mem_append.1 A with h|h
  ·exact r p h
  ·obtain rfl:=List.mem_singleton.1 h
   cases K:cR vars p with
   |false=>rfl
   |true=>have:=DV.1 K;omega
 rw[JG Oo]at r;have b:os.any (cR vars)=false:=by
  rw[List.any_eq_false];exact λo c=>by simp[r o c]
 rw[b];have L:=sF Oo b;refine vl τok (σ:=Nat) [(0,_),(1,_),(4,_)] (λv=>[(7,vI v)]) (λv=>v<=vars.toNat+1/\∀u,u<v ->(jG (vars.toNat+1) os u).isSome=true) (λv=>vars.toNat+1-v) 0 ⟨KV _,λu q=>absurd q Oo⟩ ?_;rintro v ⟨z,m⟩;refine ae (λs=>?_) (λs=>?_)
 ·have M:=DU (vars:=vars) (n:=vars.toNat+1) Oo Oo L Oo (low:=v) Oo
  refine af M ?_;cases j:jG (vars.toNat+1) os v with
  |none=>
   exact⟨_,_,rfl,rfl,by
    rw[if_neg OO,if_neg]
    ·rfl
    ·intro h
     have:=List.all_eq_true.1 h v (List.mem_range.2 Oo);rw[j]at this;cases this⟩
  |some d=>
   refine vi ?_;refine au (v+1) ⟨Oo,λu q=>?_⟩
   by_cases e:u=v
   ·rw[e,j];rfl
   ·exact m u Oo
 ·exact⟨_,_,rfl,rfl,by
   rw[if_neg OO,if_pos]
   ·rfl
   ·exact List.all_eq_true.2 λu q=>m u (by have:=List.mem_range.1 q;omega)⟩
theorem check_of'{vars:Int}{os:List aO}:(∃g,dZ vars os= .ok g/\gS vars os=0) \/∃n,dZ vars os= .error n/\gS vars os=n/\n≠0:=by
 have a:=Bj vars os;cases b:dZ vars os with
 |ok g=>rw[b]at a;exact .inl ⟨g,rfl,a⟩
 |error n=>
  rw[b]at a;exact .inr ⟨n,rfl,a,by rcases closedF_err b with ⟨_,h⟩|⟨_,_,h⟩|⟨_,_,_,h⟩|⟨_,_,_,h,_⟩<;>omega⟩
theorem DX{vars:Int}{os:List aO}{a b:List Atom}(W:os.length<=1000000)(ha:a.length<=1000000)(hb:b.length<=1000000):VC prog 166 [pI vars,.sl (os.map orP),cr a,cr b] (.bool (jf vars os a b)):=by
 have eA:=ak atP a;have eB:=ak atP b;have N:=DW (vars:=vars) W;have O:=qR ha vars;have P:=qR hb vars;refine vf 86 [.tmp 8] τok func166 ?_;refine af N ?_;rcases check_of' (vars:=vars) (os:=os)with ⟨g,L,X⟩|⟨n,L,X,hn⟩
 ·have A:jf vars os a b=(cF a vars && cF b vars && a.all λx=>b.any (dg g x)):=by unfold jf;rw[L]
  obtain⟨D,Y,Z,q,E⟩:=Bc L;have m:=sF Y E;refine vn ?_;refine bH O (λF=>?_) (λF=>?_)
  ·refine bH P (λM=>?_) (λM=>?_)
   ·rw[A,F,M]
    have aa:=jg F;have ab:=jg M;refine vl τok (σ:=Nat) [(0,_),(1,_),(2,_),(3,_)] (λi=>[(9,vI i)]) (λi=>i<=a.length/\∀x∈a.take i,b.any (dg g x)=true) (λi=>a.length-i) 0 ⟨KV _,Od⟩ ?_;rintro i ⟨g1,Q⟩;refine ae (λk1=>?_) (λk1=>?_)
    ·obtain⟨x,H,hd⟩:=ay (l:=a) (k:=i)
     obtain⟨x1,x2,x3,x4⟩:=aa.2 x (JQ H);have r:x.var.toNat<vars.toNat+1:=Oo
     obtain⟨d,t⟩:=Bi Oo m q D r;obtain⟨dl,dv⟩:=Hd Oo m q D r t;have ini:=qr os r;have R:=(sE m q _ 0 _ d ini.1 Oo t).1.bd;have T:=DU (vars:=vars) (n:=vars.toNat+1) Oo Oo m q r;rw[t,show ((x.var.toNat:Nat):Int)=x.var by omega]at T;refine vm i H ?_;refine af T ?_;refine vl τok (σ:=Nat) [(0,_),(1,_),(2,_),(3,_),(9,_),(10,_)] (λj=>[(12,.c (.p (.bool ((b.take j).any (dg g x))))),(13,vI j)]) (λj=>j<=b.length) (λj=>b.length-j) 0 (KV _) ?_;rintro j k2;refine ae (λk3=>?_) (λk3=>?_)
     ·obtain⟨y,I,hd⟩:=ay (l:=b) (k:=j)
      obtain⟨y1,y2,y3,y4⟩:=ab.2 y (JQ I);have K:=mX (d:=d) (v:=y.var.toNat) Oo;have u:(b.take (j+1)).any (dg g x)=((b.take j).any (dg g x)||dg g x y):=by
       rw[List.take_add_one,I,Option.toList,List.any_append];simp
      have ev:=λ(_:Unit)=>dv y.var.toNat Oo;have U:=R y.var.toNat Oo;rw[show ((x.var.toNat:Nat):Int)=x.var by omega,show ((y.var.toNat:Nat):Int)=y.var by omega]at ev;refine vm j I ?_;refine vm y.var.toNat K ?_;refine ae (λo=>?_) (λo=>?_)
      ·have U:=U.resolve_left o
       obtain⟨p,S,a0,_⟩:=(ev ()).resolve_left λh=>o h.2
       clear ev
       have s:dg g x y=decide (x.add-y.add<=p):=by unfold dg;rw[S]
       refine vm i H ?_;refine vm j I ?_;refine vm y.var.toNat K ?_;refine vm j I ?_;refine vi ?_;refine ae (λk5=>?_) (λk5=>?_)
       ·refine vk ?_
        refine vi ?_;exact au (j+1) (by show j+1<=_;omega) (x:=⟨by rw[u,s,decide_eq_true Oo,Bool.or_true];rfl,rfl,trivial⟩)
       ·refine vk ?_
        refine vi ?_;exact au (j+1) (by show j+1<=_;omega) (x:=⟨by rw[u,s,decide_eq_false Oo,Bool.or_false];rfl,rfl,trivial⟩)
      ·have s:dg g x y=false:=by
        rcases ev ()with ⟨h,_⟩|⟨p,h,h2,h3⟩
        ·unfold dg;rw[h]
        ·exact absurd h2 (by rw[show gt d y.var.toNat=non from Decidable.of_not_not o];exact λe=>h3 e.symm)
       refine vk ?_;refine vi ?_;exact au (j+1) (by show j+1<=_;omega) (x:=⟨by rw[u,s,Bool.or_false];rfl,rfl,trivial⟩)
     ·have u:(b.take j).any (dg g x)=b.any (dg g x):=by rw[JG Oo]
      refine br (λo=>?_) (λo=>?_)
      ·have o:b.any (dg g x)=false:=by rw[<- u];simpa using o
       exact⟨_,_,rfl,rfl,by
        have:(a.all λx=>b.any (dg g x))=false:=by
         rw[List.all_eq_false];exact⟨x,JQ H,by rw[o];decide⟩
        rw[this]
        rfl⟩
      ·have o:b.any (dg g x)=true:=by rw[<- u];simpa using o
       refine vi ?_;refine au (i+1) ⟨Oo,λz V=>?_⟩;rw[List.take_add_one,H,Option.toList]at V;rcases List.mem_append.1 V with h|h
       ·exact Q z h
       ·obtain rfl:=List.mem_singleton.1 h
        exact o
    ·rw[JG Oo]at Q
     exact⟨_,_,rfl,rfl,by
      have:(a.all λx=>b.any (dg g x))=true:=List.all_eq_true.2 Q;rw[this]
      rfl⟩
   ·exact⟨_,_,rfl,rfl,by rw[A,F,M];rfl⟩
  ·exact⟨_,_,rfl,rfl,by rw[A,F];rfl⟩
 ·have A:jf vars os a b=false:=by unfold jf;rw[L]
  exact vy<|⟨_,_,rfl,rfl,by rw[A];rfl⟩
theorem J5(vars:Int)(os:List aO):gS vars os=oG vars os:=by
 rw[Bj]
 rfl
def gF(l:List (Int×Int)):G:=l.foldl (λg p=>putG (putG g p.1 (-1) 1) (-1) p.2 1) λ_ _=>none
theorem DY(l:List (Int×Int))(p:Int×Int):gF (l++[p])=putG (putG (gF l) p.1 (-1) 1) (-1) p.2 1:=by
 unfold gF;rw[List.foldl_append]
 rfl
theorem J6{l:List (Int×Int)}(h:∀p∈l,0<=p.1/\1<=p.2){e d:Int}(he:0<=e)(y:1<=d):(0<(gF l e (-1)).getD 0+(gF l (-1) d).getD 0↔∃p∈l,p.1=e \/p.2=d)/\0<=(gF l e (-1)).getD 0/\0<=(gF l (-1) d).getD 0:=by
 have i:∀r:List (Int×Int),(∀p∈r,0<=p.1/\1<=p.2) ->((0<(gF r.reverse e (-1)).getD 0+(gF r.reverse (-1) d).getD 0↔∃p∈r,p.1=e \/p.2=d)/\0<=(gF r.reverse e (-1)).getD 0/\0<=(gF r.reverse (-1) d).getD 0):=by
  intro r
  induction r with
  |nil=>intro _;simp[gF]
  |cons p r s=>
   intro j;obtain⟨t,m,n⟩:=s λq a=>j q (by simp[a]);have o:=j p Od;rw[List.reverse_cons,DY];have u:putG (putG (gF r.reverse) p.1 (-1) 1) (-1) p.2 1 e (-1)=if e=p.1 then some 1 else gF r.reverse e (-1):=by
    simp only[putG];rw[if_neg Oo]
    by_cases h:e=p.1
    ·rw[if_pos ⟨h,trivial⟩,if_pos h]
    ·rw[if_neg λq=>h q.1,if_neg h]
   have v:putG (putG (gF r.reverse) p.1 (-1) 1) (-1) p.2 1 (-1) d=if d=p.2 then some 1 else gF r.reverse (-1) d:=by
    simp only[putG]
    by_cases h:d=p.2
    ·rw[if_pos ⟨trivial,h⟩,if_pos h]
    ·rw[if_neg λq=>h q.2,if_neg h,if_neg Oo]
   rw[u,v]
   by_cases c:e=p.1
   ·rw[if_pos c]
    by_cases b:d=p.2
    ·rw[if_pos b]
     exact⟨⟨λ_=>⟨p,Od,.inl c.symm⟩,λ_=>Od⟩,Od,Od⟩
    ·rw[if_neg b]
     exact⟨⟨λ_=>⟨p,Od,.inl c.symm⟩,λ_=>by simp only[Option.getD_some];omega⟩,Od,n⟩
   ·rw[if_neg c]
    by_cases b:d=p.2
    ·rw[if_pos b]
     exact⟨⟨λ_=>⟨p,Od,.inr b.symm⟩,λ_=>by simp only[Option.getD_some];omega⟩,m,Od⟩
    ·rw[if_neg b]
     refine⟨?_,m,n⟩;rw[t];constructor
     ·rintro⟨q,a,h⟩;exact⟨q,by simp[a],h⟩
     ·rintro⟨q,a,h⟩
      rcases List.mem_cons.1 a with rfl|a
      ·rcases h with h|h
       ·exact absurd h.symm c
       ·exact absurd h.symm b
      ·exact⟨q,a,h⟩
 have:=i l.reverse λp o=>h p (by simpa using o)
 simpa using this
theorem DZ{B:aq}:∀(l:List bX) (k i:Nat) (x:bX),l[i]?=some x ->jV B (l.drop i) (k+i)=bh (eS B (k+i) x) (jV B (l.drop (i+1)) (k+i+1))
 |y::r,k,0,x,h=>by
  obtain rfl:=JB h
  rfl
 |y::r,k,i+1,x,h=>by
  have:=DZ (B:=B) r (k+1) i x h;rw[show k+1+i=k+(i+1) by omega]at this;exact this
theorem J7{B:aq}{i:Nat}{x:bX}(h1:x.kind=1)(he:eS B i x=0):x.sort=[⟨2,1,1⟩,⟨3,0,0⟩]↔¬ (x.sort.length≠2 \/(x.sort.getD 0 ⟨0,0,0⟩).a≠1 \/x.sort.getD 1 ⟨0,0,0⟩≠⟨3,0,0⟩):=by
 constructor
 ·intro h
  rw[h]
  decide
 ·intro h
  unfold eS at he;rw[if_pos h1]at he;split at he
  ·cases he
  split at he
  ·cases he
  obtain⟨A,u⟩:=mP.1 he;obtain⟨u,_⟩:=mP.1 u;have F:eg x.sort=0:=by
   unfold cw at A;split at A
   ·exact absurd A (by assumption)
   ·rename_i h;exact Decidable.of_not_not h
  obtain⟨y,D,s⟩:=tk F
  match z:x.sort with
  |[]=>rw[z]at h;simp at h
  |[a]=>rw[z]at h;simp at h
  |a::b::c::r=>rw[z]at h;simp at h
  |[a,b]=>
   rw[z]at h u s;have H:b=⟨3,0,0⟩:=by
    have:¬ ([a,b].getD 1 ⟨0,0,0⟩≠⟨3,0,0⟩):=λq=>h (.inr (.inr q))
    simpa using this
   have E:a.a=1:=by
    have:¬ (([a,b].getD 0 ⟨0,0,0⟩).a≠1):=λq=>h (.inr (.inl q))
    simpa using this
   have t:a.op=2:=by
    unfold gI at u;split at u
    ·cases u
    ·rename_i q;simpa using q
   have v:a.b=1:=by
    obtain⟨n,I⟩:=y;simp only[row,List.cons.injEq]at s;obtain⟨rfl,s⟩:=s;obtain⟨K,L,O⟩:=D.ok.kids;obtain⟨M,_,_,l⟩:=eb K;rw[if_pos t]at l;have j:=tj D.ok t
    match I,s,j,l with
    |[],s,_,_=>simp[rows]at s
    |[k],s,_,l=>
     have:=db M;simp at l;omega
    |k::N::r,s,j,l=>
     obtain⟨m,rfl,_⟩:=j k Od;obtain⟨P,rfl,_⟩:=j N Od;simp[rows,row]at s
   obtain⟨o,p,q⟩:=a;simp only at E t v;subst E t v;rw[H]
theorem tB{B:aq}(I:dc B):VC prog 39 [aW B] (pI (cZ B)):=by
 have eE:=ak aQ B.ents;have eP:=ak prP B.prims;have a5:=I.e;have a6:=I.p;have K:=DW (vars:=B.vars) I.o;rw[J5]at K;refine cA 176 [.tmp 2] τok func39 ?_;refine aC τok<|aC τok<|af K ?_;refine aC τok<|ae (λQ=>?_) (λQ=>?_)
 ·exact⟨_,_,rfl,rfl,by unfold cZ;rw[if_pos Q];rfl⟩
 refine aC τok<|ae (λk2=>?_) (λk2=>?_)
 ·exact⟨_,_,rfl,rfl,by unfold cZ;rw[if_neg Q,if_pos Oo];rfl⟩
 have eF:cZ B=bh (jV B B.ents 0) (if gJ B=true then 0 else 22):=by unfold cZ;rw[if_neg Q,if_neg Oo]
 rw[eF];refine dB τok (σ:=Unit) [(1,_),(2,_)] [(1,_)] (λ_=>[]) (λ_=>[]) (λ_=>jV B B.ents 0=0/\∀(i:Nat) x,B.ents[i]?=some x ->eS B i x=0) ?_ ?_
 ·refine az τok (σ:=Nat) [(1,_),(2,_)] [(1,_)] (λi=>[(4,vI i)]) (λ_=>[]) (λi=>i<=B.ents.length/\jV B B.ents 0=jV B (B.ents.drop i) i/\∀(j:Nat) x,j<i ->B.ents[j]?=some x ->eS B j x=0) (λi=>B.ents.length-i) 0 ⟨KV _,rfl,λj x hj=>absurd hj Oo⟩ ?_
  rintro i ⟨g1,v,L⟩;refine aj τok<|ae (λg=>?_) (λg=>?_)
  ·obtain⟨x,n,hd⟩:=ay (l:=B.ents) (k:=i)
   have M:=DZ (B:=B) B.ents 0 i x n;rw[KW]at M;rw[M]at v;refine af (J0 I n) ?_;refine ae (λo=>?_) (λo=>?_)
   ·exact⟨_,_,rfl,rfl,by rw[v,lO,kK o];rfl⟩
   ·refine vi ?_
    refine au (i+1) ⟨Oo,by rw[v,jo o],λj y hj T=>?_⟩
    by_cases e:j=i
    ·subst e
     rw[n]at T;obtain rfl:=JB T;omega
    ·exact L j y Oo T
  ·rw[JY Oo]at v
   exact au () ⟨v,λj x n=>L j x (by have:=aI n;omega) n⟩
 rintro _ ⟨m1,m2⟩;rw[jo (by rw[m1];decide)];have A:gJ B=false ->pI 22=pI (if gJ B=true then 0 else 22):=λh=>by rw[h];rfl
 refine dB τok (σ:=Unit) [(1,_),(2,_)] [(1,_)] (λ_=>[]) (λ_=>[]) (λ_=>B.nat≠ -1 ->lI B B.nat=true) ?_ ?_
 ·refine ae (λU=>?_) (λU=>?_)
  ·have D:lI B B.nat=false ->pI 22=pI (if gJ B=true then 0 else 22):=λh=>A (by unfold gJ;rw[if_pos (.inl ⟨U,h⟩)])
   have u:=qP (known:=B.ents.length) (KJ _) B.nat;rw[show ((B.ents.length:Nat):Int)=((B.ents.map aQ).length:Int) by rw[eE]]at u;refine bH u (λf=>?_) (λf=>?_)
   ·have V:(0<=B.nat/\B.nat<B.ents.length/\(aP B B.nat).kind=1):=by simpa[bI]using f
    have n:=lN (B:=B) V.1;obtain⟨x,N⟩:∃x,aP B B.nat=x:=⟨_,rfl⟩
    rw[N]at n V;have W:=m2 _ x n;have hX:=I.x x (JQ n);have st:=J7 V.2.2 W;have f1:=ak (λt=>[ah t]) x.params;have f2:=ak (λt=>[ah t]) x.indices;have f3:=ak aZ x.ctors;have z1:=hX.p.1;have z2:=hX.i.1;have r:lI B B.nat=if x.sort.length≠2 \/(x.sort.getD 0 ⟨0,0,0⟩).a≠1 \/x.sort.getD 1 ⟨0,0,0⟩≠⟨3,0,0⟩ \/0<x.params.length+x.indices.length \/x.ctors.length≠2 then false
 else decide ((x.ctors.getD 0 default).args.length=0) && (decide ((x.ctors.getD 1 default).args.length=1) && (decide (((x.ctors.getD 1 default).args.getD 0 []).length=1) && decide (((x.ctors.getD 1 default).args.getD 0 []).getD 0 ⟨0,0,0⟩=⟨9,B.nat,0⟩))):=by
     unfold lI;rw[N,if_neg Oo]
    refine vm B.nat.toNat n ?_;have hs:=jX (a:=x.sort) (b:=[⟨2,1,1⟩,⟨3,0,0⟩]) (by have:=hX.s;omega) Od;refine bH hs (λs=>?_) (λs=>?_)
    ·have s:=st.1 (of_decide_eq_true s)
     refine vi ?_;refine ae (λn2=>?_) (λn2=>?_)
     ·exact⟨_,_,rfl,rfl,D (by rw[r,if_pos (.inr (.inr (.inr (.inl Oo))))])⟩
     refine ae (λn3=>?_) (λn3=>?_)
     ·exact⟨_,_,rfl,rfl,D (by rw[r,if_pos (.inr (.inr (.inr (.inr Oo))))])⟩
     rw[if_neg (by
      rintro(h|h|h|h|h)
      ·exact s (.inl h)
      ·exact s (.inr (.inl h))
      ·exact s (.inr (.inr h))
      ·omega
      ·omega)]at r
     obtain⟨R,h0⟩:∃c,x.ctors[0]?=some c:=⟨_,gE⟩
     obtain⟨E,S⟩:∃c,x.ctors[1]?=some c:=⟨_,gE⟩
     rw[show x.ctors.getD 0 default=R by rw[List.getD_eq_getElem?_getD,h0];rfl,show x.ctors.getD 1 default=E by rw[List.getD_eq_getElem?_getD,S];rfl]at r;have e0:=ak (λt=>[ah t]) R.args;have e1:=ak (λt=>[ah t]) E.args;refine vm 0 h0 ?_;refine ae (λn4=>?_) (λn4=>?_)
     ·refine vk ?_
      exact⟨_,_,rfl,rfl,D (by rw[r,decide_eq_false Oo];rfl)⟩
     refine vm 1 S ?_;refine ae (λn5=>?_) (λn5=>?_)
     ·refine vk ?_
      exact⟨_,_,rfl,rfl,D (by rw[r,decide_eq_true (show R.args.length=0 by omega),decide_eq_false (show ¬ E.args.length=1 by omega)];rfl)⟩
     obtain⟨t,X⟩:∃t,E.args[0]?=some t:=⟨_,gE⟩
     rw[show E.args.getD 0 []=t by rw[List.getD_eq_getElem?_getD,X];rfl,decide_eq_true (show R.args.length=0 by omega),decide_eq_true (show E.args.length=1 by omega)]at r;have a7:=((hX.a E (JQ S)).1.2 t (JQ X))
     have eT:(decide (t.length=1) && decide (t.getD 0 ⟨0,0,0⟩=⟨9,B.nat,0⟩))=decide (t=[⟨9,B.nat,0⟩]):=by
      rw[Bool.eq_iff_iff];simp only[Bool.and_eq_true,decide_eq_true_eq];constructor
      ·rintro⟨O,F⟩
       match t,O,F with
       |[m],_,F=>rw[show m=⟨9,B.nat,0⟩from F]
      ·rintro rfl
       exact⟨rfl,rfl⟩
     rw[Bool.true_and,Bool.true_and,eT]at r;refine vm 1 S ?_;refine vm 0 X ?_;refine bH (jX (a:=t) (b:=[⟨9,B.nat,0⟩]) Oo Od) (λY=>?_) (λY=>?_)
     ·refine vk ?_
      exact au () λ_=>by rw[r,Y]
     ·refine vk ?_
      exact⟨_,_,rfl,rfl,D (by rw[r,Y])⟩
    ·have s:=λq=>of_decide_eq_false s (st.2 q)
     exact⟨_,_,rfl,rfl,D (by
      rw[r,if_pos];rcases Decidable.of_not_not s with h|h|h
      ·exact .inl h
      ·exact .inr (.inl h)
      ·exact .inr (.inr (.inl h)))⟩
   ·exact⟨_,_,rfl,rfl,D (by
     unfold lI;rw[if_pos];have:¬ (0<=B.nat/\B.nat<B.ents.length/\(aP B B.nat).kind=1):=λq=>by
      have:bI B B.ents.length B.nat=true:=by simpa[bI]using q
      rw[f]at this;cases this
     omega)⟩
  ·exact au () λh=>absurd h U
 rintro _ m3;refine aj τok ?_;have eR:(B.nat= -1 ->B.prims.length=0) ->gJ B=lJ B B.prims (gF []):=λh=>by
  unfold gJ;rw[if_neg]
  ·rfl
  ·rintro(⟨O,F⟩|⟨O,F⟩)
   ·rw[m3 O]at F;cases F
   ·have:=h O;omega
 refine az τok (σ:=Nat) [(1,_),(2,_)] [(1,_)] (λi=>[(6,vI i)]) (λ_=>[]) (λi=>i<=B.prims.length/\(B.nat= -1 ->i=0)/\(∀p∈B.prims.take i,0<=p.1/\1<=p.2)/\lJ B B.prims (gF [])=lJ B (B.prims.drop i) (gF (B.prims.take i))) (λi=>B.prims.length-i) 0 ⟨KV _,λ_=>rfl,Od,Od⟩ ?_;rintro i ⟨g1,v,L,o⟩;refine aj τok<|ae (λg=>?_) (λg=>?_)
 ·obtain⟨p,hp,hd⟩:=ay (l:=B.prims) (k:=i)
  rw[hd]at o;simp only[lJ]at o;refine vm i hp ?_;refine ae (λq1=>?_) (λq1=>?_)
  ·exact⟨_,_,rfl,rfl,A (by unfold gJ;rw[if_pos (.inr ⟨q1,Oo⟩)])⟩
  have Z:=eR λh=>absurd h q1;have b2:(p.1<0 \/(B.ents.length:Int)<=p.1 \/(aP B p.1).kind≠2 \/p.2<1 \/3<p.2 \/0<(gF (B.prims.take i) p.1 (-1)).getD 0+(gF (B.prims.take i) (-1) p.2).getD 0) ->pI 22=pI (if gJ B=true then 0 else 22):=λh=>A (by rw[Z,o,if_pos h]);refine ae (λq2=>?_) (λq2=>?_)
  ·exact⟨_,_,rfl,rfl,b2 (.inl q2)⟩
  refine ae (λq3=>?_) (λq3=>?_)
  ·exact⟨_,_,rfl,rfl,b2 (.inr (.inl Oo))⟩
  refine ae (λq4=>?_) (λq4=>?_)
  ·exact⟨_,_,rfl,rfl,b2 (.inr (.inr (.inr (.inl q4))))⟩
  refine ae (λq5=>?_) (λq5=>?_)
  ·exact⟨_,_,rfl,rfl,b2 (.inr (.inr (.inr (.inr (.inl q5)))))⟩
  refine vm p.1.toNat (lN (B:=B) (a:=p.1) Oo) ?_;refine ae (λq6=>?_) (λq6=>?_)
  ·exact⟨_,_,rfl,rfl,b2 (.inr (.inr (.inl q6)))⟩
  obtain⟨r1,r2,r3⟩:=J6 L (e:=p.1) (d:=p.2) Oo Oo;refine az τok (σ:=Nat) [(1,_),(2,_),(6,_),(7,_)] [(1,_),(7,_)] (λj=>[(8,vI j)]) (λ_=>[]) (λj=>j<=i/\∀q∈B.prims.take j,¬ (q.1=p.1 \/q.2=p.2)) (λj=>i-j) 0 ⟨KV _,Od⟩ ?_;rintro j ⟨j1,j2⟩;refine aj τok<|ae (λq7=>?_) (λq7=>?_)
  ·obtain⟨q,H,a8⟩:=ay (l:=B.prims) (k:=j)
   have a0:q∈B.prims.take i:=by
    refine JQ (i:=j) ?_;rw[List.getElem?_take,if_pos Oo];exact H
   have b3:(q.1=p.1 \/q.2=p.2) ->pI 22=pI (if gJ B=true then 0 else 22):=λh=>b2 (.inr (.inr (.inr (.inr (.inr (r1.2 ⟨q,a0,h⟩))))));refine vm j H ?_;refine ae (λq8=>?_) (λq8=>?_)
   ·refine vk ?_
    exact⟨_,_,rfl,rfl,b3 (.inl q8)⟩
   refine vm j H ?_;refine ae (λq9=>?_) (λq9=>?_)
   ·refine vk ?_
    exact⟨_,_,rfl,rfl,b3 (.inr q9)⟩
   refine vk ?_;refine vi ?_;refine au (j+1) ⟨Oo,λz P=>?_⟩;rw[List.take_add_one,H,Option.toList]at P;rcases List.mem_append.1 P with h|h
   ·exact j2 z h
   ·obtain rfl:=List.mem_singleton.1 h
    rintro(h|h)
    ·exact q8 h
    ·exact q9 h
  ·have a3:j=i:=Oo
   subst a3;have a4:¬ 0<(gF (B.prims.take j) p.1 (-1)).getD 0+(gF (B.prims.take j) (-1) p.2).getD 0:=λh=>by
    obtain⟨q,H,hh⟩:=r1.1 h;exact j2 q H hh
   rw[if_neg (by
    rintro(h|h|h|h|h|h)
    ·exact q2 h
    ·omega
    ·exact q6 h
    ·exact q4 h
    ·exact q5 h
    ·exact a4 h)]at o
   refine vi ?_;have et:B.prims.take (j+1)=B.prims.take j++[p]:=by rw[List.take_add_one,hp];rfl
   refine au (j+1) ⟨Oo,λh=>absurd h q1,λz P=>?_,by rw[o,et,DY]⟩;rw[et]at P;rcases List.mem_append.1 P with h|h
   ·exact L z h
   ·obtain rfl:=List.mem_singleton.1 h
    omega
 ·rw[JY Oo]at o
  exact⟨_,_,rfl,rfl,by
   rw[eR λh=>by have:=v h;omega,o]
   rfl⟩
end Go.Proofs.YtjnjbghlemiklaaGreat
namespace Go.Proofs.YtjnjbghlemiklaaGreat
open Go.Wx Lv
theorem D0(g:G)(x y v:Int):VG prog 167 [.c (.row 0),.c (.p (.agg [pI x,pI y])),vI v] [(0,.ob 1 (QG g))] (.ok (.c (.p (.tup [])),[(0,.ob 1 (QG (dp g x y v)))])):=by
 have j:∀b,g x y=some b ->¬ b<v ->g=dp g x y v:=λb l o=>by
  funext a c
  by_cases e:a=x/\c=y
  ·obtain⟨rfl,rfl⟩:=e;simp[dp,putG,l,bU,o]
  ·exact(qp _ _ _ _ _ _ e).symm
 refine cI 24 [] τok func167 ?_;refine aj τok<|sH m2e ?_;cases i:g x y with
 |none=>
  have m:dp g x y v=putG g x y v:=by simp[dp,i,bU]
  rw[m];exact oz m2e<|.inl ⟨_,_,_,id,rfl,rfl,rfl,rfl,⟨rfl,trivial⟩,rfl⟩
 |some b=>
  refine ae (λl=>?_) (λl=>?_)
  ·have n:b<v:=l
   have m:dp g x y v=putG g x y v:=by simp[dp,i,bU,n]
   rw[m];exact oz m2e<|.inl ⟨_,_,_,id,rfl,rfl,rfl,rfl,⟨rfl,trivial⟩,rfl⟩
  ·rw[<- j b i l]
   exact .inl ⟨_,_,_,id,rfl,rfl,rfl,rfl,⟨rfl,trivial⟩,rfl⟩
def qS(r:Except Int G):Except (List PanicEntry) (AV×List (Nat×SE)):=match r with
 | .error n=>.ok (.c (.p (.tup [.raw (.map none),pI n])),[])
 | .ok g=>.ok (.tp [.row 0,.p (pI 0)],[(0,.ob 0 (QG g))])
theorem D1(vars:Int)(os:List aO):VG prog 120 (vals [pI vars,.sl (os.map orP)]) [] (qS (dZ vars os)):=by
 have eO:=ak orP os;generalize K:qS (dZ vars os)=N;refine cI 146 [.tmp 4,.tmp 5] τok func120 ?_;refine aj τok ?_;have u:∀n,dZ vars os= .error n ->N=qS (.error n):=λn h=>by rw[<- K,h]
 refine ae (λh1=>?_) (λh1=>?_)
 ·rw[u 1 (by unfold dZ;rw[if_pos Oo])]
  exact .inl ⟨_,_,_,id,rfl,rfl,rfl,rfl,trivial,rfl⟩
 refine ae (λh2=>?_) (λh2=>?_)
 ·rw[u 1 (by unfold dZ;rw[if_pos Oo])]
  exact .inl ⟨_,_,_,id,rfl,rfl,rfl,rfl,trivial,rfl⟩
 refine ae (λh3=>?_) (λh3=>?_)
 ·rw[u 5 (by unfold dZ;rw[if_neg Oo,if_pos Oo])]
  exact .inl ⟨_,_,_,id,rfl,rfl,rfl,rfl,trivial,rfl⟩
 obtain⟨n,hn⟩:∃n:Nat,(n:Int)=vars+1:=⟨vars.toNat+1,Oo⟩
 have a0:n<=17:=Oo
 have z:dZ vars os=match iu vars os (j8 n)with
  |none=>.error 1
  |some g=>match jc n n 0 g with
   |none=>.error 7
   |some g'=>.ok g':=by
  have e:vars.toNat+1=n:=Oo
  unfold dZ;rw[if_neg Oo,if_neg Oo,e]
  rfl
 refine pX (QG λ_ _=>none) ?_ qg0;refine vi ?_;refine az τok (σ:=Nat) [(0,_),(1,_),(6,_),(29,_)] [] (λk=>[(30,vI k)]) (λk=>[(27,.ob 0 (QG (aN (λv g=>putG (putG g v v 0) 0 v 0) k (λ_ _=>none))))]) (λk=>k<=n) (λk=>n-k) 0 (KV _) ?_;rintro k hk;refine aj τok<|ae (λh4=>?_) (λh4=>?_)
 ·refine oz m2e ?_
  refine oz m2e<|vi ?_;exact au (k+1) Oo
 obtain rfl:k=n:=Oo
 clear h4 hk
 refine az τok (σ:=Nat×G) [(0,_),(6,_),(41,_),(42,_)] [] (λx=>[(43,vI x.1)]) (λx=>[(27,.ob 0 (QG x.2))]) (λx=>x.1<=os.length/\iu vars os (j8 k)=iu vars (os.drop x.1) x.2/\ki 1000 x.2) (λx=>os.length-x.1) (0,j8 k) ⟨KV _,rfl,HH k⟩ ?_;obtain⟨n,rfl⟩:∃n,n=k:=⟨k,rfl⟩
 rintro⟨k,g⟩ ⟨hk,r,i⟩;simp only at hk r i;refine aj τok<|ae (λL=>?_) (λL=>?_)
 ·obtain⟨x,hx,hd⟩:=ay (l:=os) (k:=k)
  have j:iu vars os (j8 n)=if cR vars x then none else iu vars (os.drop (k+1)) (dp g x.low x.high x.add):=by rw[r,hd];rfl
  have s:cR vars x=true ->N=qS (.error 1):=λh=>u 1 (by rw[z,j,h];rfl);refine vm (p:=orP) k hx ?_;refine ae (λc1=>?_) (λc1=>?_)
  ·rw[s (by unfold cR;exact decide_eq_true Oo)]
   exact .inl ⟨_,_,_,id,rfl,rfl,rfl,rfl,trivial,rfl⟩
  refine ae (λc2=>?_) (λc2=>?_)
  ·rw[s (by unfold cR;exact decide_eq_true Oo)]
   exact .inl ⟨_,_,_,id,rfl,rfl,rfl,rfl,trivial,rfl⟩
  refine ae (λc3=>?_) (λc3=>?_)
  ·rw[s (by unfold cR;exact decide_eq_true Oo)]
   exact .inl ⟨_,_,_,id,rfl,rfl,rfl,rfl,trivial,rfl⟩
  refine ae (λc4=>?_) (λc4=>?_)
  ·rw[s (by unfold cR;exact decide_eq_true Oo)]
   exact .inl ⟨_,_,_,id,rfl,rfl,rfl,rfl,trivial,rfl⟩
  refine ae (λc5=>?_) (λc5=>?_)
  ·rw[s (by unfold cR;exact decide_eq_true Oo)]
   exact .inl ⟨_,_,_,id,rfl,rfl,rfl,rfl,trivial,rfl⟩
  refine ae (λc6=>?_) (λc6=>?_)
  ·rw[s (by unfold cR;exact decide_eq_true Oo)]
   exact .inl ⟨_,_,_,id,rfl,rfl,rfl,rfl,trivial,rfl⟩
  have ok:cR vars x=false:=by unfold cR;exact decide_eq_false Oo
  rw[ok]at j;refine bv (λ_=>27) (λ_=>0) (D0 g x.low x.high x.add) ?_;refine vi ?_;exact au (k+1,dp g x.low x.high x.add) ⟨by show k+1<=_;omega,j,HC i Oo Oo⟩
 have A:iu vars os (j8 n)=some g:=by rw[r,JY Oo];rfl
 rw[A]at z;simp only at z
 clear r A L hk
 refine vi ?_;refine az τok (σ:=Nat×G) [(0,_),(6,_),(88,_)] [] (λx=>[(89,vI x.1)]) (λx=>[(27,.ob 0 (QG x.2))]) (λx=>x.1<=n/\jc n n 0 g=jc n (n-x.1) x.1 x.2/\ki (pw x.1) x.2) (λx=>n-x.1) (0,g) ⟨KV _,rfl,i⟩ ?_
 clear i
 rintro⟨m,V⟩ ⟨hm,O,i⟩;simp only at hm O i;refine aj τok<|ae (λL=>?_) (λL=>?_);rotate_left
 ·obtain rfl:m=n:=by have L:¬ (m:Int)<vars+1:=L;omega
  have:jc m m 0 g=some V:=by rw[O,Nat.sub_self];rfl
  rw[show N=qS (.ok V) by rw[<- K,z,this]];exact .inr ⟨_,λ_=>27,rfl,rfl,⟨rfl,trivial⟩,rfl⟩
 have L:(m:Int)<vars+1:=L;have a1:m<n:=Oo
 obtain⟨R,a2⟩:=FS' m Oo;have hJ:=B9 R i m;refine vi ?_;refine az τok (σ:=Nat×G) [(0,_),(6,_),(88,_),(89,_),(10,_),(93,_)] [] (λx=>[(94,vI x.1)]) (λx=>[(27,.ob 0 (QG x.2))]) (λx=>x.1<=n/\x.2=aN (jF n m) x.1 V) (λx=>n-x.1) (0,V) ⟨KV _,rfl⟩ ?_;rintro⟨b,t⟩ ⟨S,D⟩;simp only at S D;refine aj τok<|ae (λT=>?_) (λT=>?_)
 ·have T:(b:Int)<vars+1:=T
  have W:J (pw m) m b 0 t:=D▸Cb (n:=n) hJ b;refine vi ?_;refine az τok (σ:=Nat×G) [(0,_),(6,_),(88,_),(89,_),(10,_),(93,_),(94,_),(11,_),(98,_)] [] (λx=>[(99,vI x.1)]) (λx=>[(27,.ob 0 (QG x.2))]) (λx=>x.1<=n/\x.2=aN (Lv.step m b) x.1 t) (λx=>n-x.1) (0,t) ⟨KV _,rfl⟩ ?_;rintro⟨a,o⟩ ⟨P,I⟩;simp only at P I;refine aj τok<|ae (λE=>?_) (λE=>?_)
  ·have E:(a:Int)<vars+1:=E
   have X:J (pw m) m b a o:=I▸Ca W a;have F:Lv.step m b a o=aN (Lv.step m b) (a+1) t:=by rw[I];rfl
   refine sH (g:=o) (x:=(b:Int)) (y:=(m:Int)) m2e<|sH (g:=o) (x:=(m:Int)) (y:=(a:Int)) m2e ?_;have c:(o b m=none \/o m a=none) ->o=aN (Lv.step m b) (a+1) t:=λh=>by
    rw[<- F];rcases step_cases m b a o with ⟨p,q,hp,hq,_⟩|e
    ·rcases h with h|h
     ·rw[h]at hp;cases hp
     ·rw[h]at hq;cases hq
    ·exact e.symm
   cases Y:o b m with
   |none=>
    refine vi ?_;exact au (a+1,o) ⟨by show a+1<=_;omega,c (.inl Y)⟩
   |some p=>
    cases Z:o m a with
    |none=>
     refine vi ?_;exact au (a+1,o) ⟨by show a+1<=_;omega,c (.inr Z)⟩
    |some q=>
     have hs:=HF X Y Z;refine vi ?_ (by simp only[Option.getD_some];omega) (by simp only[Option.getD_some];omega);refine bv (λ_=>27) (λ_=>0) (D0 o b a (p+q)) ?_;refine vi ?_;exact au (a+1,dp o b a (p+q)) ⟨by show a+1<=_;omega,by rw[<- F,Ba Y Z]⟩
  ·have E:¬ (a:Int)<vars+1:=E
   obtain rfl:a=n:=Oo
   refine vi ?_;exact au (b+1,o) ⟨by show b+1<=_;omega,by rw[I,D];rfl⟩
 have T:¬ (b:Int)<vars+1:=T;obtain rfl:b=n:=Oo
 have U:ki (pw (m+1)) t:=D▸HI R i;have H:jc b b 0 g=if iR b t then none else jc b (b-(m+1)) (m+1) t:=by
  rw[O,show b-m=(b-(m+1))+1 by omega,D];rfl
 refine vi ?_;refine az τok (σ:=Nat) [(0,_),(6,_),(88,_),(89,_),(133,_)] [(27,_)] (λk=>[(134,vI k)]) (λ_=>[]) (λk=>k<=b/\∀v,v<k ->ox t v=false) (λk=>b-k) 0 ⟨KV _,λv hv=>Oo⟩ ?_;rintro k ⟨hk,M⟩;refine aj τok<|ae (λE=>?_) (λE=>?_)
 ·have E:(k:Int)<vars+1:=E
  refine ww m2e<|ae (λh8=>?_) (λh8=>?_)
  ·have Q:iR b t=true:=by
    unfold iR;rw[List.any_eq_true];exact⟨k,List.mem_range.2 Oo,by unfold ox;exact decide_eq_true h8⟩
   rw[u 7 (by rw[z,H,Q];rfl)];exact .inl ⟨_,_,_,id,rfl,rfl,rfl,rfl,trivial,rfl⟩
  ·refine vi ?_
   refine au (k+1) ⟨by show k+1<=_;omega,λv hv=>?_⟩
   by_cases e:v=k
   ·subst e;unfold ox;exact decide_eq_false h8
   ·exact M v Oo
 ·have E:¬ (k:Int)<vars+1:=E
  obtain rfl:k=b:=Oo
  have Q:iR k t=false:=by
   unfold iR;rw[List.any_eq_false];intro v hv;simp[M v (List.mem_range.1 hv)]
  rw[Q]at H;refine vi ?_;exact au (m+1,t) ⟨by show m+1<=_;omega,H,U⟩
end Go.Proofs.YtjnjbghlemiklaaGreat
