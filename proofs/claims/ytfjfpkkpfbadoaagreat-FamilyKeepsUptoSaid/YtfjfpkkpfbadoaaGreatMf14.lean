import Derived.Test.YtfjfpkkpfbadoaaGreatMf13
set_option linter.all false
set_option maxRecDepth 100000
set_option maxHeartbeats 4000000
open Go.Proofs Go.Proofs.Tryz Cd Go.Wx Lv Tm
namespace Go.Q
def qG(p:Nd)(a:AV):Prop:=∀C ρ v,RA C ρ a v ->v=jM p
theorem A3(p:Nd):qG p (.c (.p (.agg (ndP p)))):=λC ρ v h=>by
 have h:RV C (.agg (ndP p)) v:=h;cases h with
 |agg j us e d=>
  match us,e with
  |[a,b,c],_=>
   have f:=d 0 _ _ rfl rfl;have g:=d 1 _ _ rfl rfl;have i:=d 2 _ _ rfl rfl;cases f;cases g;cases i
   rfl
theorem A5(o a b:Int):qG ⟨o,a,b⟩ (.agg [.p (pI o),.p (pI a),.p (pI b)]):=λC ρ v h=>by
 obtain⟨us,rfl,e,d⟩:=h
 match us,e with
 |[a,b,c],_=>
  have f:RV C (pI _) _:=d 0 _ _ rfl rfl;have g:RV C (pI _) _:=d 1 _ _ rfl rfl;have i:RV C (pI _) _:=d 2 _ _ rfl rfl;cases f;cases g;cases i
  rfl
theorem tk{x y:Operand}{p q:Nd}{a b:AV}{k:PV ->Prop}(ha:qG p a)(hb:qG q b)(hk:k (.bool (!decide (p=q)))):nM prog .neq 47 x y a b k:=by
 refine⟨_,λC ρ va e w c d=>?_,hk⟩;obtain rfl:=ha _ _ _ c;obtain rfl:=hb _ _ _ d;exact⟨_,.bool _,Fc x y p q w⟩
theorem A6{x y:Operand}{p q:Nd}{a b:AV}{k:PV ->Prop}(ha:qG p a)(hb:qG q b)(hk:k (.bool (decide (p=q)))):nM prog .eql 47 x y a b k:=by
 refine⟨_,λC ρ va e w c d=>?_,hk⟩;obtain rfl:=ha _ _ _ c;obtain rfl:=hb _ _ _ d;exact⟨_,.bool _,Fe _ _ p q w⟩
theorem On{B:ak}(hB:dh B)(a:Int):VC prog 115 [bk B,pI a] (.bool (mX B a)):=by
 have Z:=aq bI B.ents;generalize b:mX B a=j;unfold mX at b;refine vf 104 [.tmp 4] τok func115 ?_;refine ae (λN=>?_) (λN=>?_)
 ·rw[KX (.inl N)]at b
  exact⟨_,_,rfl,rfl,KG PV.bool b⟩
 refine ae (λm=>?_) (λm=>?_)
 ·have m:((B.ents.map bI).length:Int)<=a:=m
  rw[KX (.inr (.inl Uo))]at b;exact⟨_,_,rfl,rfl,KG PV.bool b⟩
 have m:¬ ((B.ents.map bI).length:Int)<=a:=m;obtain⟨n,rfl⟩:∃n:Nat,a=(n:Int):=⟨a.toNat,Uo⟩
 obtain⟨x,H,_⟩:=az (l:=B.ents) (k:=n);rw[rr H]at b;have hX:=hB.x x (JQ H);have R:=hX.p.1;have S:=hX.i.1;have l1:=aq ndP x.sort;have l2:=aq (λt=>[ah t]) x.params;have l3:=aq (λt=>[ah t]) x.indices;have l4:=aq bA x.ctors;refine cS n H ?_;refine ae (λd=>?_) (λd=>?_)
 ·have d:x.kind≠1:=d
  rw[KX (.inr (.inr d))]at b;exact⟨_,_,rfl,rfl,KG PV.bool b⟩
 have d:¬ x.kind≠1:=d;rw[KY Uo]at b;refine cS n H ?_;have o:∀{P:Prop} [Decidable P] {r:Bool},P ->(if P then false else r)=j ->gs' [PV.nz (.bool false)]= .bool j:=λh e=>by rw[KX h]at e;rw[<- e];rfl
 refine ae (λp=>?_) (λp=>?_)
 ·have p:((x.sort.map ndP).length:Int)≠2:=p
  exact⟨_,_,rfl,rfl,o (.inl Uo) b⟩
 have p:¬ ((x.sort.map ndP).length:Int)≠2:=p;obtain⟨L,q,_⟩:=az (l:=x.sort) (k:=0);obtain⟨M,s,_⟩:=az (l:=x.sort) (k:=1);have T:x.sort.getD 0 ⟨0,0,0⟩=L:=by rw[QK,q];rfl
 have U:x.sort.getD 1 ⟨0,0,0⟩=M:=by rw[QK,s];rfl
 rw[T,U]at b;refine aM 0 q ?_;refine ae (λf=>?_) (λf=>?_)
 ·have f:L.a≠1:=f
  exact⟨_,_,rfl,rfl,o (.inr (.inl f)) b⟩
 have f:¬ L.a≠1:=f;refine aM 1 s ?_;refine tk (A3 M) (A5 3 0 0) ?_
 by_cases I:M=⟨3,0,0⟩
 rotate_left
 ·rw[KH I]
  exact⟨_,_,rfl,rfl,o (.inr (.inr (.inl I))) b⟩
 rw[KU I];refine vi ?_;refine ae (λu=>?_) (λu=>?_)
 ·have u:(0:Int)<((x.params.map λt=>[ah t]).length:Int)+((x.indices.map λt=>[ah t]).length:Int):=u
  exact⟨_,_,rfl,rfl,o (.inr (.inr (.inr (.inl Uo)))) b⟩
 have u:¬ (0:Int)<((x.params.map λt=>[ah t]).length:Int)+((x.indices.map λt=>[ah t]).length:Int):=u;refine ae (λv=>?_) (λv=>?_)
 ·have v:((x.ctors.map bA).length:Int)≠2:=v
  exact⟨_,_,rfl,rfl,o (.inr (.inr (.inr (.inr Uo)))) b⟩
 have v:¬ ((x.ctors.map bA).length:Int)≠2:=v;rw[KY (by rintro(h|h|h|h|h)<;>first|omega|exact h I)]at b;obtain⟨K,y,_⟩:=az (l:=x.ctors) (k:=0);obtain⟨g,z,_⟩:=az (l:=x.ctors) (k:=1);have V:x.ctors.getD 0 default=K:=by rw[QK,y];rfl
 have W:x.ctors.getD 1 default=g:=by rw[QK,z];rfl
 rw[V,W]at b;have l5:=aq rP K.args;have l6:=aq rP g.args;refine ee 0 y ?_;refine ee 1 z ?_;refine vk ?_;refine ae (λA=>?_) (λA=>?_);rotate_left
 ·have A:¬ ((K.args.map rP).length:Int)=0:=A
  rw[KH Uo]at b;exact⟨_,_,rfl,rfl,KG PV.bool b⟩
 have A:((K.args.map rP).length:Int)=0:=A;rw[KU Uo,Bool.true_and]at b;refine ae (λD=>?_) (λD=>?_);rotate_left
 ·have D:¬ ((g.args.map rP).length:Int)=1:=D
  rw[KH Uo]at b;exact⟨_,_,rfl,rfl,KG PV.bool b⟩
 have D:((g.args.map rP).length:Int)=1:=D;rw[KU Uo,Bool.true_and]at b;obtain⟨i,c,_⟩:=az (l:=g.args) (k:=0);have X:g.args.getD 0 []=i:=by rw[QK,c];rfl
 rw[X]at b;have l7:=aq ndP i;refine aA 0 c ?_;refine ae (λE=>?_) (λE=>?_);rotate_left
 ·have E:¬ ((i.map ndP).length:Int)=1:=E
  rw[KH Uo]at b;exact⟨_,_,rfl,rfl,KG PV.bool b⟩
 have E:((i.map ndP).length:Int)=1:=E;rw[KU Uo,Bool.true_and]at b;obtain⟨O,F,_⟩:=az (l:=i) (k:=0);have Y:i.getD 0 ⟨0,0,0⟩=O:=by rw[QK,F];rfl
 rw[Y]at b;refine aA 0 c ?_;refine aM 0 F ?_;exact A6 (A3 O) (A5 9 n 0)<|⟨_,_,rfl,rfl,KG PV.bool b⟩
def OnG(g:G):Prop:=∀x y v,g x y=some v ->v=1
theorem OnG.bd{g:G}(h:OnG g)(x y:Int):0<=(g x y).getD 0/\(g x y).getD 0<=1:=by
 cases a:g x y with
 |none=>simp
 |some v=>have:=h x y v a;simp[this]
theorem OnG.put{g:G}(h:OnG g)(x y:Int):OnG (putG g x y 1):=λa b v c=>by
 unfold putG at c;split at c
 ·exact(JB c).symm
 ·exact h a b v c
theorem Oo{B:ak}(hB:dh B):VC prog 62 [bk B] (.bool (iv B)):=by
 have H:=aq prP B.prims;have I:=aq bI B.ents;have v:=hB.p;generalize a:iv B=d;unfold iv at a;have j:∀{P:Prop} [Decidable P] {r:Bool},P ->(if P then false else r)=d ->gs' [PV.nz (.bool false)]= .bool d:=λh e=>by rw[KX h]at e;rw[<- e];rfl
 refine cN 89 [.tmp 2] τok func62 ?_;refine aD<|dd τok (σ:=Unit) [(1,_),(2,_)] [(1,_)] (λ_=>[]) (λ_=>[]) (λ_=>mY B B.prims (λ_ _=>none)=d) ?_ ?_
 ·refine ae (λm=>?_) (λm=>?_)
  ·refine bN (On hB B.nat) (λf=>?_) (λf=>?_)
   ·refine vn ?_
    exact au () (by rwa [KY (by rintro(⟨_,h⟩|⟨h,_⟩);exact absurd (f.symm.trans h) UO;exact m h)]at a)
   ·exact⟨_,_,rfl,rfl,j (.inl ⟨m,f⟩) a⟩
  ·refine vy ?_
   refine ae (λy=>?_) (λy=>?_)
   ·exact⟨_,_,rfl,rfl,j (.inr ⟨Uo,Uo⟩) a⟩
   ·exact au () (by rwa [KY (by rintro(⟨h,_⟩|⟨_,h⟩);exact m h;omega)]at a)
 rintro _ a;refine aD<|rU (QG λ_ _=>none) ?_ qg0;refine aj<|aB τok (σ:=Nat×G) [(1,_),(3,_),(31,_),(32,_)] [(1,_)] (λq=>[(33,vI q.1)]) (λq=>[(29,.ob 0 (QG q.2))]) (λq=>q.1<=B.prims.length/\OnG q.2/\mY B (B.prims.drop q.1) q.2=d) (λq=>B.prims.length-q.1) (0,_) ⟨KV _,(λ_ _ _ h=>(by cases h):OnG λ_ _=>none),a⟩ ?_;rintro⟨i,g⟩ ⟨z,n,b⟩;simp only at z n b;refine aj<|ae (λc=>?_) (λc=>?_);rotate_left
 ·rw[JY Uo]at b
  exact⟨_,_,rfl,rfl,KG PV.bool b⟩
 obtain⟨p,A,D⟩:=az (l:=B.prims) (k:=i);rw[D]at b;simp only[mY]at b;refine vm (p:=prP) i A ?_;refine vk ?_;refine ae (λs=>?_) (λs=>?_)
 ·refine vk ?_
  exact⟨_,_,rfl,rfl,j (.inl s) b⟩
 refine ae (λE=>?_) (λE=>?_)
 ·refine vk ?_
  exact⟨_,_,rfl,rfl,j (.inr (.inl Uo)) b⟩
 refine cS p.1.toNat (iQ Uo) ?_;refine ae (λt=>?_) (λt=>?_)
 ·refine vk ?_
  exact⟨_,_,rfl,rfl,j (.inr (.inr (.inl t))) b⟩
 refine ae (λu=>?_) (λu=>?_)
 ·refine vk ?_
  exact⟨_,_,rfl,rfl,j (.inr (.inr (.inr (.inl u)))) b⟩
 refine ae (λF=>?_) (λF=>?_)
 ·refine vk ?_
  exact⟨_,_,rfl,rfl,j (.inr (.inr (.inr (.inr (.inl Uo))))) b⟩
 refine AL m2p<|AL m2p ?_;have K:=n.bd p.1 (-1);have b2:=n.bd (-1) p.2;refine vi ?_;refine ae (λo=>?_) (λo=>?_)
 ·refine vk ?_
  exact⟨_,_,rfl,rfl,j (.inr (.inr (.inr (.inr (.inr o))))) b⟩
 have o:¬ (0:Int)<(g p.1 (-1)).getD 0+(g (-1) p.2).getD 0:=o;refine vk ?_;rw[KY Uo]at b;refine qA m2p<|qA m2p<|vk ?_;refine vi ?_;exact au (i+1,putG (putG g p.1 (-1) 1) (-1) p.2 1) ⟨by show i+1<=_;omega,(n.put _ _).put _ _,b⟩
abbrev qH(B:ak)(known self:Int):PV:=.agg (o8 B++[pI known,pI self])
theorem Oq{x:Tr}(a:Wf x){n:Int}(b:I64 n):VC prog 157 [ah (row x),pI n] (.bool (ku x n)):=Lt a.ok a.len n
section
variable{B:ak}{known:Nat}{self:Int}(hk:known<=B.ents.length)
include hk
theorem Ot{a:Int}(b:0<=a):VC prog 188 [qH B known self,pI a] (.bool (bF B known a)):=by
 have d:=aq bI B.ents;refine vf 19 [.tmp 4] τok func188 ?_;refine ae (λg=>?_) (λg=>?_)
 ·refine cS a.toNat (iQ b) ?_
  refine ae (λc=>?_) (λc=>?_)
  all_goals exact⟨_,_,rfl,rfl,cy (by simp[bF,b,g,c])⟩
 ·exact⟨_,_,rfl,rfl,cy (by simp[bF,g])⟩
theorem Ou{m:Nd}(hm:aw m=true):VC prog 158 [qH B known self,qg m] (.bool (aY B known self m)):=by
 have o:=aq bI B.ents;have b:=dn hm;have d:=Ot hk (self:=self) b.2.2.1;generalize a:aY B known self m=l;unfold aY at a;refine vf 72 [.tmp 4] τok func158 ?_;refine ae (λe=>?_) (λe=>?_)
 ·rw[KX e]at a
  refine ae (λg=>?_) (λg=>?_)
  all_goals exact⟨_,_,rfl,rfl,cy (by rw[<- a];simp[g])⟩
 rw[KY e]at a;refine ae (λi=>?_) (λi=>?_)
 ·rw[KX i]at a
  refine ae (λg=>?_) (λg=>?_)
  ·refine cS m.a.toNat (iQ b.2.2.1) ?_
   refine ae (λc=>?_) (λc=>?_)
   all_goals exact⟨_,_,rfl,rfl,cy (by rw[<- a];simp[b.2.2.1,g,c])⟩
  ·exact⟨_,_,rfl,rfl,cy (by rw[<- a];simp[g])⟩
 rw[KY i]at a;refine ae (λc=>?_) (λc=>?_)
 ·rw[KX c]at a
  refine ae (λg=>?_) (λg=>?_)
  ·exact⟨_,_,rfl,rfl,cy (by rw[<- a];simp[g])⟩
  ·refine af d ?_
   exact⟨_,_,rfl,rfl,cy (by rw[<- a];simp[g])⟩
 rw[KY c]at a;refine ae (λj=>?_) (λj=>?_)
 ·rw[KX j]at a
  exact af d<|⟨_,_,rfl,rfl,cy a⟩
 rw[KY j]at a;refine ae (λk=>?_) (λk=>?_)
 ·rw[KX k]at a
  refine bN d (λf=>?_) (λf=>?_)
  ·have n:=f
   simp only[bF,Bool.and_eq_true,decide_eq_true_eq]at n;have eC:=aq bA (ax B m.a).ctors;refine cS m.a.toNat (iQ b.2.2.1) ?_;refine ae (λg=>?_) (λg=>?_)
   all_goals refine vk ?_
   all_goals exact⟨_,_,rfl,rfl,cy (by rw[<- a,f];rw[eC]at g;simp[g])⟩
  ·refine vk ?_
   exact⟨_,_,rfl,rfl,cy (by rw[<- a,f];rfl)⟩
 rw[KY k]at a;exact⟨_,_,rfl,rfl,cy a⟩
theorem G9{l:List Nd}(hl:l.length<=1000000000){below:Int}(hb:I64 below):VC prog 107 [qH B known self,ah l,pI below] (pI (dg B known self l below)):=by
 have n:=aq ndP l;generalize a:dg B known self l below=b;unfold dg at a;refine vf 30 [.tmp 6] τok func107 ?_;refine af (kN l hl) ?_;refine ae (λg=>?_) (λg=>?_)
 ·rw[KX g]at a
  exact⟨_,_,rfl,rfl,KG (PV.int .i64) a⟩
 rw[KY g]at a;obtain⟨x,c,rfl⟩:=vS (QY g);rw[iY c.ok]at a;refine bN (Oq c hb) (λf=>?_) (λf=>?_);rotate_left
 ·rw[KX f]at a
  exact⟨_,_,rfl,rfl,KG (PV.int .i64) a⟩
 rw[KY (by rw[f];decide)]at a;refine aB τok (σ:=Nat) [(3,_),(19,_),(20,_)] [(3,_)] (λi=>[(21,vI i)]) (λ_=>[]) (λi=>i<=(row x).length/\(if ((row x).drop i).any (λm=>!aY B known self m)=true then (8:Int)else 0)=b) (λi=>(row x).length-i) 0 ⟨KV _,a⟩ ?_
 clear a
 rintro i ⟨o,hr⟩;refine aj<|ae (λe=>?_) (λe=>?_);rotate_left
 ·rw[JY Uo]at hr
  exact⟨_,_,rfl,rfl,KG (PV.int .i64) hr⟩
 obtain⟨m,d,j⟩:=az (l:=row x) (k:=i);rw[j,List.any_cons]at hr;refine vm i d ?_;refine bN (Ou hk (fC' x .tm c.ok.1 m (JQ d))) (λf=>?_) (λf=>?_);rotate_left
 ·rw[KX (by rw[f];rfl)]at hr
  exact⟨_,_,rfl,rfl,KG (PV.int .i64) hr⟩
 rw[f,Bool.not_true,Bool.false_or]at hr;refine vi ?_;exact au (i+1) ⟨by show i+1<=_;omega,hr⟩
theorem tl{ls:List (List Nd)}(hl:lI ls){below step:Int}(hb:0<=below/\below<=1000000000)(o:0<=step/\step<=1):VC prog 111 [qH B known self,bG ls,pI below,pI step] (pI (bX B known self step ls below)):=by
 have r:=aq (λt=>[ah t]) ls;have f:=hl.1;generalize a:bX B known self step ls below=b;refine vf 29 [.tmp 8] τok func111 ?_;refine aB τok (σ:=Nat×Int) [(3,_),(4,_),(12,_),(13,_)] [(4,_)] (λq=>[(2,vI q.2),(14,vI q.1)]) (λ_=>[]) (λq=>q.1<=ls.length/\below<=q.2/\q.2<=below+q.1/\bX B known self step (ls.drop q.1) q.2=b) (λq=>ls.length-q.1) (0,below) ⟨KV _,Int.le_refl _,Ud,a⟩ ?_
 clear a
 rintro⟨i,x⟩ ⟨j,c,d,hr⟩;simp only at j c d hr;refine aj<|ae (λm=>?_) (λm=>?_);rotate_left
 ·rw[JY Uo]at hr
  exact⟨_,_,rfl,rfl,KG (PV.int .i64) hr⟩
 obtain⟨l,e,n⟩:=az (l:=ls) (k:=i);rw[n]at hr;simp only[bX]at hr;have s:=hl.2 l (JQ e);refine vm (p:=λt=>[ah t]) i e ?_;refine af (G9 hk (l:=l) Uo (below:=x) ⟨Uo,Uo⟩) ?_;refine ae (λg=>?_) (λg=>?_)
 ·rw[KX g]at hr
  exact⟨_,_,rfl,rfl,KG (PV.int .i64) hr⟩
 rw[KY g]at hr;refine vi ?_;refine vi ?_;exact au (i+1,x+step) ⟨by show i+1<=_;omega,Us,Us,hr⟩
theorem Ov{x:cf}(hX:qe x)(v:x.params.length<=16):VC prog 114 [qH B known self,.agg (bI x)] (pI (gC B known x x.ctors)):=by
 have m:=aq (λt=>[ah t]) x.params;have y:=aq (λt=>[ah t]) x.indices;have z:=aq bA x.ctors;have n:=hX.c;generalize a:gC B known x x.ctors=e;refine vf 55 [.tmp 4] τok func114 ?_;refine aB τok (σ:=Nat) [(2,_),(3,_),(13,_),(14,_)] [(2,_),(3,_)] (λi=>[(15,vI i)]) (λ_=>[]) (λi=>i<=x.ctors.length/\gC B known x (x.ctors.drop i)=e) (λi=>x.ctors.length-i) 0 ⟨KV _,a⟩ ?_
 clear a
 rintro i ⟨A,hr⟩;refine aj<|ae (λo=>?_) (λo=>?_);rotate_left
 ·rw[JY Uo]at hr
  exact⟨_,_,rfl,rfl,KG (PV.int .i64) hr⟩
 obtain⟨c,j,p⟩:=az (l:=x.ctors) (k:=i);rw[p]at hr;simp only[gC]at hr;obtain⟨q,r⟩:=hX.a c (JQ j);have f1:=aq (λt=>[ah t]) c.args;have f2:=aq (λt=>[ah t]) c.out;refine ee i j ?_;refine ae (λb=>?_) (λb=>?_)
 ·have b:((c.args.map λt=>[ah t]).length:Int)>16:=b
  rw[KX Uo]at hr;exact⟨_,_,rfl,rfl,KG (PV.int .i64) hr⟩
 have b:¬ ((c.args.map λt=>[ah t]).length:Int)>16:=b;rw[KY Uo]at hr;refine ae (λd=>?_) (λd=>?_)
 ·have d:((c.out.map λt=>[ah t]).length:Int)≠((x.indices.map λt=>[ah t]).length:Int):=d
  rw[KX Uo]at hr;exact⟨_,_,rfl,rfl,KG (PV.int .i64) hr⟩
 have d:¬ ((c.out.map λt=>[ah t]).length:Int)≠((x.indices.map λt=>[ah t]).length:Int):=d;rw[KY Uo]at hr;have s:=tl hk (self:=known) q (below:=((x.params.map λt=>[ah t]).length:Int)) (step:=1) ⟨Uo,Uo⟩ ⟨UO,UO⟩;have u:=tl hk (self:=known) r (below:=((x.params.map λt=>[ah t]).length:Int)+((c.args.map λt=>[ah t]).length:Int)) (step:=0) ⟨Uo,Uo⟩ ⟨UO,UO⟩;refine af s ?_;rw[<- m,<- f1]at hr;refine ae (λf=>?_) (λf=>?_)
 ·rw[KX f]at hr
  exact⟨_,_,rfl,rfl,KG (PV.int .i64) hr⟩
 rw[KY f]at hr;refine vi ?_;refine af u ?_;refine ae (λg=>?_) (λg=>?_)
 ·rw[KX g]at hr
  exact⟨_,_,rfl,rfl,KG (PV.int .i64) hr⟩
 rw[KY g]at hr;refine vi ?_;exact au (i+1) ⟨by show i+1<=_;omega,hr⟩
end
theorem Ow{l:List Nd}(b:0<l.length):VC prog 109 [ah l] (pI (iu l)):=by
 obtain⟨m,a,_⟩:=az (l:=l) (k:=0) b;unfold iu;rw[QK,a];refine vf 8 [.tmp 2] τok func109 ?_;refine vm 0 a ?_;refine ae (λg=>?_) (λg=>?_)
 ·exact aF (h3:=by rw[show ((some m).getD ⟨0,0,0⟩)=m from rfl,KX g];rfl)
 ·exact aF (h3:=by rw[show ((some m).getD ⟨0,0,0⟩)=m from rfl,KY g];rfl)
def iV':List Int ->Int
 |[]=>0
 |a::r=>bE a (iV' r)
theorem qI{P:Program}{f:FuncId}{a:List PV}{n:Int}(h:VC P f a (pI n)){w:World}{C:Mem}{vs:List Value}(hS:Sub C w)(b:db C a vs):dO P f/\Calls P f vs.toArray w (λe w'=>e= .returned (.int .i64 n)/\Kp [] w w'):=⟨h.1,(h.run.2 w C vs hS b).mono λe w' ⟨v,i,c,d,g⟩=>⟨by rw[c,fK d],g.kp⟩⟩
theorem mg{C:Mem}:db C [] []:=⟨rfl,λi x v a=>by simp at a⟩
theorem dF{C:Mem}{p:PV}{v:Value}{a:List PV}{vs:List Value}(h:RV C p v)(h2:db C a vs):db C (p::a) (v::vs):=⟨KG (· +1) h2.1,λi x u b c=>by
 cases i with
 |zero=>obtain rfl:=JB b;obtain rfl:=JB c;exact h
 |succ i=>exact h2.2 i x u b c⟩
theorem qJ{C:Mem}{a:List PV}{vs:List Value}(h:db C a vs):RV C (.agg a) (.agg vs.toArray):=.agg _ _ h.1 h.2
section
variable{C:Mem}{w:World}{B:ak}{known:Nat}{x:cf}
theorem Ox{fs:List (Nat×Array Value)}{rs:List Int}(s:rs.length=fs.length)(A:fs.length<=100){b T:Nat}(hb:Bk w.heap b (fs.map λq=>.func (.func q.1) #[] q.2) T)
  (D:∀(i:Nat) q w',fs[i]?=some q ->Kp [] w w' ->(∀j,j<i ->rs.getD j 0=0) ->dO prog q.1/\Calls prog q.1 (#[]++ #[]++q.2) w' (λe t=>e= .returned (iV (rs.getD i 0))/\Kp [] w' t)):
  CC 105 #[.slice (some ⟨b,0,none⟩) fs.length fs.length] w (λe w'=>e= .returned (iV (iV' rs))/\Kp [] w w'):=by
 refine oF func105 ?_;generalize d:iV' rs=p;refine cO (args:=[_]) 18 [.tmp 2] τok func105 ?_;refine lp τok (σ:=Nat) (λi=>[(6,.slice (some ⟨b,0,none⟩) fs.length fs.length),(7,iV (fs.length:Int)),(8,iV (i:Int))])
  (λi w'=>i<=fs.length/\Kp [] w w'/\(∀j,j<i ->rs.getD j 0=0)/\iV' (rs.drop i)=p) (λi=>fs.length-i) 0 rfl
  ⟨rfl,rfl,rfl,trivial⟩ ⟨KV _,Kp.refl _ _,λj E=>Uo,d⟩ ?_
 clear d
 rintro i u ⟨H,c,v,a⟩;refine dH (λg=>?_) (λg=>?_)
 ·have g:(i:Int)<(fs.length:Int):=g
  obtain⟨q,y,_⟩:=az (l:=fs) (k:=i);obtain⟨r,hr,F⟩:=az (l:=rs) (k:=i);rw[F]at a;have n:rs.getD i 0=r:=by rw[QK,hr];rfl
  have f:Cl u.heap b (0+i*1) (.func (.func q.1) #[] q.2):=(hb.kp c Ud).cl (by rw[Nat.mul_one,KW,JX,y];rfl);refine ix i rfl Uo<|ld (Cl.cell f) ?_;have z:=D i q u y c v;rw[n]at z;refine fZ z ?_;rintro e t ⟨rfl,o⟩;simp only[iV',bE]at a;refine dH (λm=>?_) (λm=>?_)
  ·have m:r≠0:=m
   rw[KX m]at a;subst a;exact⟨rfl,c.tr o⟩
  ·have m:¬ r≠0:=m
   rw[KY m]at a;exact i6<|⟨i+1,Uo,rfl,⟨rfl,rfl,rfl,trivial⟩,Uo,c.tr o,λj E=>by
    by_cases h:j=i
    ·subst h
     rw[n];omega
    ·exact v j Uo,a⟩
 ·have g:¬ (i:Int)<(fs.length:Int):=g
  rw[JY Uo]at a;simp only[iV']at a;subst a;exact⟨rfl,c⟩
structure Bxq(C:Mem)(w:World)(B:ak)(known:Nat)(x:cf)(b2 b3:Nat)(us es:List Value):Prop where
 lk:Bk w.heap b2 us 116
 en:Bk w.heap b3 es 43
 u:db C (o8 B++[pI known,pI (-1)]) us
 e:db C (bI x) es
 k:known<=B.ents.length
 sm:qe x
 lp:x.params.length<=16
theorem Bxq.kp{b2 b3:Nat}{us es:List Value}(h:Bxq C w B known x b2 b3 us es){w':World}(k:Kp [] w w'):Bxq C w' B known x b2 b3 us es:=⟨h.lk.kp k Ud,h.en.kp k Ud,h.u,h.e,h.k,h.sm,h.lp⟩
variable{b2 b3:Nat}{us es:List Value}(hS:Sub C w)(h:Bxq C w B known x b2 b3 us es)
include hS h
theorem Iw':CC 106 #[pt b2,pt b3] w (λe w'=>e= .returned (iV (dg B known (-1) x.sort 0))/\Kp [] w w'):=by
 refine oF func106 ?_;have p:=h.sm;have t:=p.s;obtain⟨q,r,a,b,hk,_,_⟩:=h
 match us,es,a,b with
 |[f,g,i,k,m,n,o],[v,y,z,A,D,E,F],a,b=>
 have c:∀j u,[f,g,i,k,m,n,o][j]?=some u ->Cl w.heap b2 (0+j) u:=λj u s=>by rw[KW];exact q.cl s
 refine cO (args:=[_,_]) 7 [.tmp 2] τok func106 ?_;refine jL [f,g,i,k,m,n,o] rfl c<|lb r ?_;refine fZ (qI (G9 hk (l:=x.sort) Uo (below:=0) (by constructor<;>simp)) hS (dF (qJ a) (dF (b.2 1 _ _ rfl rfl) (dF (.int _ _) mg)))) ?_;rintro e H ⟨rfl,d⟩;exact⟨rfl,d⟩
theorem Oy(d:0<x.sort.length):CC 108 #[pt b3] w (λe w'=>e= .returned (iV (iu x.sort))/\Kp [] w w'):=by
 refine oF func108 ?_;have g:=h.sm;obtain⟨i,f,c,a,hk,_,_⟩:=h
 match us,es,c,a with
 |[j,k,l,m,n,o,p],[q,r,s,t,u,v,y],c,a=>
 refine cO (args:=[_]) 5 [.tmp 1] τok func108 ?_;refine lb f ?_;refine fZ (qI (Ow d) hS (dF (a.2 1 _ _ rfl rfl) mg)) ?_;rintro e z ⟨rfl,b⟩;exact⟨rfl,b⟩
theorem Iy':CC 110 #[pt b2,pt b3] w (λe w'=>e= .returned (.int .i64 (bX B known (-1) 1 x.params 0))/\Kp [] w w'):=by
 refine oF func110 ?_;have o:=h.sm;obtain⟨p,q,a,b,hk,_,_⟩:=h
 match us,es,a,b with
 |[f,g,i,k,l,m,n],[s,t,v,y,z,A,D],a,b=>
 have c:∀j u,[f,g,i,k,l,m,n][j]?=some u ->Cl w.heap b2 (0+j) u:=λj u r=>by rw[KW];exact p.cl r
 refine cO (args:=[_,_]) 7 [.tmp 2] τok func110 ?_;refine jL [f,g,i,k,l,m,n] rfl c<|lb q ?_;refine fZ (qI (tl hk o.p (below:=0) (step:=1) Uo Uo) hS (dF (qJ a) (dF (b.2 2 _ _ rfl rfl) (dF (.int _ _) (dF (.int _ _) mg))))) ?_;rintro e E ⟨rfl,d⟩;exact⟨rfl,d⟩
theorem Oz{f T:Nat}(p:Bk w.heap f [iV (x.params.length:Int)] T):CC 112 #[pt b2,pt b3,pt f] w (λe w'=>e= .returned (iV (bX B known (-1) 1 x.indices (x.params.length:Int)))/\Kp [] w w'):=by
 refine oF func112 ?_;have q:=h.sm;have r:=h.lp;obtain⟨s,t,a,b,hk,_,_⟩:=h
 match us,es,a,b with
 |[g,i,k,l,m,n,o],[y,z,A,D,E,F,H],a,b=>
 have c:∀j u,[g,i,k,l,m,n,o][j]?=some u ->Cl w.heap b2 (0+j) u:=λj u v=>by rw[KW];exact s.cl v
 refine cO (args:=[_,_,_]) 9 [.tmp 3] τok func112 ?_;refine jL [g,i,k,l,m,n,o] rfl c<|lb t ?_;refine lb p ?_;refine fZ (qI (tl hk q.i (below:=(x.params.length:Int)) (step:=1) Uo Uo) hS (dF (qJ a) (dF (b.2 3 _ _ rfl rfl) (dF (.int _ _) (dF (.int _ _) mg))))) ?_;rintro e I ⟨rfl,d⟩;exact⟨rfl,d⟩
theorem IA':CC 113 #[pt b2,pt b3] w (λe w'=>e= .returned (iV (gC B known x x.ctors))/\Kp [] w w'):=by
 refine oF func113 ?_;have p:=h.sm;have a:=h.lp;obtain⟨q,r,b,c,hk,_,_⟩:=h
 match us,es,b,c with
 |[g,i,k,l,m,n,o],[s,t,v,y,z,A,D],b,c=>
 have d:∀j u,[g,i,k,l,m,n,o][j]?=some u ->Cl w.heap b2 (0+j) u:=λj u E=>by rw[KW];exact q.cl E
 refine cO (args:=[_,_]) 6 [.tmp 2] τok func113 ?_;refine jL [g,i,k,l,m,n,o] rfl d<|jL [s,t,v,y,z,A,D] rfl (bZ r)<|fZ (qI (Ov hk p a) hS (dF (qJ b) (dF (qJ c) mg))) ?_;rintro e F ⟨rfl,f⟩;exact⟨rfl,f⟩
end
theorem qK{C:Mem}{l:List (List PV)}{v:Value}(h:RV C (.sl l) v):∃a c,v= .slice a l.length c:=by
 cases h with
 |nil a c=>exact⟨a,c,rfl⟩
 |sl l d b o c f=>exact⟨_,c,rfl⟩
section
variable{B:ak}{known:Nat}{x:cf}(hk:known<=B.ents.length)(hX:qe x)
include hk hX
theorem Cl':VC prog 61 [qH B known (-1),.agg (bI x)] (pI (fN B known x)):=.of ⟨⟨_,func61,rfl,UO⟩,λw C vs hS hV=>by
 suffices H:Calls prog 61 vs.toArray w (λe R=>e= .returned (.int .i64 (fN B known x))/\Kp [] w R)from H.mono λe R ⟨e1,k⟩=>⟨_,C,e1,.int _ _,hS.tr k,λ_ _ _ h=>h,λb o v h=>.inl ⟨o,v,h⟩,k⟩
 obtain⟨lv,ev,rfl,g1,g⟩:=zk hV;generalize c:fN B known x=F;unfold fN at c;cases g1 with|agg _ us ul uh=>
 cases g with|agg _ es el eh=>
 have hu:db C (o8 B++[pI known,pI (-1)]) us:=⟨ul,uh⟩
 have m:db C (bI x) es:=⟨el,eh⟩
 clear ul uh el eh
 match us,es,hu,m with
 |[u0,u1,u2,u3,u4,u5,u6],[e0,e1,e2,e3,e4,e5,e6],hu,m=>
 obtain rfl:=fK (m.2 0 _ _ rfl rfl);obtain⟨T,U,r1⟩:=qK (m.2 1 _ _ rfl rfl);obtain⟨ap,cp,r2⟩:=qK (m.2 2 _ _ rfl rfl);obtain⟨ai,ci,r3⟩:=qK (m.2 3 _ _ rfl rfl);obtain⟨ac,cc,r4⟩:=qK (m.2 4 _ _ rfl rfl);obtain⟨n,p,r5⟩:=qK (m.2 5 _ _ rfl rfl);obtain⟨V,W,r6⟩:=qK (m.2 6 _ _ rfl rfl);rw[KF]at r1 r2 r3 r4 r5 r6;subst r1 r2 r3 r4 r5 r6;have l1:=hX.s;have l2:=hX.p.1;have l3:=hX.i.1;have l4:=hX.c;have l5:=hX.t;have l6:=hX.b;refine cO (args:=[_,_]) 69 [.tmp 4] τok func61 ?_;refine fD λb2 w1 a' S b0 a4=>?_;have S:Bk w1.heap b2 [u0,u1,u2,u3,u4,u5,u6] 116:=S;refine fD λb3 w2 b1 f b4 X=>?_;have f:Bk w2.heap b3 [.int .i64 x.kind,.slice T x.sort.length U,.slice ap x.params.length cp,.slice ai x.indices.length ci,.slice ac x.ctors.length cc,.slice n x.type.length p,.slice V x.body.length W] 43:=f;have S:=S.kp X Ud;have d:=a4.tr X;refine lb f ?_;refine dH (λI=>?_) (λI=>?_)
 ·have I:x.kind=1:=I
  rw[KX I]at c;refine lb f ?_;refine lb f ?_;refine i6 ?_;refine dH (λg=>?_) (λg=>?_)
  ·have g:(0:Int)<(x.type.length:Int)+(x.body.length:Int):=g
   rw[KX Uo]at c;subst c;exact⟨rfl,d⟩
  have g:¬ (0:Int)<(x.type.length:Int)+(x.body.length:Int):=g;rw[KY Uo]at c;have K:∀{R},Kp [] w R ->F=5 ->Ending.returned (Go.Wx.one [.int .i64 5])= .returned (.int .i64 F)/\Kp [] w R:=λk h=>by subst h;exact⟨rfl,k⟩
  refine lb f ?_;refine dH (λr=>?_) (λr=>?_)
  ·have r:(16:Int)<(x.params.length:Int):=r
   rw[KX (.inl Uo)]at c;exact K d c.symm
  have r:¬ (16:Int)<(x.params.length:Int):=r;refine lb f ?_;refine dH (λY=>?_) (λY=>?_)
  ·have Y:(16:Int)<(x.indices.length:Int):=Y
   rw[KX (.inr (.inl Uo))]at c;exact K d c.symm
  have Y:¬ (16:Int)<(x.indices.length:Int):=Y;refine lb f ?_;refine dH (λZ=>?_) (λZ=>?_)
  ·have Z:(16:Int)<(x.ctors.length:Int):=Z
   rw[KX (.inr (.inr Uo))]at c;exact K d c.symm
  have Z:¬ (16:Int)<(x.ctors.length:Int):=Z;rw[KY Uo]at c;refine lb f ?_;refine fD λE w3 a0 D a5 L=>?_;refine st (b:=E) (o:=0) D Ud rfl λw4 D b7 M=>?_;have D:Bk w4.heap E [.int .i64 (x.params.length:Int)] 3:=D;have a6:=L.newSt a0 M;refine fill [.func (.func 106) #[] #[pt b2,pt b3],.func (.func 108) #[] #[pt b3],.func (.func 110) #[] #[pt b2,pt b3],.func (.func 112) #[] #[pt b2,pt b3,pt E],.func (.func 113) #[] #[pt b2,pt b3]] rfl<|fD λb6 w5 b8 h6 b9 a1=>?_;have N:=a6.tr a1;have a2:=d.tr N;have D:=D.kp a1 Ud;have a7:Bxq C w5 B known x b2 b3 [u0,u1,u2,u3,u4,u5,u6] [.int .i64 x.kind,.slice T x.sort.length U,.slice ap x.params.length cp,.slice ai x.indices.length ci,.slice ac x.ctors.length cc,.slice n x.type.length p,.slice V x.body.length W]:=⟨S.kp N Ud,f.kp N Ud,hu,m,hk,hX,Uo⟩
  have a8:=Ox (w:=w5) (fs:=[(106,#[pt b2,pt b3]),(108,#[pt b3]),(110,#[pt b2,pt b3]),(112,#[pt b2,pt b3,pt E]),(113,#[pt b2,pt b3])])
   (rs:=[dg B known (-1) x.sort 0,iu x.sort,bX B known (-1) 1 x.params 0,bX B known (-1) 1 x.indices (x.params.length:Int),gC B known x x.ctors]) rfl Ud h6 (λi q R hq O hz=>by
    have s:=(hS.tr a2).tr O;have t:=a7.kp O
    match i,hq with
    |0,rfl=>exact Iw' s t
    |1,rfl=>
     refine Oy s t ?_;rw[(z6 Uo (hz 0 Uo)).1];exact aR _
    |2,rfl=>exact Iy' s t
    |3,rfl=>exact Oz s t (D.kp O Ud)
    |4,rfl=>exact IA' s t)
  refine fZ a8 ?_;rintro e w6 ⟨rfl,a9⟩;have:iV' [dg B known (-1) x.sort 0,iu x.sort,bX B known (-1) 1 x.params 0,bX B known (-1) 1 x.indices (x.params.length:Int),gC B known x x.ctors]=F:=by
   rw[<- c];have e:∀a,bE a 0=a:=λa=>by unfold bE;split<;>omega
   simp only[iV',e]
  rw[this];exact⟨rfl,a2.tr a9⟩
 have I:¬ x.kind=1:=I;rw[KY I]at c;refine dH (λg=>?_) (λg=>?_)
 ·have g:x.kind=2:=g
  rw[KX g]at c;refine lb f ?_;refine lb f ?_;refine i6 ?_;refine lb f ?_;refine i6 ?_;refine lb f ?_;refine i6 ?_;refine dH (λr=>?_) (λr=>?_)
  ·have r:(0:Int)<(x.sort.length:Int)+(x.params.length:Int)+(x.indices.length:Int)+(x.ctors.length:Int):=r
   rw[KX Uo]at c;subst c;exact⟨rfl,d⟩
  have r:¬ (0:Int)<(x.sort.length:Int)+(x.params.length:Int)+(x.indices.length:Int)+(x.ctors.length:Int):=r;rw[KY Uo]at c;refine jL [u0,u1,u2,u3,u4,u5,u6] rfl (bZ S)<|lb f ?_;refine lb f ?_;refine fill [.slice n x.type.length p,.slice V x.body.length W] rfl<|fD λE w3 a0 D a5 L=>?_;have a3:=d.tr L;have A:∀j u,[Value.slice n x.type.length p,.slice V x.body.length W][j]?=some u ->Cn C w w3 E (0+j) u:=λj u hj=>by
   refine .inr ⟨by have:=d.size;omega,?_⟩;rw[KW];exact D.cu hj
  have P:RV (Cn C w w3) (bG [x.type,x.body]) (.slice (some ⟨E,0,none⟩) 2 2):=by
   refine .sl _ 1 E 0 2 (λi _=>[Value.slice n x.type.length p,.slice V x.body.length W].getD i undef) (λy hy=>by simp[bG]at hy;rcases hy with rfl|rfl<;>rfl) (KJ 2) (λi j y z hy hz=>?_) λi j y z hy hz=>?_
   all_goals match i,j,hy,hz with
    |0,0,rfl,rfl=>first|exact A 0 _ rfl|exact(m.2 5 _ _ rfl rfl).mono λ_ _ _ h=>.inl h
    |1,0,rfl,rfl=>first|exact A 1 _ rfl|exact(m.2 6 _ _ rfl rfl).mono λ_ _ _ h=>.inl h
  refine fZ (qI (tl (B:=B) hk (ls:=[x.type,x.body]) (self:=-1) (below:=0) (step:=0) ⟨Ud,λl hl=>by simp at hl;rcases hl with rfl|rfl;exact hX.t;exact hX.b⟩ Uo Uo) (Cn.sub hS a3) (dF ((qJ hu).mono λ_ _ _ h=>.inl h) (dF P (dF (.int _ _) (dF (.int _ _) mg))))) ?_;rintro e w4 ⟨rfl,M⟩;subst c;exact⟨rfl,a3.tr M⟩
 have g:¬ x.kind=2:=g;rw[KY g]at c;subst c;exact⟨rfl,d⟩⟩
end
section
variable{B:ak}(hB:dh B)
include hB
theorem Cm':VC prog 33 [bk B] (pI (cP B)):=by
 have p:=aq bI B.ents;have j:=hB.e;generalize a:cP B=c;unfold cP at a;refine vf 39 [.tmp 2] τok func33 ?_;refine af NG ?_;refine ae (λg=>?_) (λg=>?_)
 ·rw[KX g]at a
  exact⟨_,_,rfl,rfl,KG (PV.int .i64) a⟩
 rw[KY g]at a;refine ae (λm=>?_) (λm=>?_)
 ·rw[KX Uo]at a
  exact⟨_,_,rfl,rfl,KG (PV.int .i64) a⟩
 rw[KY Uo]at a;refine aB τok (σ:=Nat) [(1,_),(20,_),(21,_)] [(1,_)] (λi=>[(22,vI i)]) (λ_=>[]) (λi=>i<=B.ents.length/\bE (kU B (B.ents.drop i) i) (if iv B=true then 0 else 22)=c) (λi=>B.ents.length-i) 0 ⟨KV _,a⟩ ?_
 clear a
 rintro i ⟨q,b⟩;refine aj<|ae (λn=>?_) (λn=>?_);rotate_left
 ·rw[JY Uo]at b
  have b:(if iv B=true then 0 else 22)=c:=b;refine bN (Oo hB) (λf=>?_) (λf=>?_)
  ·rw[KX f]at b
   exact⟨_,_,rfl,rfl,KG (PV.int .i64) b⟩
  ·rw[KY (by rw[f];decide)]at b
   exact⟨_,_,rfl,rfl,KG (PV.int .i64) b⟩
 obtain⟨x,e,o⟩:=az (l:=B.ents) (k:=i);rw[o]at b;have b:bE (bE (fN B i x) (kU B (B.ents.drop (i+1)) (i+1))) _=c:=b;rw[qz]at b;refine cS i e ?_;refine af (Cl' (known:=i) Uo (hB.x x (JQ e))) ?_;refine ae (λd=>?_) (λd=>?_)
 ·rw[ov d]at b
  exact⟨_,_,rfl,rfl,KG (PV.int .i64) b⟩
 rw[lY d]at b;refine vi ?_;exact au (i+1) ⟨by show i+1<=_;omega,b⟩
end
theorem qL{P:Program}{f:FuncId}{a:List PV}{r r':PV}(h:VC P f a r)(e:r=r'):VC P f a r':=e▸h
def jH{α:Type}(p:α ->Bool):List α ->Int ->Int
 |[],_=>-1
 |x::r,i=>if p x then i else jH p r (i+1)
theorem Ha{α:Type}(p:α ->Bool):∀(l:List α) (i:Int),0<=i ->(0<=jH p l i↔l.any p=true)
 |[],i,_=>by simp[jH]
 |x::r,i,h=>by
  have b:=Ha p r (i+1) Uo;simp only[jH,List.any_cons,Bool.or_eq_true]
  by_cases a:p x=true
  ·simp[a,h]
  ·simp[a,b]
theorem Hc{α:Type}(p:α ->Bool)(l:List α)(i:Int)(h:0<=i):(decide (0<=jH p l i)=l.any p):=by
 have:=Ha p l i h;cases a:l.any p with
 |true=>exact KU (this.2 a)
 |false=>exact KH λq=>by rw[this.1 q]at a;cases a
def oz(e:Int)(m:Nd):Bool:=decide (m.op=9/\m.a=e)
def j9(e:Int):List (Nat×SE):=[(0,.st 1 3 [.p (pI e)])]
theorem OA(e:Int)(m:Nd):VG prog 39 [.c (.p (.agg (ndP m))),.c (.ptr 0 0)] (j9 e) (.ok (.c (.p (.bool (oz e m))),j9 e)):=by
 unfold oz;refine cQ 13 [.tmp 3] τok func39 ?_;refine aj<|ae (λg=>?_) (λg=>?_)
 ·have g:m.op=9:=g
  refine ae (λa=>?_) (λa=>?_)
  ·have a:m.a=e:=a
   exact .inl ⟨_,_,_,id,rfl,rfl,rfl,cy (KU ⟨g,a⟩).symm,⟨rfl,trivial⟩,rfl⟩
  ·have a:¬ m.a=e:=a
   exact .inl ⟨_,_,_,id,rfl,rfl,rfl,cy (KH λq=>a q.2).symm,⟨rfl,trivial⟩,rfl⟩
 ·have g:¬ m.op=9:=g
  exact .inl ⟨_,_,_,id,rfl,rfl,rfl,cy (KH λq=>g q.1).symm,⟨rfl,trivial⟩,rfl⟩
theorem OB(e:Int)(l:List Nd)(hl:l.length<=1000000):VG prog 69 [.c (.p (.sl (l.map ndP))),.c (.fn 39 [0])] (j9 e) (.ok (.c (.p (pI (jH (oz e) l 0))),j9 e)):=by
 have m:=aq ndP l;generalize a:jH (oz e) l 0=d;refine cQ 19 [.tmp 4] τok func69 ?_;refine aj<|aB τok (σ:=Nat) [(0,_),(1,_),(6,_),(7,_)] [(0,_)] (λk=>[(8,vI k)]) (λ_=>[]) (λk=>k<=l.length/\jH (oz e) (l.drop k) k=d) (λk=>l.length-k) 0 ⟨KV _,a⟩ ?_;rintro k ⟨hk,hr⟩;refine aj<|ae (λi=>?_) (λi=>?_);rotate_left
 ·rw[JY Uo]at hr
  exact .inl ⟨_,_,_,id,rfl,rfl,rfl,KG (PV.int .i64) hr,⟨rfl,trivial⟩,rfl⟩
 obtain⟨y,f,j⟩:=az (l:=l) (k:=k);rw[j]at hr;simp only[jH]at hr;have b:=OA e y;refine aM k f ?_;cases g:oz e y with
 |true=>
  rw[g]at b hr;refine aZ id (λk=>k+1) b ?_;exact .inl ⟨_,_,_,id,rfl,rfl,rfl,KG (PV.int .i64) hr,⟨rfl,trivial⟩,rfl⟩
 |false=>
  rw[g]at b hr;refine aZ id (λk=>k+1) b ?_;refine vi ?_;exact au (k+1) ⟨Uo,hr⟩
theorem OC(e:Int)(l:List Nd)(hl:l.length<=1000000):VG prog 38 [.c (.p (.sl (l.map ndP))),.c (.fn 39 [0])] (j9 e) (.ok (.c (.p (.bool (l.any (oz e)))),j9 e)):=by
 refine cQ 9 [.tmp 4] τok func38 ?_;refine aj<|aZ id (λk=>k+1) (OB e l hl) ?_;rw[<- Hc (oz e) l 0 UO];refine ae (λh=>?_) (λh=>?_)
 ·exact .inl ⟨_,_,_,id,rfl,rfl,rfl,cy (KU h).symm,⟨rfl,trivial⟩,rfl⟩
 ·exact .inl ⟨_,_,_,id,rfl,rfl,rfl,cy (KH h).symm,⟨rfl,trivial⟩,rfl⟩
theorem tn(l:List Nd)(hl:l.length<=1000000)(e:Int):VC prog 20 [ah l,pI e] (.bool (bL l e)):=by
 refine vf 8 [.tmp 4] τok func20 ?_;refine aZ (λ_=>3) (λ_=>0) (OC e l hl) ?_;exact aF
theorem Hd{B:ak}(hB:dh B)(e:Int):VC prog 16 [bk B,pI e] (pI (jk B e)):=by
 have i:=aq bI B.ents;generalize a:jk B e=g;unfold jk at a;refine vf 29 [.tmp 4] τok func16 ?_;refine af (Cm' hB) ?_;refine ae (λc=>?_) (λc=>?_)
 ·rw[KX c]at a
  subst a;exact aF
 rw[KY c]at a;refine ae (λb=>?_) (λb=>?_)
 ·rw[KX b]at a
  subst a;exact aF
 rw[KY b]at a;have b:¬ e<0:=b;refine ae (λd=>?_) (λd=>?_)
 ·rw[KX Uo]at a
  subst a;exact aF
 have d:¬ ((B.ents.map bI).length:Int)<=e:=d;rw[KY Uo]at a;refine cS e.toNat (iQ Uo) ?_;refine ae (λf=>?_) (λf=>?_)
 ·rw[KX f]at a
  subst a;exact aF
 ·rw[KY f]at a
  subst a;exact aF
theorem He{B:ak}(hB:dh B){e:Int}(he:0<=e/\e<B.ents.length){Q:Nd ->Prop}{N:Int}{x:Tr}(R:Ft Q N x){ar:Int}(K:0<=ar/\ar<=1000)(hnp:(ax B e).params.length<=16/\(ax B e).indices.length<=16):
  VC prog 17 [bk B,pI e,ah (row x),pI ar] (.bool (fV (ax B e).params.length (ax B e).indices.length e x ar)):=by
 have X:=R.len;generalize d:fV (ax B e).params.length (ax B e).indices.length e x ar=s;unfold fV at d;have eP:=aq (λt:List Nd=>[ah t]) (ax B e).params;have eI:=aq (λt:List Nd=>[ah t]) (ax B e).indices;refine vf 98 [.tmp 8] τok func17 ?_;refine af (tn (row x) Uo e) ?_;cases v:bL (row x) e with
 |false=>
  rw[KX v]at d;subst d;exact aF
 |true=>
 rw[KY (by simp[v])]at d;refine cS e.toNat (iQ he.1 he.2) ?_;refine aB τok (σ:=Tr×Int) [(1,_),(9,_)] [(9,_)] (λq=>[(2,.c (.p (ah (row q.1)))),(3,vI q.2)]) (λ_=>[]) (λq=>Wf q.1/\0<=q.2/\q.2+(row q.1).length<=1000+4096/\∃g,(row q.1).length<=g/\qE (ax B e).params.length (ax B e).indices.length e g q.1 q.2=s) (λq=>(row q.1).length) (x,ar)
  ⟨aC R,K.1,Us,_,KJ _,d⟩ ?_
 clear d
 rintro⟨y,F⟩ ⟨m,L,M,g,Y,hr⟩;simp only at m L M Y hr;have Z:=m.len;have a0:=aR y;obtain⟨g,rfl⟩:∃g',g=g'+1:=⟨g-1,Uo⟩
 simp only[qE]at hr;refine aj<|aM 0 (aN m) ?_;refine ae (λo=>?_) (λo=>?_)
 ·have o:y.n.op=4:=o
  rw[KX o]at hr;obtain⟨r1,r2,r3,A⟩:=nW m.ok (.inl o);obtain⟨_,w0,w1,l0,l1⟩:=gm m (.inl o);have eY:=aq ndP (row y);have S:∀z∈(row y).map ndP,z.length=3:=cT (row y);have T:(row y).length=1+(row (kidD y 0)).length+(row (kidD y 1)).length:=by rw[r2];simp;omega
  refine af (sE (t:=row y) (a:=[y.n]) Uo r1 A) ?_;refine bO 1 (1+(row (kidD y 0)).length) ?_ S;rw[show (((row y).map ndP).take (1+(row (kidD y 0)).length)).drop 1=(row (kidD y 0)).map ndP by rw[<- List.map_take,<- List.map_drop,r1,List.take_append,List.take_append];simp];refine af (tn (row (kidD y 0)) Uo e) ?_;cases r:bL (row (kidD y 0)) e with
  |true=>
   rw[KX r]at hr;subst hr;exact aF
  |false=>
   rw[KY (by simp[r])]at hr;refine bO (1+(row (kidD y 0)).length) ((row y).map ndP).length ?_ S (h2:=rfl) (h3:=Uo) (h4:=KJ _);rw[show (((row y).map ndP).take ((row y).map ndP).length).drop (1+(row (kidD y 0)).length)=(row (kidD y 1)).map ndP by rw[JG (KJ _),<- List.map_drop,r1,<- List.append_assoc,List.drop_left' Uk]];refine vi ?_;exact au (kidD y 1,F+1) ⟨w1,Us,Us,g,Us,hr⟩
 have o:¬ y.n.op=4:=o;rw[KY o]at hr;unfold wE at hr;have hh:=gN' _ y (KJ _) m.ok;have U:=(nc _ m (KJ _)).1.1;have wa:=(nc _ m (KJ _)).2;have eH:=aq ndP (row (headT y));have eA:=aq (λt:List Nd=>[ah t]) ((argsT y).map row);have a1:=aq row (argsT y);have f:(row (headT y)≠[⟨9,e,0⟩] \/(argsT y).length≠(ax B e).params.length+(ax B e).indices.length) ->s=false:=λh=>by rw[KX h]at hr;exact hr.symm
 refine af (E0 m.ok m.len) ?_;refine ae (λu=>?_) (λu=>?_)
 ·have u:(((row (headT y)).map ndP).length:Int)≠1:=u
  rw[f (.inl λh=>u (by have:=KG List.length h;simp only[JV,JU]at this;omega))];exact aF
 have u:¬ (((row (headT y)).map ndP).length:Int)≠1:=u;have j:row (headT y)=[(headT y).n]:=by
  obtain⟨b,hb⟩:=List.length_eq_one_iff.1 (show (row (headT y)).length=1 by omega);have:=aN U;rw[hb]at this ⊢;obtain rfl:b=(headT y).n:=by simpa using this
  rfl
 refine aM 0 (aN U) ?_;refine tk (A3 _) (A5 9 e 0) ?_
 by_cases H:(headT y).n=⟨9,e,0⟩
 rotate_left
 ·rw[KH H]
  rw[f (.inl λh=>H (by rw[j]at h;injection h))];exact aF
 rw[KU H];refine vi ?_;refine ae (λD=>?_) (λD=>?_)
 ·have D:((((argsT y).map row).map λt=>[ah t]).length:Int)≠(((ax B e).params.map λt=>[ah t]).length:Int)+(((ax B e).indices.map λt=>[ah t]).length:Int):=D
  rw[f (.inr Uo)];exact aF
 have D:¬ ((((argsT y).map row).map λt=>[ah t]).length:Int)≠(((ax B e).params.map λt=>[ah t]).length:Int)+(((ax B e).indices.map λt=>[ah t]).length:Int):=D;rw[KY (by rw[j,H];intro q;rcases q with q|q;exact q rfl;omega)]at hr
 clear f
 refine aB τok (σ:=Nat) [(1,_),(3,_),(9,_),(69,_),(70,_)] [(9,_)] (λi=>[(71,vI i)]) (λ_=>[]) (λi=>i<=(argsT y).length/\me e F (ax B e).params.length ((argsT y).drop i) i=s) (λi=>(argsT y).length-i) 0 ⟨KV _,hr⟩ ?_
 clear hr
 rintro i ⟨hi,hr⟩;refine aj<|ae (λc=>?_) (λc=>?_);rotate_left
 ·rw[JY Uo]at hr
  subst hr;exact aF
 obtain⟨z,V,hd⟩:=az (l:=argsT y) (k:=i);have O:=wa z (JQ V);have P:=O.1.len;rw[hd]at hr;simp only[me]at hr;refine vm (p:=λt:List Nd=>[ah t]) i (x:=row z) (by rw[JX,V];rfl) ?_;have W:=tn (row z) Uo e;refine ae (λE=>?_) (λE=>?_)
 ·have E:(i:Int)<(((ax B e).params.map λt=>[ah t]).length:Int):=E
  refine vi ?_;refine vi ?_;refine af (GA (a:=row z) (b:=[⟨1,F-1-(i:Int),0⟩]) P Ud) ?_
  by_cases I:row z=[⟨1,F-1-(i:Int),0⟩]
  rotate_left
  ·rw[KH I]
   rw[KX (.inl ⟨Uo,I⟩)]at hr;subst hr;exact aF
  rw[KU I];refine af W ?_;cases r:bL (row z) e with
  |true=>
   rw[KX (.inr r)]at hr;subst hr;exact aF
  |false=>
   rw[KY (by rw[r];rintro(q|q);exact q.2 I;cases q)]at hr;refine vi ?_;exact au (i+1) ⟨Uo,hr⟩
 ·have E:¬ (i:Int)<(((ax B e).params.map λt=>[ah t]).length:Int):=E
  refine af W ?_;cases r:bL (row z) e with
  |true=>
   rw[KX (.inr r)]at hr;subst hr;exact aF
  |false=>
   rw[KY (by rw[r];rintro(q|q);omega;cases q)]at hr;refine vi ?_;exact au (i+1) ⟨Uo,hr⟩
def nk(e:Int)(t:List Nd):Bool:=bL t e
theorem OD(e:Int)(t:List Nd)(a:t.length<=1000000):VG prog 19 [.c (.p (ah t)),.c (.ptr 0 0)] (j9 e) (.ok (.c (.p (.bool (nk e t))),j9 e)):=by
 refine cQ 7 [.tmp 3] τok func19 ?_;refine aj<|af (tn t a e) ?_;exact dA
theorem OE(e:Int)(l:List (List Nd))(hl:l.length<=1000000/\∀y∈l,y.length<=1000000):VG prog 37 [.c (.p (.sl (l.map rP))),.c (.fn 19 [0])] (j9 e) (.ok (.c (.p (pI (jH (nk e) l 0))),j9 e)):=by
 have m:=aq rP l;generalize a:jH (nk e) l 0=f;refine cQ 19 [.tmp 4] τok func37 ?_;refine aj<|aB τok (σ:=Nat) [(0,_),(1,_),(6,_),(7,_)] [(0,_)] (λk=>[(8,vI k)]) (λ_=>[]) (λk=>k<=l.length/\jH (nk e) (l.drop k) k=f) (λk=>l.length-k) 0 ⟨KV _,a⟩ ?_;rintro k ⟨hk,hr⟩;refine aj<|ae (λi=>?_) (λi=>?_);rotate_left
 ·rw[JY Uo]at hr
  exact .inl ⟨_,_,_,id,rfl,rfl,rfl,KG (PV.int .i64) hr,⟨rfl,trivial⟩,rfl⟩
 obtain⟨y,b,j⟩:=az (l:=l) (k:=k);rw[j]at hr;simp only[jH]at hr;have d:=OD e y (hl.2 y (JQ b));refine aA k b ?_;cases g:nk e y with
 |true=>
  rw[g]at d hr;refine aZ id (λk=>k+1) d ?_;exact .inl ⟨_,_,_,id,rfl,rfl,rfl,KG (PV.int .i64) hr,⟨rfl,trivial⟩,rfl⟩
 |false=>
  rw[g]at d hr;refine aZ id (λk=>k+1) d ?_;refine vi ?_;exact au (k+1) ⟨Uo,hr⟩
theorem OF(e:Int)(l:List (List Nd))(hl:l.length<=1000000/\∀y∈l,y.length<=1000000):VG prog 18 [.c (.p (.sl (l.map rP))),.c (.fn 19 [0])] (j9 e) (.ok (.c (.p (.bool (l.any (nk e)))),j9 e)):=by
 refine cQ 9 [.tmp 4] τok func18 ?_;refine aj<|aZ id (λk=>k+1) (OE e l hl) ?_;rw[<- Hc (nk e) l 0 UO];refine ae (λh=>?_) (λh=>?_)
 ·exact .inl ⟨_,_,_,id,rfl,rfl,rfl,cy (KU h).symm,⟨rfl,trivial⟩,rfl⟩
 ·exact .inl ⟨_,_,_,id,rfl,rfl,rfl,cy (KH h).symm,⟨rfl,trivial⟩,rfl⟩
def ka(B:ak)(e:Int):Bool×Int:=if jk B e≠0 then (false,jk B e)else (AZ B e,0)
theorem A7{B:ak}(hS:dh B)(e:Int):VC prog 7 [bk B,pI e] (.tup [.bool (ka B e).1,pI (ka B e).2]):=by
 generalize a:ka B e=p;unfold ka at a;refine vf 54 [.tmp 4,.tmp 5] τok func7 ?_;refine af (Hd hS e) ?_;refine ae (λm=>?_) (λm=>?_)
 ·rw[KX m]at a
  subst a;exact aF
 rw[KY m]at a;have m:jk B e=0:=Decidable.not_not.1 m;obtain⟨Z,hB,F,H,hx,s,ps,qi,n⟩:=wF m;have M:=n.lc;have N:=n.lp;have O:=n.li;have lp:=KG List.length n.params;have P:=KG List.length n.indices;rw[KF]at lp P;have eC:=aq bA (ax B e).ctors;have eP:=aq rP (ax B e).params;have R:=aq (λt:List Nd=>[ah t]) (ax B e).params;refine cS e.toNat (iQ F H) ?_;unfold AZ at a;refine aB τok (σ:=Nat) [(2,_),(3,_),(7,_),(24,_),(25,_)] [(2,_),(3,_),(7,_)] (λk=>[(26,vI k)]) (λ_=>[]) (λk=>k<=(ax B e).ctors.length/\(oy (ax B e).params.length (ax B e).indices.length e ((ax B e).ctors.drop k),(0:Int))=p) (λk=>(ax B e).ctors.length-k) 0 ⟨KV _,a⟩ ?_
 clear a
 rintro k ⟨hk,hr⟩;refine aj<|ae (λc=>?_) (λc=>?_);rotate_left
 ·rw[JY Uo]at hr
  subst hr;exact aF
 obtain⟨b,q,S⟩:=az (l:=(ax B e).ctors) (k:=k);rw[S]at hr;simp only[oy]at hr;obtain⟨o,go,d⟩:=n.ct k b q;have A:b.args.map tr=o:=qF d.args λy g=>by
  obtain⟨j,I⟩:=JH g;exact(d.fa j y I).ok
 have T:=KG List.length d.args;have U:=KG List.length d.out;have V:=d.la;have W:=d.lo;rw[KF]at T U;have eA:=aq rP b.args;have eO:=aq rP b.out;refine ee k q ?_;unfold AY at hr;obtain⟨K,i⟩:∃r,ox (ax B e).params.length (ax B e).indices.length e o 0=r:=⟨_,rfl⟩
 rw[A,i]at hr;refine aB τok (σ:=Nat) [(2,_),(3,_),(7,_),(9,_),(24,_),(25,_),(26,_),(31,_),(32,_)] [(2,_),(3,_),(7,_),(9,_)] (λj=>[(33,vI j)]) (λ_=>[]) (λj=>j<=o.length/\ox (ax B e).params.length (ax B e).indices.length e (o.drop j) j=K) (λj=>o.length-j) 0 ⟨KV _,i⟩ ?_
 clear i
 rintro j ⟨I,f⟩;refine aj<|ae (λu=>?_) (λu=>?_)
 ·have u:(j:Int)<((b.args.map rP).length:Int):=u
  obtain⟨y,g,D⟩:=az (l:=o) (k:=j);rw[D]at f;simp only[ox]at f;have E:=d.fa j y g;refine aA j (x:=row y) (by rw[d.args,JX,g];rfl) ?_;refine vi ?_;have X:=qL (He hS ⟨F,H⟩ E (ar:=(((ax B e).params.map rP).length:Int)+(j:Int)) Uo Uo) (r':=.bool (fV (ax B e).params.length (ax B e).indices.length e y (((ax B e).params.length+j:Nat):Int))) (by
   congr 2
   omega)
  refine af X ?_;cases v:fV (ax B e).params.length (ax B e).indices.length e y (((ax B e).params.length+j:Nat):Int)with
  |false=>
   rw[KX v]at f;subst f;rw[KX rfl]at hr;subst hr;exact aF
  |true=>
   rw[KY (by rw[v];decide)]at f;refine vi ?_;exact au (j+1) ⟨Uo,f⟩
 ·have u:¬ (j:Int)<((b.args.map rP).length:Int):=u
  rw[JY Uo]at f;have f:true=K:=f;subst f;simp only[Bool.true_eq_false,if_false]at hr;refine aZ (λ_=>3) (λ_=>0) (OF e b.out ⟨Uo,λy g=>by
   rw[d.out]at g;obtain⟨z,Y,rfl⟩:=List.mem_map.1 g;have:=(d.fo z Y).len;omega⟩) ?_
  rw[show (b.out.any λt=>bL t e)=b.out.any (nk e)from rfl]at hr;cases L:b.out.any (nk e)with
  |true=>
   rw[L]at hr;have hr:(false,(0:Int))=p:=hr;subst hr;exact aF
  |false=>
   rw[L]at hr;refine vi ?_;exact au (k+1) ⟨Uo,hr⟩
def dN(l:List Tr):Nat:=(l.map λy=>(row y).length).sum
theorem rows_len:∀l:List Tr,(rows l).length=dN l
 |[]=>rfl
 |x::r=>by
  simp only[rows,JK,rows_len r];simp[dN]
theorem ol':∀l:List Tr,(rows l).length=l.length+dN (l.flatMap (·.ks))
 |[]=>rfl
 | .mk n ks::r=>by
  have:=ol' r;have e:=rows_len ks;simp only[rows,row,JK,JV,List.flatMap_cons,dN,KB,List.sum_append,Tr.ks]at *
  omega
theorem Hf{x:Tr}(d:Ok .tm x):(row x).length=1+(atmsT x).length+(funsT x).length+dN (kidsT x):=by
 by_cases a:x.n.op=12
 ·obtain⟨n,b⟩:=x
  have a:n.op=12:=a;have c:n.op≠2:=Uo
  have:=ol' b;have e:kidsT (.mk n b)=b.flatMap (·.ks):=by simp only[kidsT];rw[KY c,KX a]
  have f:atmsT (.mk n b)=[]:=KY c;have g:funsT (.mk n b)=b.map (·.n):=KX a;rw[e,f,g];simp only[row,JV,KF,JU];omega
 ·have hr:=KG List.length (iH d)
  rw[zn a,JV,JK,rows_len]at hr;have:funsT x=[]:=by unfold funsT;rw[KY a]
  rw[this,hr];simp;omega
theorem OG{l:List Tr}{i:Nat}{y:Tr}(h:l[i]?=some y):dN (l.take (i+1))=dN (l.take i)+(row y).length:=by
 unfold dN;rw[QQ,h];simp
theorem OH(l:List Tr)(i:Nat):dN (l.take i)<=dN l:=by
 have h:dN l=dN (l.take i)+dN (l.drop i):=by
  unfold dN;rw[<- List.sum_append,<- KB,List.take_append_drop]
 omega
theorem A8(N:Nat)(hN:N<=1000000):∀x:Tr,Ok .tm x ->(row x).length<=N ->VC prog 184 [bB x] (pI (row x).length):=by
 induction N with
 |zero=>intro x a h;have:=aR x;omega
 |succ N e=>
  intro x a h;have f:=Hf a;have n:=aq ndP (atmsT x);have o:=aq ndP (funsT x);have p:=aq trP (kidsT x);have j:=gO a;refine vf 29 [.tmp 2] τok func184 ?_;refine vi ?_;refine vi ?_;refine aB τok (σ:=Nat) [(1,_)] [(1,_)] (λi=>[(3,vI ((1+(atmsT x).length+(funsT x).length+dN ((kidsT x).take i):Nat):Int)),(4,vI i)]) (λ_=>[]) (λi=>i<=(kidsT x).length) (λi=>(kidsT x).length-i) 0 (KV _) ?_ (x1:=⟨KG (λz=>some (vI z)) (by simp[dN]),rfl,trivial⟩);rintro i q;refine aj<|ae (λg=>?_) (λg=>?_)
  ·obtain⟨y,b,_⟩:=az (l:=kidsT x) (k:=i)
   have m:=ij a b;have c:=OG b;have d:=OH (kidsT x) (i+1);refine vt i b ?_;refine af (e Uo y (FJ a b) Uo) ?_;refine vi ?_ Uo Uo;refine vi ?_;exact au (i+1) (by show i+1<=_;omega) (x:=⟨KG (λz=>some (vI z)) (by rw[c];omega),rfl,trivial⟩)
  ·rw[JG Uo]
   rw[<- f];exact aF
theorem OI(n:Int):VC prog 48 [pI n] (pI (min (max n 0) 100000)):=by
 refine vf 6 [.tmp 2] τok func48 ?_;exact aF
theorem OJ{x:Tr}{ys:List Tr}{i:Nat}{y:Tr}(a:ys[i]?=some y):ak' x (ys.take (i+1))= .mk appN [ak' x (ys.take i),y]:=by
 rw[QQ,a,Option.toList,ih']
theorem OK(a b:Tr):ec (.mk appN [a,b])=[pI 6,pI 0,pI 0,.sl [ec a,ec b],.sl [],.sl []]:=by
 have c:kidsT (.mk appN [a,b])=[a,b]:=by simp[kidsT,appN]
 have d:atmsT (.mk appN [a,b])=[]:=by simp[atmsT,appN,Tr.n]
 have e:funsT (.mk appN [a,b])=[]:=by simp[funsT,appN,Tr.n]
 show fL _ _ _ _=_;rw[c,d,e,List.map_cons,List.map_cons,List.map_nil,kK,kK]
 rfl
theorem nl{x:Tr}{ys:List Tr}(hl:ys.length<=1000000):VC prog 211 [bB x,nU ys] (bB (ak' x ys)):=by
 have b:=aq trP ys;refine vf 21 [.cell 4 60] τok func211 ?_;refine aB τok (σ:=Nat) [(1,_),(2,_),(4,_)] [(4,_)] (λi=>[(5,vI i)]) (λi=>[(2,.st 0 60 ((ec (ak' x (ys.take i))).map .p))]) (λi=>i<=ys.length) (λi=>ys.length-i) 0 (KV _) ?_;rintro i c;refine aD<|ae (λg=>?_) (λg=>?_)
 ·obtain⟨y,a,_⟩:=az (l:=ys) (k:=i)
  refine VCode.seq (VCode.blk<|aj<|vt i a ?_);refine vk ?_;show VCode _ _ _ _ _;refine mN 2 3 18 ?_;refine Gl 2 ?_;refine aj<|vi ?_;refine au (i+1) (by show i+1<=_;omega) (y':=⟨?_,trivial⟩);rw[OJ a];rw[OK]
  rfl
 ·rw[JG Uo]
  exact aF
def cX(b u:Tr):Tr×Int:=if gN b u 0=true then (b,9)else (fH b u 0,0)
def kc(x:Tr):Nat ->Tr ->Tr×Int
 |0,b=>(b,0)
 |i+1,b=>if gN b (aG (fixAt x i) i 0) 0=true then (b,9)else kc x i (fH b (aG (fixAt x i) i 0) 0)
def nm(x:Tr):Tr×Int:=kc x x.n.b.toNat (kidD x (2*x.n.a.toNat+1))
def dX(B:ak)(cx:Ctx)(x:Tr):Tr×Int:=
 let h:=headT x
 let l:=argsT x
 if h.n.op=5 then (ak' (cX (kidD h 1) (l.getD 0 (varX 0))).1 (l.drop 1),(cX (kidD h 1) (l.getD 0 (varX 0))).2)
 else if h.n.op=7 then (ak' (cX (kidD h 2) (kidD h 1)).1 l,(cX (kidD h 2) (kidD h 1)).2)
 else if h.n.op=1 then (ak' (aG ((fR cx h.n.a).2.getD (varX 0)) (h.n.a+1) 0) l,0)
 else if h.n.op=8 then (ak' (tr (ax B h.n.a).body) l,0)
 else if h.n.op=11 then (ak' (kidD h (2+(headT (kidD h 1)).n.b.toNat)) ((argsT (kidD h 1)).drop (fI B h.n.a)++l),0)
 else (ak' (nm h).1 l,(nm h).2)
def iz(x:Tr)(r:Tr×Bool×Int):Tr×Bool×Int:=if r.2.1=false \/r.2.2≠0 then (x,r.2.1,r.2.2)else (bP x r.1,true,0)
def qM(B:ak)(cx:Ctx):Nat ->Tr ->Tr×Bool×Int
 |0,x=>(x,false,0)
 |g+1,x=>if cD B cx x=true then ((dX B cx x).1,true,(dX B cx x).2)else match cE x with
  |none=>(x,false,0)
  |some p=>iz x (qM B cx g p)
def aS(B:ak)(cx:Ctx)(x:Tr):Tr×Bool×Int:=qM B cx (row x).length x
def cY(B:ak)(cx:Ctx)(room:Int):Nat ->Tr ->Except Int (Tr×Nat)
 |0,x=>if (aS B cx x).2.1=false then .ok (x,0)else .error 10
 |n+1,x=>if (aS B cx x).2.1=false then .ok (x,n+1)else if (aS B cx x).2.2≠0 \/room<len (aS B cx x).1 then .error 9 else cY B cx room n (aS B cx x).1
theorem A9(x:Tr):∀(i:Nat) (b:Tr),jP x i b=if (kc x i b).2≠0 then .error 9 else .ok (kc x i b).1
 |0,b=>rfl
 |i+1,b=>by
  simp only[jP,kc,bh];split
  ·rfl
  ·exact A9 x i _
theorem Ba(B:ak)(cx:Ctx)(x:Tr):gR B cx x=if (dX B cx x).2≠0 \/4096<(row (dX B cx x).1).length then .error 9 else .ok (dX B cx x).1:=by
 have d:∀(b:Tr) (l:List Tr),aP b l=if (0:Int)≠0 \/4096<(row (ak' b l)).length then .error 9 else .ok (ak' b l):=λb l=>by
  unfold aP;simp
 have j:∀(b u:Tr) (l:List Tr),((bh b u 0).bind λs=>aP s l)=if (cX b u).2≠0 \/4096<(row (ak' (cX b u).1 l)).length then .error 9 else .ok (ak' (cX b u).1 l):=λb u l=>by
  unfold bh cX;split
  ·simp[Except.bind]
  ·exact d _ l
 unfold gR dX
 by_cases e:(headT x).n.op=5
 ·rw[KX e,KX e]
  exact j _ _ _
 rw[KY e,KY e]
 by_cases f:(headT x).n.op=7
 ·rw[KX f,KX f]
  exact j _ _ _
 rw[KY f,KY f]
 by_cases g:(headT x).n.op=1
 ·rw[KX g,KX g]
  exact d _ _
 rw[KY g,KY g]
 by_cases i:(headT x).n.op=8
 ·rw[KX i,KX i]
  exact d _ _
 rw[KY i,KY i]
 by_cases c:(headT x).n.op=11
 ·rw[KX c,KX c]
  exact d _ _
 rw[KY c,KY c];unfold lB nm;rw[A9];split
 ·rename_i h
  rw[KX (.inl h)]
  rfl
 ·rename_i h
  have h:(kc (headT x) (headT x).n.b.toNat (kidD (headT x) (2*(headT x).n.a.toNat+1))).2=0:=QY h;rw[h];exact d _ _
section
variable{B:ak}{cx:Ctx}
theorem Cq':∀(g a:Nat) (x:Tr),Wf x ->(row x).length<=g ->(row x).length<=a ->qM B cx g x=qM B cx a x:=by
 intro g
 induction g with
 |zero=>intro a x _ h;have:=aR x;omega
 |succ g c=>
  intro a x d h f;cases a with
  |zero=>have:=aR x;omega
  |succ a=>
   simp only[qM];split
   ·rfl
   ·split
    ·rfl
    ·rename_i p e
     obtain⟨b,i⟩:=kB d.ft e;rw[c a p ⟨b.ok,b.len⟩ Uo Uo]
theorem mh{x:Tr}(b:Wf x):aS B cx x=if cD B cx x=true then ((dX B cx x).1,true,(dX B cx x).2)else match cE x with
  |none=>(x,false,0)
  |some p=>iz x (aS B cx p):=by
 obtain⟨g,c⟩:∃g,(row x).length=g+1:=⟨(row x).length-1,by have:=aR x;omega⟩
 unfold aS;rw[c];simp only[qM];split
 ·rfl
 ·split
  ·rfl
  ·rename_i p d
   obtain⟨a,e⟩:=kB b.ft d;rw[Cq' g (row p).length p ⟨a.ok,a.len⟩ Uo (KJ _)]
theorem Hg(x:Tr):∀(i:Nat) (b:Tr),(kc x i b).2=0 \/(kc x i b).2=9
 |0,b=>.inl rfl
 |i+1,b=>by
  simp only[kc];split
  ·exact .inr rfl
  ·exact Hg x i _
theorem OL(x:Tr):(dX B cx x).2=0 \/(dX B cx x).2=9:=by
 have c:∀b u,(cX b u).2=0 \/(cX b u).2=9:=λb u=>by
  unfold cX;split
  ·exact .inr rfl
  ·exact .inl rfl
 unfold dX
 dsimp only
 by_cases d:(headT x).n.op=5
 ·rw[KX d];exact c _ _
 rw[KY d]
 by_cases e:(headT x).n.op=7
 ·rw[KX e];exact c _ _
 rw[KY e]
 by_cases f:(headT x).n.op=1
 ·rw[KX f];exact .inl rfl
 rw[KY f]
 by_cases g:(headT x).n.op=8
 ·rw[KX g];exact .inl rfl
 rw[KY g]
 by_cases a:(headT x).n.op=11
 ·rw[KX a];exact .inl rfl
 rw[KY a];exact Hg _ _ _
theorem tu(N:Nat):∀x:Tr,Wf x ->(row x).length<=N ->((aS B cx x).2.2=0 \/(aS B cx x).2.2=9)/\((aS B cx x).2.1=false ->(aS B cx x).1=x/\(aS B cx x).2.2=0):=by
 induction N with
 |zero=>intro x _ h;have:=aR x;omega
 |succ N c=>
  intro x a h;rw[mh a];split
  ·exact⟨OL x,λh=>by cases h⟩
  ·split
   ·exact⟨.inl rfl,λ_=>⟨rfl,rfl⟩⟩
   ·rename_i p d
    obtain⟨b,i⟩:=kB a.ft d;obtain⟨f,g⟩:=c p ⟨b.ok,b.len⟩ Uo;unfold iz;split
    ·rename_i q
     exact⟨f,λe=>⟨rfl,(g e).2⟩⟩
    ·exact⟨.inl rfl,λe=>by cases e⟩
theorem Hh{x p:Tr}(hr:cD B cx x=true)(a:cE x=some p):(headT p).n.op=10:=by
 unfold cE at a;unfold cD at hr;split at a
 ·rename_i g
  rw[KY Uo,KY Uo,KY Uo,KX g]at hr;obtain rfl:=JB a;simp only[iD,Bool.and_eq_true,decide_eq_true_eq]at hr;exact hr.1
 ·rename_i b
  split at a
  ·rename_i g
   split at a
   ·obtain rfl:=JB a
    rw[KY Uo,KY Uo,KY Uo,KY b,KX g]at hr;simp only[Bool.and_eq_true,decide_eq_true_eq]at hr;exact hr.2
   ·cases a
  ·cases a
theorem Hi{p:Tr}(a:Wf p)(h:(headT p).n.op=10):aS B cx p=(p,false,0):=by
 rw[mh a];have b:cD B cx p=false:=by
  unfold cD;rw[KY Uo,KY Uo,KY Uo,KY Uo,KY Uo]
 have c:cE p=none:=by
  unfold cE;rw[KY Uo,KY Uo]
 rw[b,c]
 rfl
theorem oq':∀(ys:List Tr) (x:Tr),headT (ak' x ys)=headT x/\argsT (ak' x ys)=argsT x++ys
 |[],x=>by simp[ak']
 |y::r,x=>by
  have a:appN.op=6:=rfl;have b:headT (.mk appN [x,y])=headT x:=lq a;have c:argsT (.mk appN [x,y])=argsT x++[y]:=lr a;obtain⟨d,e⟩:=oq' r (.mk appN [x,y]);rw[ak',d,e,b,c];simp
theorem tv(y q:Tr):bP y q=if (headT y).n.op=11 then ak' (.mk (headT y).n ((headT y).ks.set 1 q)) (argsT y)else ak' (headT y) ((argsT y).set (bY (headT y)).toNat q):=rfl
theorem wG{Q:Nd ->Prop}{N:Int}{x y:Tr}(p:Ft Q N x)(b:cE x=some y)(z:Tr):cE (bP x z)=some z/\(∀q,bP (bP x z) q=bP x q)/\bP x y=x:=by
 have m:=p.spine;have d:=p.head.ok;obtain⟨⟨M,o,_⟩,_⟩:=nc _ (aC p) (KJ _);unfold cE at b;split at b
 ·rename_i g
  obtain⟨hk,F,_,_⟩:=gP d g;obtain⟨s,_⟩:=p.head.kidD (k:=1) (by rw[hk];omega);rw[hk]at s;obtain rfl:=JB b;have a:=aL s;have j:∀q,bP x q=ak' (.mk (headT x).n ((headT x).ks.set 1 q)) (argsT x):=λq=>by unfold bP;rw[KX g]
  have c:∀q,headT (bP x q)= .mk (headT x).n ((headT x).ks.set 1 q)/\argsT (bP x q)=argsT x:=λq=>by
   obtain⟨t,v⟩:=oq' (argsT x) (.mk (headT x).n ((headT x).ks.set 1 q));obtain⟨A,b2⟩:=gk (x:=.mk (headT x).n ((headT x).ks.set 1 q)) (show (headT x).n.op≠6 from o);rw[j q,t,v,A,b2];exact⟨rfl,rfl⟩
  refine⟨?_,λq=>?_,?_⟩
  ·unfold cE
   rw[(c z).1];rw[KX (show (Tr.mk (headT x).n ((headT x).ks.set 1 z)).n.op=11 from g)]
   congr 1
   have r:¬ (headT x).n.op=2:=Uo
   have D:¬ (headT x).n.op=12:=Uo
   simp[kidD,kidsT,r,D,a]
  ·rw[j q,tv (bP x z) q]
   rw[(c z).1,(c z).2,KX (show (Tr.mk (headT x).n ((headT x).ks.set 1 z)).n.op=11 from g)];simp[Tr.n,Tr.ks]
  ·rw[j]
   have:(headT x).ks.set 1 (kidD (headT x) 1)=(headT x).ks:=by
    refine List.ext_getElem? λi=>?_;rw[List.getElem?_set]
    by_cases e:1=i
    ·subst e
     rw[KX rfl,KX a,s]
    ·rw[KY e]
   rw[this];have e:(Tr.mk (headT x).n (headT x).ks)=headT x:=by cases headT x;rfl
   rw[e];exact m
 ·rename_i g
  split at b
  ·rename_i r
   split at b
   ·rename_i H
    obtain⟨f,O,I,K,L⟩:=nI d r;obtain⟨u,E,_⟩:=az (l:=argsT x) (k:=(bY (headT x)).toNat);have e:fJ x (bY (headT x))=u:=by simp[fJ,E]
    rw[e]at b;obtain rfl:=JB b;have a:=aL E;have j:∀q,bP x q=ak' (headT x) ((argsT x).set (bY (headT x)).toNat q):=λq=>by unfold bP;rw[KY g]
    have c:∀q,headT (bP x q)=headT x/\argsT (bP x q)=(argsT x).set (bY (headT x)).toNat q:=λq=>by
     obtain⟨t,v⟩:=ii' ((argsT x).set (bY (headT x)).toNat q) (headT x) d;obtain⟨A,b2⟩:=gk o;rw[j q,t,v,A,b2];exact⟨rfl,rfl⟩
    refine⟨?_,λq=>?_,?_⟩
    ·unfold cE
     rw[(c z).1,(c z).2,KY g,KX r,KX (by simpa using H)]
     congr 1
     unfold fJ;rw[(c z).2];simp[a]
    ·rw[j q,tv (bP x z) q]
     rw[(c z).1,(c z).2,KY g];simp
    ·rw[j]
     have:(argsT x).set (bY (headT x)).toNat u=argsT x:=by
      refine List.ext_getElem? λi=>?_;rw[List.getElem?_set]
      by_cases e:(bY (headT x)).toNat=i
      ·subst e
       rw[KX rfl,KX a,E]
      ·rw[KY e]
     rw[this];exact m
   ·cases b
  ·cases b
theorem wH{room:Int}{n:Nat}{x:Tr}(h:(aS B cx x).2.1=false):cY B cx room n x= .ok (x,n):=by
 cases n with
 |zero=>simp only[cY];rw[KX h]
 |succ n=>simp only[cY];rw[KX h]
theorem wI{room:Int}{x:Tr}(h:(aS B cx x).2.1=true):cY B cx room 0 x= .error 10:=by
 simp only[cY];rw[KY (by rw[h];decide)]
theorem qN{room:Int}{n:Nat}{x:Tr}(h:(aS B cx x).2.1=true)(hb:(aS B cx x).2.2≠0 \/room<len (aS B cx x).1):cY B cx room (n+1) x= .error 9:=by
 simp only[cY];rw[KY (by rw[h];decide),KX hb]
theorem wJ{room:Int}{n:Nat}{x:Tr}(h:(aS B cx x).2.1=true)(hb:¬ ((aS B cx x).2.2≠0 \/room<len (aS B cx x).1)):cY B cx room (n+1) x=cY B cx room n (aS B cx x).1:=by
 simp only[cY];rw[KY (by rw[h];decide),KY hb]
theorem Hj(hB:GoodB B)(hcx:CxOk B cx)(hN:cx.length<=90000)(M:Nat):∀x:Tr,Ft (QB B) (cx.length:Int) x ->(row x).length<=M ->(aS B cx x).2.1=true ->(aS B cx x).2.2=0 ->(row (aS B cx x).1).length<=4096 ->Ft (QB B) (cx.length:Int) (aS B cx x).1:=by
 induction M with
 |zero=>intro x _ h;have:=aR x;omega
 |succ M g=>
  intro x c h;rw[mh (aC c)]
  by_cases hr:cD B cx x=true
  ·rw[KX hr]
   intro _ i d;refine uB hB hcx hN c hr ?_;rw[Ba,KY];rintro(h|h)
   ·exact h i
   ·simp only at d;omega
  ·rw[KY hr]
   cases e:cE x with
   |none=>intro h;cases h
   |some p=>
    obtain⟨j,l⟩:=kB c e;simp only;unfold iz;split
    ·rename_i q
     intro a b;rcases q with q|q
     ·rw[q]at a;cases a
     ·exact absurd b q
    ·rename_i q
     intro _ _ d;have m:=rt (p:=(aS B cx p).1) c e;have d:(row (bP x (aS B cx p).1)).length<=4096:=d;have q1:(aS B cx p).2.1=true:=by
      cases f:(aS B cx p).2.1 with
      |true=>rfl
      |false=>exact absurd (.inl f) q
     have k:(aS B cx p).2.2=0:=QY λf=>q (.inr f);exact(x9 (C:=λ_ _ _=>False) (qk B) c (g p j Uo q1 k Uo) e d).1
theorem part_walk(hB:GoodB B)(hcx:CxOk B cx)(hN:cx.length<=90000):∀(n:Nat) (x p:Tr) (room:Int),Ft (QB B) (cx.length:Int) x ->cE x=some p ->len x<=room ->room<=4096 ->(∃e,cY B cx (room-len x+len p) n p= .error e/\cY B cx room n x= .error e) \/
  ∃q j,cY B cx (room-len x+len p) n p= .ok (q,j)/\cY B cx room n x=cY B cx room j (bP x q)/\j<=n/\(aS B cx q).2.1=false/\Ft (QB B) (cx.length:Int) (bP x q)/\len (bP x q)<=room:=by
 intro n
 induction n with
 |zero=>
  intro x p room b c l d;obtain⟨k,z⟩:=kB b c;obtain⟨A,D,g⟩:=wG b c p;cases a:(aS B cx p).2.1 with
  |false=>exact .inr ⟨p,0,wH a,by rw[g],KJ _,a,by rw[g];exact b,by rw[g];exact l⟩
  |true=>
   have hr:¬ cD B cx x=true:=λhr=>by
    rw[Hi (aC k) (Hh hr c)]at a;cases a
   refine .inl ⟨10,wI a,wI ?_⟩;rw[mh (aC b),KY hr,c];simp only;unfold iz;split
   ·exact a
   ·rfl
 |succ n E=>
  intro x p room b c l d;obtain⟨k,z⟩:=kB b c;obtain⟨A,D,g⟩:=wG b c p;cases a:(aS B cx p).2.1 with
  |false=>exact .inr ⟨p,n+1,wH a,by rw[g],KJ _,a,by rw[g];exact b,by rw[g];exact l⟩
  |true=>
   have hr:¬ cD B cx x=true:=λhr=>by
    rw[Hi (aC k) (Hh hr c)]at a;cases a
   have m:aS B cx x=iz x (aS B cx p):=by rw[mh (aC b),KY hr,c]
   by_cases i:(aS B cx p).2.2=0
   ·have f:aS B cx x=(bP x (aS B cx p).1,true,0):=by
     rw[m];unfold iz;rw[KY];rintro(q|q)
     ·rw[a]at q;cases q
     ·exact q i
    have M:=rt (p:=(aS B cx p).1) b c
    by_cases t:room-len x+len p<len (aS B cx p).1
    ·refine .inl ⟨9,qN a (.inr t),qN (by rw[f]) (.inr ?_)⟩
     rw[f];unfold len at *
     simp only;omega
    ·obtain⟨F,H,N⟩:=wG b c (aS B cx p).1
     have o:len (bP x (aS B cx p).1)<=room:=by unfold len at *;omega
     have r:=Hj hB hcx hN _ p k (KJ _) a i (by unfold len at *;omega);have s:=(x9 (C:=λ_ _ _=>False) (qk B) b r c (by unfold len at *;omega)).1;have I:room-len (bP x (aS B cx p).1)+len (aS B cx p).1=room-len x+len p:=by unfold len at *;omega
     have:=E (bP x (aS B cx p).1) (aS B cx p).1 room s F o d;rw[I]at this;rw[wJ a (by rintro(q|q);exact q i;exact t q),wJ (x:=x) (by rw[f]) (by
      rw[f];rintro(q|q)
      ·exact q rfl
      ·simp only at q;omega),f]
     simp only;rcases this with h|⟨q,j,K,u,O,L,v,y⟩
     ·exact .inl h
     ·rw[H]at u v y
      exact .inr ⟨q,j,K,u,Uo,L,v,y⟩
   ·refine .inl ⟨9,qN a (.inl i),qN ?_ (.inl ?_)⟩
    ·rw[m]
     unfold iz;rw[KX (.inr i)];exact a
    ·rw[m]
     unfold iz;rw[KX (.inr i)];exact i
theorem OM{W n k a b M:Nat}(hW:4097<=W)(h1:k+1<=n)(h2:a<=4096)(hb:0<b)(d:n*W+b<=M+1):k*W+a<=M:=by
 have c:(k+1)*W<=n*W:=Nat.mul_le_mul_right W h1;rw[Nat.succ_mul]at c
 generalize k*W=K at *
 generalize n*W=L at *
 omega
theorem ON{x:Tr}{room:Int}(h:len x<=room)(hr:room<=4096):(row x).length<=4096:=by unfold len at h;omega
theorem OO{W:Nat}(hW:4097<=W)(hB:GoodB B)(hcx:CxOk B cx)(hN:cx.length<=90000):∀(M n g:Nat) (x:Tr) (room:Int),Ft (QB B) (cx.length:Int) x ->len x<=room ->room<=4096 ->n*W+(row x).length<=M ->M<=g ->cz B cx g x room n=cY B cx room n x:=by
 intro M
 induction M with
 |zero=>intro n g x room _ _ _ h;have:=aR x;omega
 |succ M D=>
  intro n g x room l E c K L;obtain⟨g,rfl⟩:∃N,g=N+1:=⟨g-1,Uo⟩
  have o:∀(k a:Nat),k+1<=n ->a<=4096 ->k*W+a<=M:=λk a r F=>OM hW r F (aR x) K;have f:∀(b:Tr) (i:Nat),i<=n ->Ft (QB B) (cx.length:Int) b ->len b<=room ->aS B cx b=(if cD B cx b=true then ((dX B cx b).1,true,(dX B cx b).2)else (b,false,0)) ->jb B cx (cz B cx g) room (b,i)=cY B cx room i b:=λb i O s P hX=>by
   unfold jb;simp only
   by_cases hr:cD B cx b=true
   ·rw[KX hr]at hX
    rw[KX hr];cases i with
    |zero=>rw[KX rfl,wI (by rw[hX])]
    |succ k=>
     rw[KY Uo]
     by_cases d:(aS B cx b).2.2≠0 \/room<len (aS B cx b).1
     ·rw[qN (by rw[hX]) d]
      rw[hX]at d;rw[Ba]
      by_cases t:(dX B cx b).2≠0 \/4096<(row (dX B cx b).1).length
      ·rw[KX t]
      ·rw[KY t]
       simp only;rw[KX];rcases d with d|d
       ·exact absurd (.inl d) t
       ·exact d
     ·rw[wJ (by rw[hX]) d]
      rw[hX]at d ⊢;have j:len (dX B cx b).1<=room:=by
       simp only[not_or]at d;omega
      have H:gR B cx b= .ok (dX B cx b).1:=by
       rw[Ba,KY];rintro(q|q)
       ·exact d (.inl q)
       ·unfold len at j;omega
      rw[H];simp only;rw[KY Uo];have u:=uB hB hcx hN s hr H;exact D k g _ room u j c (o k _ O (ON j c)) (Nat.le_of_succ_le_succ L)
   ·rw[KY hr]at hX
    rw[KY hr,wH (by rw[hX])]
  simp only[cz];unfold ja;cases m:cE x with
  |none=>
   simp only;refine f x n (KJ _) l E ?_;rw[mh (aC l),m]
  |some p=>
   obtain⟨r,F⟩:=kB l m;simp only;rw[D n g p (room-len x+len p) r Uo (by unfold len at *;omega) Uo Uo];rcases part_walk hB hcx hN n x p room l m E c with ⟨e,v,y⟩|⟨q,i,v,y,R,z,A,S⟩
   ·rw[v,y]
   ·rw[v,y]
    simp only;obtain⟨I,V,X⟩:=wG l m q;obtain⟨T,_⟩:=kB A I;obtain⟨_,U⟩:=tu _ q (aC T) (KJ _);refine f (bP x q) i R A S ?_;rw[mh (aC A),I];simp only;have:iz (bP x q) (aS B cx q)=(bP x q,false,0):=by
     unfold iz;rw[KX (.inl z),z,(U z).2]
    rw[this]
theorem wL(hB:GoodB B)(hcx:CxOk B cx)(hN:cx.length<=90000){x:Tr}(a:Ft (QB B) (cx.length:Int) x)(fuel:Int):eg B cx x fuel=cY B cx 4096 (bK fuel) x:=by
 have c:bK fuel<=100000:=by unfold bK;omega
 have d:=a.len;have b:=Ib';unfold eg
 generalize GW=G at b ⊢
 exact OO (W:=5000) Uo hB hcx hN (bK fuel*5000+(row x).length) (bK fuel) G x 4096 a (by unfold len;omega) Uo (KJ _) Uo
end
theorem Bb{x:Tr}(e:Wf x):VC prog 209 [bB x] (.tup [bB (headT x),nU (argsT x)]):=by
 have m:=ou e 4096 e.len;refine cN 22 [.cell 2 60,.tmp 3] τok func209 ?_;refine aj<|dK 4 1000 60 6 rfl rfl<|aB τok (σ:=Tr×List Tr) [(1,_),(2,_)] [(2,_)] (λq=>[(4,.c (.row 1000))]) (λq=>[(1,.st 0 60 ((ec q.1).map .p)),(1000,.rw 60 6 (q.2.map trP))]) (λq=>Wf q.1/\headT q.1=headT x/\argsT q.1++q.2=argsT x) (λq=>(row q.1).length) (x,[]) ⟨e,rfl,Ud⟩ ?_;rintro⟨z,n⟩ ⟨k,d,b⟩;simp only at k d b;have o:=KG List.length b;rw[JK]at o;refine aj<|ae (λg=>?_) (λg=>?_)
 ·obtain⟨f,a,hk,r,t,i,j,s⟩:=j6 k g
  refine vt 1 (by rw[hk];rfl) ?_;refine va ?_ (tc _);refine vt 0 (by rw[hk];rfl) ?_;exact au (f,a::n) ⟨r,by rw[<- i];exact d,by rw[<- b,j];simp⟩ (sw 1000 15) (y':=⟨rfl,KG (λl=>some (SE.rw _ _ l)) (by rw[List.map_cons,kK a];rfl),trivial⟩)
 ·obtain⟨i,j⟩:=gk g
  rw[i]at d;rw[j,List.nil_append]at b;subst d b;exact aF
theorem Hk{l:List Tr}{i:Nat}{y z:Tr}(a:l[i]?=some y)(hl:l.length<=1000000):VC prog 212 [nU l,pI i,bB z] (nU (l.set i z)):=by
 have e:=aq trP l;refine vf 16 [.tmp 6] τok func212 ?_;refine va (p:=trP) ?_ (tc _);refine vt i a ?_;exact AD a<|aF (h3:=by unfold nU;rw[List.map_set];exact KG (λq=>PV.sl ((l.map trP).set i q)) (kK z).symm)
def Hl(r:Tr×Int):PV:=.tup [bB r.1,pI r.2]
theorem Bc{x u:Tr}(a:Wf x)(d:Wf u)(m:dR u):VC prog 210 [bB x,bB u] (Hl (cX x u)):=by
 have I:=a.len;have s:=d.len;have t:=aR u;have n:Dp 0 x:=⟨Uo,Uo⟩
 have y:=FZ 4096 Uo x 0 a n a.len;have K:=Ar (varsT x 0 0);have z:=gL' x 0 0;have A:=ph (v:=0) (varsT x 0 0);have i:=fj' x .tm 0 0 a.ok.1 Uo Uo Uo;have D:=Aq (v:=0) (l:=varsT x 0 0) (c:=20000) Uo λq j=>by have:=i q j;omega
 have E:=sW (dV 0 (varsT x 0 0)) Uo 4096 Uo u 0 d ⟨Uo,Uo⟩ d.len;have F:=sU (b:=dV 0 (varsT x 0 0)) (l:=varsT u 0 0) (c:=1000000) Uo λq j _=>by have:=m q j;omega
 have k:=sZ u d 4096 Uo x 0 a n a.len;rw[F3 a d.ok m Uo]at k;have H:=F4 x 0;have o:0<=(cW (varsT x 0 0):Int)*(((row u).length:Int)-1)/\(cW (varsT x 0 0):Int)*(((row u).length:Int)-1)<=4096*4096:=⟨Int.mul_nonneg Uo Uo,Int.mul_le_mul Uo Uo Uo Uo⟩
 have f:gN x u 0=true↔4096<((row x).length:Int)+(cW (varsT x 0 0):Int)*(((row u).length:Int)-1):=by
  unfold gN;rw[<- H];exact decide_eq_true_iff
 have p:=A8 4096 Uo x a.ok a.len;have r:=A8 4096 Uo u d.ok d.len;have f1:4096<((row x).length:Int)+(cW (varsT x 0 0):Int)*(((row u).length:Int)-1) ->cX x u=(x,9):=λh=>by unfold cX;rw[KX (f.2 h)]
 have f2:¬ 4096<((row x).length:Int)+(cW (varsT x 0 0):Int)*(((row u).length:Int)-1) ->cX x u=(fH x u 0,0):=λh=>by unfold cX;rw[KY λq=>h (f.1 q)]
 refine vf 35 [.cell 4 60,.tmp 5] τok func210 ?_;refine af y ?_;refine ae (λg=>?_) (λg=>?_)
 ·refine af E ?_
  refine vn ?_;refine af p ?_;refine af r ?_;refine vi ?_;refine vi ?_;refine vi ?_;refine ae (λe=>?_) (λe=>?_)
  ·refine vk ?_
   exact aF (h3:=by rw[f1 e];rfl)
  ·refine vk ?_
   refine af k ?_;exact aF (h3:=by rw[f2 e];rfl)
 ·refine af p ?_
  refine af r ?_;refine vi ?_;refine vi ?_;refine vi ?_;refine ae (λe=>?_) (λe=>?_)
  ·refine vk ?_
   exact aF (h3:=by rw[f1 e];rfl)
  ·refine vk ?_
   refine af k ?_;exact aF (h3:=by rw[f2 e];rfl)
theorem OP{x:Tr}(a:x.n.op=12)(i:Int):ec (fixAt x i)=fL ⟨12,i,x.n.b⟩ ((kidsT x).map trP) [] ((funsT x).map ndP):=by
 have b:kidsT (fixAt x i)=kidsT x:=by cases x;rfl
 have c:funsT (fixAt x i)=funsT x:=by cases x;rfl
 have d:atmsT (fixAt x i)=[]:=by
  unfold atmsT;rw[KY];show ¬ x.n.op=2;omega
 unfold ec;rw[b,c,d];have e:(fixAt x i).n=⟨12,i,x.n.b⟩:=by
  show (⟨x.n.op,i,x.n.b⟩:Nd)=_;rw[a]
 rw[e]
 rfl
theorem OQ{Q:Nd ->Prop}(n:Qk Q){x:Tr}{N:Int}(o:Ft Q N x)(a:x.n.op=12)(V:0<=N)(hN:N<=90000):VC prog 213 [bB x] (Hl (nm x)):=by
 have r:=aC o;have W:=gu r.ok a;have L:=dZ r.ok a;have f:2*x.n.a.toNat+1<(kidsT x).length:=Uo
 obtain⟨s,X,Y⟩:=cA r f;have H:=(o.kidD f).2;have t:kb x.n (2*x.n.a.toNat+1)=x.n.b:=by
  unfold kb;rw[KX a,KX Uo]
 rw[t]at H;refine vf 55 [.cell 2 60,.tmp 3] τok func213 ?_;refine vi ?_;refine vi ?_;refine vt (2*x.n.a.toNat+1) s ?_ Uo;refine vi ?_;refine aB τok (σ:=Nat×Int×Tr) [(1,_),(2,_),(4,_)] [(1,_),(2,_)] (λq=>[(5,vI q.2.1)]) (λq=>[(4,.st 0 60 ((ec q.2.2).map .p))]) (λq=>q.1<=x.n.b.toNat/\Ft Q (N+q.1) q.2.2/\kc x q.1 q.2.2=nm x/\q.2.1=(q.1:Int)-1) (λq=>q.1) (x.n.b.toNat,x.n.b-1,kidD x (2*x.n.a.toNat+1)) ⟨KJ _,by rw[show N+((x.n.b.toNat:Nat):Int)=N+x.n.b by omega];exact H,rfl,Us⟩ ?_;rintro⟨j,v,z⟩ ⟨M,y,d,O⟩;simp only at M y d O;refine aj<|ae (λg=>?_) (λg=>?_)
 ·simp only at g
  obtain⟨i,rfl⟩:∃i,j=i+1:=⟨j-1,Uo⟩
  obtain rfl:v=(i:Int):=Uo
  have e:=o.fixAt n a (i:=(i:Int)) Uo Uo;have P:=e.len;have R:=sW (i:Int) Uo 4096 Uo (fixAt x i) 0 (aC e) ⟨Uo,Uo⟩ e.len;have I:=e.small Uo;have S:=sU (b:=(i:Int)) (l:=varsT (fixAt x i) 0 0) (c:=1000000) Uo λq T _=>by have:=I q T;omega
  have hr:=sY (i:Int) Uo 4096 Uo (fixAt x i) 0 (aC e) ⟨Uo,Uo⟩ e.len;have el:=v7 (x:=fixAt x i) (fr:=0) e.ok I (b:=(i:Int)) Uo;rw[<- el]at hr;have A:=e.lift n (b:=(i:Int)) Uo Uo Uo;have m:=Bc (aC y) (aC A) (A.small Uo);have K:=OP a (i:Int);have D:VC prog 99 [.agg (fL ⟨12,i,x.n.b⟩ ((kidsT x).map trP) [] ((funsT x).map ndP)),pI (i:Int),pI 0] (pI (gD (i:Int) (varsT (fixAt x i) 0 0))):=by rw[<- K];exact R
  have E:VC prog 100 [.agg (fL ⟨12,i,x.n.b⟩ ((kidsT x).map trP) [] ((funsT x).map ndP)),pI (i:Int),pI 0] (bB (aG (fixAt x i) i 0)):=by rw[<- K];exact hr
  simp only[kc]at d;refine af D ?_;refine vn ?_;refine af E ?_
  by_cases k:gN z (aG (fixAt x i) i 0) 0=true
  ·have F:cX z (aG (fixAt x i) i 0)=(z,9):=by unfold cX;rw[KX k]
   rw[KX k]at d;rw[F]at m;refine af m ?_;refine vk ?_;refine vy ?_;exact aF (h3:=by rw[<- d];rfl)
  ·have F:cX z (aG (fixAt x i) i 0)=(fH z (aG (fixAt x i) i 0) 0,0):=by unfold cX;rw[KY k]
   rw[KY k]at d;rw[F]at m;refine af m ?_;refine vk ?_;refine vn ?_;refine vi ?_;have U:=gQ n (N:=N+i) (v:=0) (b:=z) (u:=aG (fixAt x i) i 0) (y.mono Uo) A Uo Uo Uo Uo (by unfold bh;rw[KY k]);exact au (i,(i:Int)-1,fH z (aG (fixAt x i) i 0) 0) ⟨Us,U.mono Us,d,rfl⟩
 ·simp only at g
  obtain rfl:j=0:=Uo
  simp only[kc]at d;exact aF (h3:=by rw[<- d];rfl)
theorem kr':∀(a b:List Tr) (x:Tr),ak' x (a++b)=ak' (ak' x a) b
 |[],b,x=>rfl
 |y::r,b,x=>kr' r b (.mk appN [x,y])
def Bd(r:Tr×Bool×Int):PV:=.tup [bB r.1,.bool r.2.1,pI r.2.2]
theorem Hm{l:List Tr}{p q:Nat}(a:q=l.length):PV.sl (((l.map trP).take q).drop p)=nU (l.drop p):=by
 subst a;unfold nU;rw[JG Ud,List.map_drop]
theorem wN{B:ak}{n:Nd}{s:Tr}(h:¬ (headT s).n.op=10 \/¬ (headT s).n.a=n.a \/¬ (headT s).n.b<n.b \/¬ (argsT s).length=fI B n.a+(iZ B n.a (headT s).n.b).args.length):iD B n s=false:=by
 cases c:iD B n s with
 |false=>rfl
 |true=>
  simp only[iD,Bool.and_eq_true,decide_eq_true_eq]at c;obtain⟨d,e,f,g⟩:=c;rcases h with h|h|h|h
  ·exact absurd d h
  ·exact absurd e h
  ·exact absurd f h
  ·exact absurd g h
theorem OR{B:ak}{n:Nd}{s:Tr}(h1:(headT s).n.op=10)(h2:(headT s).n.a=n.a)(h3:(headT s).n.b<n.b)(h4:(argsT s).length=fI B n.a+(iZ B n.a (headT s).n.b).args.length):iD B n s=true:=by
 simp only[iD,Bool.and_eq_true,decide_eq_true_eq];exact⟨h1,h2,h3,h4⟩
def Hn(B:ak)(cx:Ctx)(R:Nat):Prop:=∀y:Tr,Ft (QB B) (cx.length:Int) y ->(row y).length<R ->VC prog 183 [bk B,aO (cx.map aE),bB y] (Bd (aS B cx y))
section
variable{B:ak}{cx:Ctx}(hB:GoodB B)(hcx:CxOk B cx)(hN:cx.length<=300)
include hB hcx hN
theorem OS{x:Tr}(hx:Ft (QB B) (cx.length:Int) x)(ih:Hn B cx (row x).length):VC prog 183 [bk B,aO (cx.map aE),bB x] (Bd (aS B cx x)):=by
 have hw:=aC hx;have o:=mh (B:=B) (cx:=cx) hw;obtain⟨⟨U,e',w3⟩,w4⟩:=nc _ hw (KJ _);have hh:=hx.head;have ha:=hx.args;have f':=ou hw 4096 hw.len;have eA:=aq trP (argsT x);have eC:=aq bdP (cx.map aE);have g2:=aq aE cx;have c4:=Bb hw;have I:cD B cx x=false ->cE x=none ->Bd (aS B cx x)= .tup [bB x,.bool false,pI 0]:=λh1 h2=>by
  rw[o,h1,h2]
  rfl
 have K:cD B cx x=true ->aS B cx x=((dX B cx x).1,true,(dX B cx x).2):=λh=>by rw[o,KX h]
 refine vf 298 [.cell 6 60,.tmp 7,.tmp 8] τok func183 ?_;refine af c4 ?_;have d:cD B cx x=(if (headT x).n.op=5 then decide (0<(argsT x).length)else if (headT x).n.op=7 \/(headT x).n.op=8 then true else if (headT x).n.op=1 then (fR cx (headT x).n.a).2.isSome else if (headT x).n.op=11 then iD B (headT x).n (kidD (headT x) 1)else if (headT x).n.op=12 then decide (bY (headT x)<(argsT x).length) && decide ((headT ((argsT x).getD (bY (headT x)).toNat (varX 0))).n.op=10)else false):=rfl;have j:cE x=(if (headT x).n.op=11 then some (kidD (headT x) 1)else if (headT x).n.op=12 then (if bY (headT x)<(argsT x).length then some (fJ x (bY (headT x)))else none)else none):=rfl;have g:dX B cx x=(if (headT x).n.op=5 then (ak' (cX (kidD (headT x) 1) ((argsT x).getD 0 (varX 0))).1 ((argsT x).drop 1),(cX (kidD (headT x) 1) ((argsT x).getD 0 (varX 0))).2)
 else if (headT x).n.op=7 then (ak' (cX (kidD (headT x) 2) (kidD (headT x) 1)).1 (argsT x),(cX (kidD (headT x) 2) (kidD (headT x) 1)).2)
 else if (headT x).n.op=1 then (ak' (aG ((fR cx (headT x).n.a).2.getD (varX 0)) ((headT x).n.a+1) 0) (argsT x),0)
 else if (headT x).n.op=8 then (ak' (tr (ax B (headT x).n.a).body) (argsT x),0)
 else if (headT x).n.op=11 then (ak' (kidD (headT x) (2+(headT (kidD (headT x) 1)).n.b.toNat)) ((argsT (kidD (headT x) 1)).drop (fI B (headT x).n.a)++argsT x),0)
 else (ak' (nm (headT x)).1 (argsT x),(nm (headT x)).2)):=rfl
 generalize a8:headT x=h at *
 generalize Z:argsT x=l at *
 refine ae (λg5=>?_) (λg5=>?_)
 ·rw[KX g5]at d g
  have j:cE x=none:=by rw[j,KY Uo,KY Uo]
  refine ae (λg0=>?_) (λg0=>?_)
  ·exact⟨_,_,rfl,rfl,(I (by rw[d,KH Uo]) j).symm⟩
  obtain⟨e,v0,v1,l0,l1⟩:=gm U (.inr g5);obtain⟨y,S,hd⟩:=az (l:=l) (k:=0);have ey:l.getD 0 (varX 0)=y:=by rw[QK,S];rfl
  rw[ey]at g;have L:=JQ S;have hp:=Bc v1 (w4 y L).1 ((ha y L).small Uo);have T:=nl (x:=(cX (kidD h 1) y).1) (ys:=l.drop 1) Uk;have c5:VC prog 211 [bB (cX (kidD h 1) y).1,.sl (((l.map trP).take l.length).drop 1)] (bB (ak' (cX (kidD h 1) y).1 (l.drop 1))):=by
   rw[Hm rfl];exact T
  have A:=K (by rw[d,KU Uo]);rw[g]at A;rw[A];refine vt 1 (by rw[e];rfl) ?_;refine vt 0 S ?_;refine af hp ?_;refine vk ?_;refine bO 1 l.length ?_ (λz hz=>by
   obtain⟨t,_,rfl⟩:=List.mem_map.1 hz;exact(tc [t] t Ud).1)
  refine af c5 ?_;exact kA9
 rw[KY g5]at d g;refine ae (λg7=>?_) (λg7=>?_)
 ·rw[KX g7]at g
  rw[KX (.inl g7)]at d;obtain⟨e,_⟩:=ql U.ok g7;have g3:(kidsT h).length=3:=by rw[e];rfl
  obtain⟨_,v1,_⟩:=cA U (k:=1);obtain⟨_,v2,_⟩:=cA U (k:=2);have f1:=(hh.kidD (k:=1) Uo).2;have k1:kb h.n 1=0:=by simp[kb,bi,g7]
  rw[k1]at f1;have hp:=Bc v2 v1 (f1.small Uo);have T:=nl (x:=(cX (kidD h 2) (kidD h 1)).1) (ys:=l) Uo;have A:=K d;rw[g]at A;rw[A];refine vt 2 (by rw[e];rfl) ?_;refine vt 1 (by rw[e];rfl) ?_;refine af hp ?_;refine vk ?_;refine af T ?_;exact aF
 rw[KY g7]at g;refine ae (λg1=>?_) (λg1=>?_)
 ·rw[KX g1]at g
  rw[KY Uo,KX g1]at d;have j:cE x=none:=by rw[j,KY Uo,KY Uo]
  obtain⟨n0,n1⟩:=vA hh g1;obtain⟨va,a0⟩:∃v,h.n.a=v:=⟨_,rfl⟩
  rw[a0]at d g n0 n1;obtain⟨⟨ty,vv⟩,a9⟩:∃q,fR cx va=q:=⟨_,rfl⟩
  have a4:=nH n0 n1;rw[a9]at a4;rw[a9]at d g;have c6:(cx.map aE)[cx.length-1-va.toNat]?=some (row ty,qA' vv):=by rw[JX,a4];rfl
  refine vi ?_;refine vi ?_;refine vm (cx.length-1-va.toNat) c6 ?_ Uo;cases vv with
  |none=>
   refine vy (p:=((([]:List Nd).map ndP).length:Int)=0) ?_ Ud;exact⟨_,_,rfl,rfl,(I d j).symm⟩
  |some v=>
   have X:=(hcx _ _ a4).2 v rfl;have a':=X.small Uo;have g4:=X.len;have A:=K d;have g:dX B cx x=(ak' (aG v (va+1) 0) l,0):=g;rw[g]at A;rw[A];have g6:=aR v;have eR:=aq ndP (row v);have b0:=sW (va+1) Uo 4096 Uo v 0 (aC X) ⟨Uo,Uo⟩ X.len;have c7:=sU (b:=va+1) (l:=varsT v 0 0) (c:=1000000) Uo λq hq _=>by have:=a' q hq;omega
   have hr:=sY (va+1) Uo 4096 Uo v 0 (aC X) ⟨Uo,Uo⟩ X.len;have el:=v7 (x:=v) (fr:=0) X.ok a' (b:=va+1) Uo;rw[<- el]at hr;have T:=nl (x:=aG v (va+1) 0) (ys:=l) Uo;refine vn (p:=(((row v).map ndP).length:Int)=0) ?_;refine af (iO (aC X)) ?_;rw[<- a0]at b0 hr c7;refine vi ?_;refine af b0 ?_;refine vn ?_;refine vi ?_;rw[<- a0]at T ⊢;refine af hr ?_;refine af T ?_;exact aF
 rw[KY g1]at g;refine ae (λg8=>?_) (λg8=>?_)
 ·rw[KX g8]at g
  rw[KX (.inr g8)]at d;obtain⟨i,en,ty,bo,ea,c8,c9,hD⟩:=hB.dfn hh.node' g8;have b1:=hD.fb;have c':tr (ax B h.n.a).body=bo:=by rw[c9,hD.body];exact iY b1.ok
  rw[c']at g;have b4:=iO (aC b1);rw[<- hD.body]at b4;have T:=nl (x:=bo) (ys:=l) Uo;have A:=K d;rw[g]at A;rw[A];refine vm i c8 ?_ ea;refine af b4 ?_;refine af T ?_;exact aF
 rw[KY g8]at g;rw[KY Uo,KY g1]at d;refine ae (λD=>?_) (λD=>?_)
 ·rw[KX D]at g d j
  have hk:=gP U.ok D;have kl:((kidsT h).length:Int)=2+h.n.b:=by rw[hk.1];exact hk.2.1
  obtain⟨F,v1,l1⟩:=cA U (k:=1);have f1:=(hh.kidD (k:=1) Uo).2;have k1:kb h.n 1=0:=by simp[kb,bi,D]
  rw[k1,Int.add_zero]at f1;obtain⟨s,hs⟩:∃s,kidD h 1=s:=⟨_,rfl⟩
  rw[hs]at F v1 l1 f1 d g j;have M:=ih s f1 Uo;obtain⟨⟨g9,g',h0⟩,h4⟩:=nc _ v1 (KJ _);have h5:=aq trP (argsT s);have b5:=f1.head;have b6:=Bb v1;have hq:=hh.node';have b7:bF B B.ents.length h.n.a=true:=by
   simp[QB,cr,aY,D]at hq;exact hq
  obtain⟨ei,en,s',ps,qi,ea,_,b8,a5,hF⟩:=hB.fam b7 (KJ _);have eP:=aq (λt=>[ah t]) en.params;have l3:=KG List.length hF.params;rw[KF]at l3;have h6:=hF.lp;have b9:fI B h.n.a=en.params.length:=by unfold fI;rw[a5]
  have u:=λz=>Hk (l:=kidsT h) (i:=1) (z:=z) F Uo;have d':∀z,ec (.mk h.n (h.ks.set 1 z))=fL h.n (((kidsT h).set 1 z).map trP) [] []:=λz=>by
   have a1:kidsT (.mk h.n (h.ks.set 1 z))=(kidsT h).set 1 z:=by
    rw[hk.1];have h2:¬ h.n.op=2:=Uo
    have e0:¬ h.n.op=12:=Uo
    simp[kidsT,h2,e0]
   have a2:atmsT (.mk h.n (h.ks.set 1 z))=[]:=KY (show ¬ h.n.op=2 by omega);have a3:funsT (.mk h.n (h.ks.set 1 z))=[]:=KY (show ¬ h.n.op=12 by omega);show fL _ _ _ _=_;rw[a1,a2,a3]
   rfl
  have R:=λz=>nl (x:=.mk h.n (h.ks.set 1 z)) (ys:=l) Uo;have E:∀z,bP x z=ak' (.mk h.n (h.ks.set 1 z)) l:=λz=>by rw[tv,a8,Z,KX D]
  have V:cD B cx x=false ->aS B cx x=iz x (aS B cx s):=λhr=>by rw[o,hr,j];rfl
  generalize hr:aS B cx s=r at *
  obtain⟨z,mv,er⟩:=r;have u:=u z;have E:=E z;have N:VC prog 211 [.agg (fL h.n (((kidsT h).set 1 z).map trP) [] []),nU l] (bB (ak' (.mk h.n (h.ks.set 1 z)) l)):=by
   rw[<- d'];exact R z
  have m:∀m',iz x (z,m',er)=if m'=false \/er≠0 then (x,m',er)else (bP x z,true,0):=λ_=>rfl
  refine vt 1 F ?_;refine af b6 ?_;refine vm ei b8 ?_ ea;refine ae (λq1=>?_) (λq1=>?_)
  ·refine ae (λP=>?_) (λP=>?_)
   ·refine ae (λq3=>?_) (λq3=>?_)
    ·have a6:=b5.node'
     have h7:(headT s).n.b<en.ctors.length:=by
      have q4:(headT s).n.a=h.n.a:=P;simp[QB,cr,aY,q1]at a6;rw[q4,a5]at a6;exact a6.2
     have h8:=(dn b5.ok.pl)
     obtain⟨W,a7⟩:∃c:Nat,(headT s).n.b=(c:Int):=⟨(headT s).n.b.toNat,Uo⟩
     obtain⟨c,hc,_⟩:=az (l:=en.ctors) (k:=W);obtain⟨ga,go,hC⟩:=hF.ct W c hc;have h9:=hC.la;have l4:=KG List.length hC.args;rw[KF]at l4;have h':=aq (λt=>[ah t]) c.args;have Y:iZ B h.n.a (headT s).n.b=c:=by unfold iZ;rw[a5,a7,Int.toNat_natCast,QK,hc];rfl
     refine vm ei b8 ?_ ea;refine vm W hc ?_ a7;refine vi ?_;refine ae (λq4=>?_) (λq4=>?_)
     ·have e1:(argsT s).length=fI B h.n.a+(iZ B h.n.a (headT s).n.b).args.length:=by rw[Y,b9];omega
      have hr:cD B cx x=true:=by rw[d];exact OR q1 P q3 e1
      have A:=K hr;obtain⟨e2,vb,_⟩:=cA U (k:=2+W);rw[g,a7,Int.toNat_natCast,kr']at A;have e3:=nl (x:=kidD h (2+W)) (ys:=(argsT s).drop (fI B h.n.a)) Uk;have b':VC prog 211 [bB (kidD h (2+W)),.sl ((((argsT s).map trP).take (argsT s).length).drop (fI B h.n.a))] (bB (ak' (kidD h (2+W)) ((argsT s).drop (fI B h.n.a)))):=by
       rw[Hm rfl];exact e3
      have e4:=nl (x:=ak' (kidD h (2+W)) ((argsT s).drop (fI B h.n.a))) (ys:=l) Uo;rw[A];refine vk ?_;refine vi ?_;refine vt (2+W) e2 ?_ Uo;refine bO (fI B h.n.a) (argsT s).length ?_ (λz hz=>by
       obtain⟨t,_,rfl⟩:=List.mem_map.1 hz;exact(tc [t] t Ud).1) Us
      refine af b' ?_;refine af e4 ?_;exact kA9
     ·have hr:cD B cx x=false:=by rw[d];exact wN (.inr (.inr (.inr (by rw[Y,b9];omega))))
      have o:=V hr;refine vk ?_;refine vt 1 F ?_;refine af M ?_;refine vk ?_;cases mv with
      |false=>exact aF (h3:=by rw[o,m false];rfl)
      |true=>
       refine ae (λk=>?_) (λk=>?_)
       ·exact aF (h3:=by rw[o,m true,KX (.inr k)];rfl)
       ·refine af u ?_
        refine af N ?_;refine vk ?_;exact aF (h3:=by rw[o,m true,KY (λq=>q.elim (λq=>by cases q) k),E];rfl)
    ·have hr:cD B cx x=false:=by rw[d];exact wN (.inr (.inr (.inl q3)))
     have o:=V hr;refine vk ?_;refine vt 1 F ?_;refine af M ?_;refine vk ?_;cases mv with
     |false=>exact aF (h3:=by rw[o,m false];rfl)
     |true=>
      refine ae (λk=>?_) (λk=>?_)
      ·exact aF (h3:=by rw[o,m true,KX (.inr k)];rfl)
      ·refine af u ?_
       refine af N ?_;refine vk ?_;exact aF (h3:=by rw[o,m true,KY (λq=>q.elim (λq=>by cases q) k),E];rfl)
   ·have hr:cD B cx x=false:=by rw[d];exact wN (.inr (.inl P))
    have o:=V hr;refine vk ?_;refine vt 1 F ?_;refine af M ?_;refine vk ?_;cases mv with
    |false=>exact aF (h3:=by rw[o,m false];rfl)
    |true=>
     refine ae (λk=>?_) (λk=>?_)
     ·exact aF (h3:=by rw[o,m true,KX (.inr k)];rfl)
     ·refine af u ?_
      refine af N ?_;refine vk ?_;exact aF (h3:=by rw[o,m true,KY (λq=>q.elim (λq=>by cases q) k),E];rfl)
  ·have hr:cD B cx x=false:=by rw[d];exact wN (.inl q1)
   have o:=V hr;refine vk ?_;refine vt 1 F ?_;refine af M ?_;refine vk ?_;cases mv with
   |false=>exact aF (h3:=by rw[o,m false];rfl)
   |true=>
    refine ae (λk=>?_) (λk=>?_)
    ·exact aF (h3:=by rw[o,m true,KX (.inr k)];rfl)
    ·refine af u ?_
     refine af N ?_;refine vk ?_;exact aF (h3:=by rw[o,m true,KY (λq=>q.elim (λq=>by cases q) k),E];rfl)
 rw[KY D]at g d j;refine ae (λH=>?_) (λH=>?_)
 ·rw[KX H]at d j
  obtain⟨f,hf,c0,e5,e6⟩:=nI U.ok H;have i0:=dZ U.ok H;have e7:funsT h=h.ks.map (·.n):=by unfold funsT;rw[KX H]
  have e8:(funsT h)[h.n.a.toNat]?=some f.n:=by rw[e7,JX,hf];rfl
  refine vm h.n.a.toNat e8 ?_ Uo;rw[c0]at d j e5 e6;refine ae (λq1=>?_) (λq1=>?_)
  ·exact⟨_,_,rfl,rfl,(I (by rw[d,KH Uo];rfl) (by rw[j,KY Uo])).symm⟩
  obtain⟨pn,O⟩:∃k:Nat,f.n.a=(k:Int):=⟨f.n.a.toNat,Uo⟩
  obtain⟨y,S,_⟩:=az (l:=l) (k:=pn);have L:=JQ S;have eD:fJ x f.n.a=y:=by unfold fJ;rw[Z,QK,O,Int.toNat_natCast,S];rfl
  have eG:l.getD f.n.a.toNat (varX 0)=y:=by rw[QK,O,Int.toNat_natCast,S];rfl
  rw[eG,KU Uo,Bool.true_and]at d;rw[KX Uo,eD]at j;have fy:=ha y L;have wy:=(w4 y L).1;have c1:=Bb wy;refine vt pn S ?_ O;refine af c1 ?_;refine ae (λP=>?_) (λP=>?_)
  ·have P:¬ (headT y).n.op=10:=P
   have o:aS B cx x=iz x (aS B cx y):=by rw[o,d,KH P,j];rfl
   have M:=ih y fy (w4 y L).2;have c2:=λz=>Hk (l:=l) (i:=pn) (z:=z) S Uo;have R:=λz=>nl (x:=h) (ys:=l.set pn z) Uk;have c3:∀z,bP x z=ak' h (l.set pn z):=λz=>by rw[tv,a8,Z,KY D,c0,O,Int.toNat_natCast]
   generalize hr:aS B cx y=r at *
   obtain⟨z,mv,er⟩:=r;have u:=c2 z;have E:=c3 z;have N:=R z;rw[<- O]at u;have m:∀m',iz x (z,m',er)=if m'=false \/er≠0 then (x,m',er)else (bP x z,true,0):=λ_=>rfl
   refine vt pn S ?_ O;refine af M ?_;refine vk ?_;cases mv with
   |false=>exact aF (h3:=by rw[o,m false];rfl)
   |true=>
    refine ae (λk=>?_) (λk=>?_)
    ·exact aF (h3:=by rw[o,m true,KX (.inr k)];rfl)
    ·refine af u ?_
     refine af N ?_;refine vk ?_;exact aF (h3:=by rw[o,m true,KY (λq=>q.elim (λq=>by cases q) k),E];rfl)
  ·have P:(headT y).n.op=10:=QY P
   have A:=K (by rw[d,KU P]);rw[g]at A;rw[A];have e9:=OQ (qk B) hh H Uo Uo;have T:=nl (x:=(nm h).1) (ys:=l) Uo;refine af e9 ?_;refine af T ?_;exact aF
 rw[KY H]at d j;exact⟨_,_,rfl,rfl,(I d j).symm⟩
theorem goV:∀R,Hn B cx R
 |0=>λy _ h=>Uo
 |R+1=>λy a hl=>OS hB hcx hN a λz b c=>goV R z b Uo
end
theorem OT{n:Nd}{ks:List Tr}(e:aw n=true)(a:n.op=11)(hl:(ks.length:Int)=2+n.b)(hk:∀k∈ks,Ok .tm k):Ok .tm (.mk n ks):=by
 have b:n.op≠2:=Uo
 have c:n.op≠12:=Uo
 have f:n.op≠13:=Uo
 refine⟨⟨?_,?_⟩,?_⟩
 ·simp only[cnt,e,b]
  rw[KX ⟨trivial,Uo,Uo⟩];simp[bw,a];omega
 ·have:∀(l:List Tr) (j:Nat),(∀k∈l,Ok .tm k) ->bH cnt nx l n .tm j:=by
   intro l
   induction l with
   |nil=>intros;trivial
   |cons y l d=>
    intro j h;exact⟨by rw[show nx Md.tm n j= .tm by simp[nx,b,c]];exact(h y Ud).1,d _ λk hk=>h k (by simp[hk])⟩
  exact this ks 0 hk
 ·have:∀(l:List Tr),(∀k∈l,Ok .tm k) ->eV' l=true:=by
   intro l
   induction l with
   |nil=>intros;rfl
   |cons y l d=>
    intro h;simp[eV',(h y Ud).2,d λk hk=>h k (by simp[hk])]
  simp[gF',b,this ks hk]
theorem OU{Q:Nd ->Prop}{N:Int}{x y z:Tr}(a:Ft Q N x)(b:cE x=some y)(c:Ok .tm z):Ok .tm (bP x z):=by
 have d:∀u∈argsT x,Ok .tm u:=λu e=>(a.args u e).ok;rw[tv];unfold cE at b;split at b
 ·rename_i g
  rw[KX g];have hk:=gP a.head.ok g;refine eJ' _ _ (OT a.head.ok.pl g (by rw[List.length_set];exact hk.2.1) λk h=>?_) d;rcases List.mem_or_eq_of_mem_set h with h|h
  ·rw[<- hk.1]at h
   exact(vw (aC a.head) k h).1.ok
  ·rw[h];exact c
 ·rename_i g
  rw[KY g];refine eJ' _ _ a.head.ok λk h=>?_;rcases List.mem_or_eq_of_mem_set h with h|h
  ·exact d k h
  ·rw[h];exact c
theorem Ho{b u:Tr}(hb:Ok .tm b)(a:Ok .tm u)(c:dR u)(h:(cX b u).2=0):Ok .tm (cX b u).1/\(row (cX b u).1).length<=4096:=by
 unfold cX at h ⊢;split at h
 ·cases h
 ·rename_i g
  rw[KY g];exact⟨xE hb a c,uq hb a c (by simpa using g)⟩
theorem Hp(l:List Tr)(i:Nat):(l.drop i).length+dN (l.drop i)<=l.length+dN l:=by
 have h:dN l=dN (l.take i)+dN (l.drop i):=by
  unfold dN;rw[<- List.sum_append,<- KB,List.take_append_drop]
 rw[VK];omega
section
variable{B:ak}{cx:Ctx}(hB:GoodB B)(hcx:CxOk B cx)(hN:cx.length<=300)
include hB hcx hN
theorem OV{x:Tr}(A:Ft (QB B) (cx.length:Int) x)(hr:cD B cx x=true)(he:(dX B cx x).2=0):Ok .tm (dX B cx x).1/\(row (dX B cx x).1).length<=(row x).length+4096:=by
 have W:=A.nargs;rw[rows_len]at W;have r:=A.head;have X:=aC A;obtain⟨⟨d,Y,w3⟩,w4⟩:=nc _ X (KJ _);have R:=A.args;have a:∀(p:Tr) (f:List Tr),Ok .tm p ->(row p).length<=4096 ->(∀y∈f,Ok .tm y) ->f.length+dN f<=(row x).length ->Ok .tm (ak' p f)/\(row (ak' p f)).length<=(row x).length+4096:=λp f g h2 Z h4=>by
  refine⟨eJ' f p g Z,?_⟩;rw[bO'];simp only[JK,List.length_replicate,rows_len];omega
 have j:∀y∈argsT x,Ok .tm y:=λy D=>(R y D).ok;unfold dX at he ⊢
 dsimp only at he ⊢
 unfold cD at hr
 dsimp only at hr
 generalize headT x=h at *
 generalize argsT x=l at *
 by_cases H:h.n.op=5
 ·rw[KX H]at he ⊢ hr
  obtain⟨_,v0,E,_,_⟩:=gm d (.inr H);obtain⟨y,D,_⟩:=az (l:=l) (k:=0) (by simpa using hr);have ey:l.getD 0 (varX 0)=y:=by rw[QK,D];rfl
  rw[ey]at he ⊢;have s:=JQ D;obtain⟨I,K⟩:=Ho E.ok (j y s) ((R y s).small Uo) he;have:=Hp l 1;exact a _ _ I K (λu c=>j u (List.mem_of_mem_drop c)) Uo
 rw[KY H]at he ⊢ hr
 by_cases F:h.n.op=7
 ·rw[KX F]at he ⊢
  obtain⟨e,_⟩:=ql d.ok F;have a0:(kidsT h).length=3:=by rw[e];rfl
  obtain⟨_,E,_⟩:=cA d (k:=1);obtain⟨_,v2,_⟩:=cA d (k:=2);have f1:=(r.kidD (k:=1) Uo).2;have k1:kb h.n 1=0:=by simp[kb,bi,F]
  rw[k1]at f1;obtain⟨I,K⟩:=Ho v2.ok E.ok (f1.small Uo) he;exact a _ _ I K j Uo
 rw[KY F]at he ⊢
 by_cases g:h.n.op=1
 ·rw[KX g]at he ⊢
  rw[KY Uo,KX g]at hr;obtain⟨n0,n1⟩:=vA r g;obtain⟨⟨ty,vv⟩,L⟩:∃q,fR cx h.n.a=q:=⟨_,rfl⟩
  have t:=nH n0 n1;rw[L]at t hr ⊢;cases vv with
  |none=>cases hr
  |some v=>
   have S:=((hcx _ _ t).2 v rfl).lift (qk B) (b:=h.n.a+1) Uo Uo Uo;exact a _ _ S.ok S.len j Uo
 rw[KY g]at he ⊢
 by_cases M:h.n.op=8
 ·rw[KX M]at he ⊢
  obtain⟨i,en,ty,bo,ea,a1,N,T⟩:=hB.dfn r.node' M;have m:=T.fb;have O:tr (ax B h.n.a).body=bo:=by rw[N,T.body];exact iY m.ok
  rw[O];exact a _ _ m.ok m.len j Uo
 rw[KY M]at he ⊢;rw[KY Uo,KY g]at hr
 by_cases o:h.n.op=11
 ·rw[KX o]at he ⊢ hr
  have hk:=gP d.ok o;have kl:((kidsT h).length:Int)=2+h.n.b:=by rw[hk.1];exact hk.2.1
  obtain⟨a2,E,l1⟩:=cA d (k:=1);have f1:=(r.kidD (k:=1) Uo).2;simp only[iD,Bool.and_eq_true,decide_eq_true_eq]at hr;obtain⟨_,_,r3,_⟩:=hr;have a3:=dn f1.head.ok.pl;obtain⟨_,U,_⟩:=cA d (k:=2+(headT (kidD h 1)).n.b.toNat);have P:=f1.nargs;rw[rows_len]at P;have:=Hp (argsT (kidD h 1)) (fI B h.n.a);refine a _ _ U.ok U.len (λu c=>?_) ?_
  ·rcases List.mem_append.1 c with c|c
   ·exact(f1.args u (List.mem_of_mem_drop c)).ok
   ·exact j u c
  ·have e:dN ((argsT (kidD h 1)).drop (fI B h.n.a)++l)=dN ((argsT (kidD h 1)).drop (fI B h.n.a))+dN l:=by
    unfold dN;rw[KB,List.sum_append]
   rw[JK,e];omega
 rw[KY o]at he ⊢ hr
 by_cases z:h.n.op=12
 ·have c:lB h= .ok (nm h).1:=by
   unfold lB;rw[A9,KY (by
    intro q;exact q he)]
   rfl
  have V:=x7 (qk B) r z Uo Uo c;exact a _ _ V.ok V.len j Uo
 ·rw[KY z]at hr
  cases hr
theorem OW(M:Nat):∀x:Tr,Ft (QB B) (cx.length:Int) x ->(row x).length<=M ->(aS B cx x).2.2=0 ->Ok .tm (aS B cx x).1/\(row (aS B cx x).1).length<=(row x).length+4096:=by
 induction M with
 |zero=>intro x _ h;have:=aR x;omega
 |succ M c=>
  intro x a h;rw[mh (aC a)]
  by_cases hr:cD B cx x=true
  ·rw[KX hr]
   exact λd=>OV hB hcx hN a hr d
  ·rw[KY hr]
   cases b:cE x with
   |none=>exact λ_=>⟨a.ok,Us⟩
   |some p=>
    obtain⟨e,j⟩:=kB a b;simp only;unfold iz;split
    ·exact λ_=>⟨a.ok,Us⟩
    ·rename_i q
     intro _;have f:(aS B cx p).2.2=0:=QY λg=>q (.inr g);obtain⟨i,k⟩:=c p e Uo f;have l:=rt (p:=(aS B cx p).1) a b;exact⟨OU a b i,Us⟩
def tw(r:Except Int (Tr×Nat)):PV:=match r with
 | .ok q=>.tup [ah (row q.1),pI q.2,pI 0]
 | .error e=>.tup [.sl [],pI 0,pI e]
theorem Be{x:Tr}(A:Ft (QB B) (cx.length:Int) x){n:Nat}(O:n<=100000):VC prog 145 [bk B,aO (cx.map aE),ah (row x),pI n] (tw (cY B cx 4096 n x)):=by
 generalize c:cY B cx 4096 n x=e;refine vf 49 [.tmp 8,.tmp 9,.tmp 10] τok func145 ?_;refine af (iO (aC A)) ?_;refine aB τok (σ:=Nat×Tr) [(1,_),(4,_),(11,_)] [(4,_)] (λq=>[(3,vI q.1)]) (λq=>[(11,.st 0 60 ((ec q.2).map .p))]) (λq=>q.1<=n/\Ft (QB B) (cx.length:Int) q.2/\cY B cx 4096 q.1 q.2=e) (λq=>q.1) (n,x) ⟨KJ _,A,c⟩ ?_
 clear c
 rintro⟨k,z⟩ ⟨E,d,f⟩;simp only at E d f;have s:=goV hB hcx hN _ z d (Nat.lt_succ_self _);have t:=OW hB hcx hN _ z d (KJ _);have u:=Hj hB hcx Uo _ z d (KJ _);obtain⟨v,F⟩:=tu _ z (aC d) (KJ _);have H:=d.len;have l:=λa=>wH (B:=B) (cx:=cx) (room:=a) (n:=k) (x:=z);have o:=λa=>wI (B:=B) (cx:=cx) (room:=a) (x:=z);have I:=λa m=>qN (B:=B) (cx:=cx) (room:=a) (n:=m) (x:=z);have g:=λa m=>wJ (B:=B) (cx:=cx) (room:=a) (n:=m) (x:=z)
 generalize hr:aS B cx z=r at *
 obtain⟨y,mv,i⟩:=r;refine aj<|af s ?_;cases mv with
 |false=>
  have l:=l 4096 rfl;rw[f]at l;subst l;refine af (lJ 4096 Uo z (aC d) d.len) ?_;exact aF
 |true=>
  refine ae (λq1=>?_) (λq1=>?_)
  ·have q1:(k:Int)=0:=q1
   obtain rfl:k=0:=Uo
   have o:=o 4096 rfl;rw[f]at o;subst o;exact aF
  have q1:¬ (k:Int)=0:=q1;obtain⟨m,rfl⟩:∃m,k=m+1:=⟨k-1,Uo⟩
  have j:(i≠0 \/(4096:Int)<len y) ->e= .error 9:=λh=>by rw[<- f];exact I 4096 m rfl h
  refine ae (λb=>?_) (λb=>?_)
  ·have b:i=0:=b
   obtain⟨D,K⟩:=t b;simp only at D K;refine af (A8 10000 Uo y D Uo) ?_;refine ae (λL=>?_) (λL=>?_)
   ·have:=j (.inr (by unfold len;omega))
    subst this;refine vy (p:=(9:Int)≠0) ?_ UO;exact aF
   ·refine vn (p:=i≠0) ?_
    refine vi ?_;have g:=g 4096 m rfl (by
     rintro(h|h)
     ·exact h b
     ·unfold len at h;simp only at h;omega)
    simp only at g;rw[f]at g;have M:=u rfl b Us;exact au (m,y) ⟨Us,M,g.symm⟩ (x:=⟨KG (λz=>some (vI z)) Us,trivial⟩)
  ·have b:¬ i=0:=b
   have:=j (.inl b);subst this;have N:i=9:=v.resolve_left b;subst N;refine vy (p:=(9:Int)≠0) ?_ UO;exact aF
end
def SmC(c:List (List Nd×List Nd)):Prop:=c.length<=1000000/\∀q∈c,q.1.length<=1000000/\q.2.length<=1000000
theorem tx{x:Tr}(e:Wf x)(h2:x.n.op=2):VC prog 53 [ah (row x)] (cw (bq x)):=by
 have hr:=iH e.ok;have hk:kidsT x=[]:=by unfold kidsT;cases x;exact KX h2
 have f:atmsT x=x.ks.map (·.n):=by unfold atmsT;rw[KX h2]
 rw[hk,f]at hr;simp only[cj,JD]at hr;have p:=e.len;have b:=KG List.length hr;simp only[JV,KF]at b;have r:=aq ndP (row x);have d:∀j,j<x.ks.length ->∃k,x.ks[j]?=some k/\(row x)[j+1]?=some k.n:=λj i=>by
  obtain⟨k,hk,_⟩:=az (l:=x.ks) (k:=j) i;exact⟨k,hk,by rw[hr,List.getElem?_cons_succ,JX,hk];rfl⟩
 refine cN 26 [.tmp 2] τok func53 ?_;refine aj<|dK 3 1000 154 2 rfl rfl<|aB τok (σ:=Nat×Int) [(0,_)] [] (λq=>[(3,.c (.row 1000)),(4,vI q.2)]) (λq=>[(1000,.rw 154 2 (((bq x).take q.1).map atP))]) (λq=>q.1<=x.ks.length/\q.2=(q.1:Int)+1) (λq=>x.ks.length-q.1) (0,1) ⟨KV _,rfl⟩ ?_;rintro⟨j,v⟩ ⟨m,o⟩;simp only at m o;refine aj<|ae (λg=>?_) (λg=>?_)
 ·simp only at g
  obtain⟨k,hk,a⟩:=d j Uo;refine vm (j+1) a ?_ Us;refine vm (j+1) a ?_ Us;refine bg ?_ (hb:=Uk);refine vk ?_;refine vi ?_;exact au (j+1,v+1) ⟨Us,Us⟩ (sw 1000 24) (y':=⟨KG (λl=>some (SE.rw _ _ l)) (by
   rw[QQ,KB];unfold bq;rw[JX,hk]
   rfl),trivial⟩)
 ·simp only at g
  rw[JG (by simp[bq];omega)];exact aF
def cJ(cx:Ctx)(x:Tr)(i:Nat):Ctx:=if (x.n.op=4 \/x.n.op=5)/\i=1 then cx++[(kidD x 0,none)]else if x.n.op=12/\i%2=1 then cx++bv x else cx
theorem Hq{cx:Ctx}{x:Tr}{Q:Nd ->Prop}(D:Qk Q){N:Int}(t:Ft Q N x)(S:0<=N)(hN:N<=90000)(hc:cx.length<=1000)(i:Nat)(hi:i<=1000):VC prog 95 [aO (cx.map aE),ah (row x),pI i] (aO ((cJ cx x i).map aE)):=by
 have g:=aC t;have a:(row x)[0]?=some x.n:=by rw[iH t.ok];rfl
 have E:=aq aE cx;have F:=gO t.ok;have H:=ji g;refine vf 76 [.tmp 6] τok func95 ?_;refine va (p:=bdP) ?_ (GK _);refine af H ?_;refine vm 0 a ?_;have f:¬ ((x.n.op=4 \/x.n.op=5)/\i=1) ->¬ x.n.op=12 ->cJ cx x i=cx:=λm n=>by unfold cJ;rw[KY m,KY λq=>n q.1]
 have u:(x.n.op=4 \/x.n.op=5) ->i=1 ->cJ cx x i=cx++[(kidD x 0,none)]:=λm n=>by unfold cJ;rw[KX ⟨m,n⟩]
 have one:(x.n.op=4 \/x.n.op=5) ->((kidsT x).map row)[0]?=some (row (kidD x 0)):=λh=>by
  obtain⟨e,_⟩:=gm g h;rw[e]
  rfl
 have fin:(x.n.op=4 \/x.n.op=5) ->i=1 ->PV.sl ((cx.map aE).map bdP++[[ah (row (kidD x 0)),.sl []]])=aO ((cJ cx x i).map aE):=λm n=>by
  rw[u m n];unfold aO;rw[KB,KB]
  rfl
 refine ae (λv=>?_) (λv=>?_)
 ·refine ae (λo=>?_) (λo=>?_)
  ·refine aA 0 (one (.inl v)) ?_
   refine bg ?_;refine vm 0 a ?_;exact vn<|⟨_,_,rfl,rfl,fin (.inl v) Uo⟩
  ·refine vm 0 a ?_
   refine vn ?_;exact aF (h3:=by rw[f Uo Uo];rfl)
 refine vm 0 a ?_;refine ae (λy=>?_) (λy=>?_)
 ·refine ae (λo=>?_) (λo=>?_)
  ·refine aA 0 (one (.inr y)) ?_
   refine bg ?_;refine vm 0 a ?_;exact vn<|⟨_,_,rfl,rfl,fin (.inr y) Uo⟩
  ·refine vm 0 a ?_
   refine vn ?_;exact aF (h3:=by rw[f Uo Uo];rfl)
 refine vm 0 a ?_;refine ae (λd=>?_) (λd=>?_)
 ·refine pT Uo Uo Uo ?_
  refine ae (λo=>?_) (λo=>?_)
  ·have T:=gu g.ok d
   have I:=dZ g.ok d;have K:cJ cx x i=cx++bv x:=by unfold cJ;rw[KY Uo,KX ⟨d,Uo⟩]
   have L:(bv x).length=x.n.b.toNat:=by simp[bv]
   refine aB τok (σ:=Nat) [(1,_),(8,_)] [] (λj=>[(7,.c (.row 1000)),(9,vI j)]) (λj=>[(1000,.rw 105 2 ((cx.map aE).map bdP++(((bv x).take j).map aE).map bdP))]) (λj=>j<=x.n.b.toNat) (λj=>x.n.b.toNat-j) 0 (KV _) ?_ (sw 1000 14) (y1:=⟨KG (λl=>some (SE.rw _ _ l)) (by simp[dp]),trivial⟩);rintro j U;have V:((bv x).take j).length=j:=by rw[VJ];omega
   refine aj<|vm 0 a ?_;refine ae (λM=>?_) (λM=>?_)
   ·obtain⟨hk,r,W⟩:=cA g (k:=2*j)
    have z:=(t.kidD (k:=2*j) Uo).2;have O:kb x.n (2*j)=0:=by unfold kb;rw[KX d,KY Uo]
    rw[O]at z;have P:=z.small Uo;have hr:=sY (j:Int) Uo 4096 Uo (kidD x (2*j)) 0 r ⟨Uo,by have:=r.len;omega⟩ r.len;have el:=v7 (x:=kidD x (2*j)) (fr:=0) r.ok P (b:=(j:Int)) Uo;rw[<- el]at hr;have A:=z.lift D (b:=(j:Int)) Uo Uo Uo;have s:=lJ 4096 Uo _ (aC A) A.len;refine vi ?_;refine aA (2*j) (x:=row (kidD x (2*j))) (by rw[JX,hk];rfl) ?_;refine af (iO r) ?_;refine af hr ?_;refine af s ?_;refine bg ?_ (hb:=Uk);refine vi ?_;exact au (j+1) (by show j+1<=_;omega) (sw 1000 74) (y':=⟨KG (λl=>some (SE.rw _ _ l)) (by
     have R:(bv x)[j]?=some (aG (kidD x (2*j)) j 0,none):=by
      unfold bv;rw[JX,List.getElem?_range Uo]
      rfl
     rw[QQ,R,KB,KB,<- List.append_assoc]
     rfl),trivial⟩)
   ·rw[JG Uo]
    exact aF (h3:=by rw[K];unfold aO;rw[KB,KB];rfl)
  ·exact aF (h3:=by
    have e:cJ cx x i=cx:=by unfold cJ;rw[KY Uo,KY Uo]
    rw[e]
    rfl)
 ·exact aF (h3:=by rw[f Uo d];rfl)
theorem Hr(m:Except Int (Bool×Nat)):gz m (λn=>.ok (true,n))=m:=by
 unfold gz;cases m with
 |error e=>rfl
 |ok q=>
  obtain⟨b,n⟩:=q;cases b<;>rfl
def kidsL(rc:RcC)(cx:Ctx)(f:Tr)(u:Bool):Nat ->List Tr ->List Tr ->Nat ->Except Int (Bool×Nat)
 |i,x::r,y::s,n=>gz (rc (cJ cx f i) x y ((u && decide (f.n.op=4)) && decide (i=1)) n) (kidsL rc cx f u (i+1) r s)
 |_,_,_,n=>.ok (true,n)
def Bf(B:ak)(rc:RcC)(cx:Ctx)(f g:Tr)(u:Bool)(n:Nat):Except Int (Bool×Nat):=
 if f.n.op=2/\ip B f g u=false then .ok (false,n)
 else if (f.n.op≠2/\f.n.op≠4/\f.n.op≠5)/\f.n≠g.n then .ok (false,n)
 else if funsT f≠funsT g then .ok (false,n)
 else kidsL rc cx f u 0 (kidsT f) (kidsT g) n
theorem Hs{rc:RcC}{cx:Ctx}{f:Tr}{u:Bool}(h4:f.n.op≠4)(b:f.n.op≠5)(a:f.n.op≠12):∀(l m:List Tr) (i n:Nat),kidsL rc cx f u i l m n=di rc cx l m n
 |[],_,_,_=>by simp[kidsL,di]
 |_::_,[],_,_=>by simp[kidsL,di]
 |x::r,y::s,i,n=>by
  have e:cJ cx f i=cx:=by unfold cJ;rw[KY Uo,KY Uo]
  simp only[kidsL,di];rw[e,KH h4,Bool.and_false,Bool.false_and]
  congr 1
  funext n
  exact Hs h4 b a r s (i+1) n
theorem Ht{rc:RcC}{cx:Ctx}{f:Tr}{u:Bool}(c:f.n.op=12):∀(l m:List Tr) (i n:Nat),i%2=0 ->l.length%2=0 ->l.length=m.length ->kidsL rc cx f u i l m n=eo rc cx (cx++bv f) l m n
 |[],[],_,_,_,_,_=>by simp[kidsL,eo]
 |[],_::_,_,_,_,_,h=>by simp at h
 |_::_,[],_,_,_,_,h=>by simp at h
 |[_],_,_,_,_,h,_=>by simp at h
 |_::_::_,[_],_,_,_,_,h=>by simp at h
 |x::a::r,y::b::s,i,n,j,hl,he=>by
  have d:cJ cx f i=cx:=by unfold cJ;rw[KY Uo,KY Uo]
  have e:cJ cx f (i+1)=cx++bv f:=by unfold cJ;rw[KY Uo,KX Uo]
  have g:¬ f.n.op=4:=Uo
  simp only[kidsL,eo];rw[d,e,KH g,Bool.and_false,Bool.false_and,Bool.false_and]
  congr 1
  funext n
  congr 1
  funext n
  exact Ht c r s (i+1+1) n Uo (by simp only[JV]at hl;omega) (by simpa using he)
theorem wO{f:Tr}(i:Wf f)(d:f.n.op=12):funsT f=(placesM f).map λa=>⟨13,a,0⟩:=by
 unfold funsT placesM;rw[KX d,List.map_map];refine List.map_congr_left λk hk=>?_;obtain⟨j,l⟩:=JH hk;obtain⟨m,n,_,c,g,_⟩:=lA i.ok d l;have e:k.n.b=0:=by
  simp[aw,c]at g;exact g.2
 show k.n=⟨13,k.n.a,0⟩
 cases hk:k.n with
 |mk o a b=>
  rw[hk]at c e;simp only at c e;rw[c,e]
theorem OX(B:ak)(rc:RcC)(cx:Ctx){f g:Tr}(j:Wf f)(k:Wf g)(t:f.n.op=g.n.op)(u:Bool)(n:Nat):je B rc cx f g u n=Bf B rc cx f g u n:=by
 have a:∀x:Tr,x.n.op≠12 ->funsT x=[]:=λx h=>KY h;unfold je Bf
 by_cases e:f.n.op=2
 ·have hk:kidsT f=[]:=by unfold kidsT;cases f;exact KX e
  rw[KX e];cases v:ip B f g u with
  |false=>rw[KX ⟨e,rfl⟩]
  |true=>
   rw[KY (by rintro⟨_,h⟩;cases h),KY (λh=>h.1.1 e),a f Uo,a g Uo,KY Ud,hk];simp[kidsL]
 rw[KY e,KY (show ¬ (f.n.op=2/\ip B f g u=false)from λh=>e h.1)]
 by_cases d:f.n.op=4
 ·obtain⟨m,_⟩:=gm j (.inl d)
  obtain⟨o,_⟩:=gm k (.inl Uo);have p:cJ cx f 0=cx:=by unfold cJ;rw[KY Uo,KY Uo]
  have q:cJ cx f 1=cx++[(kidD f 0,none)]:=by unfold cJ;rw[KX Uo]
  rw[KX d,KY (λh=>h.1.2.1 d),a f Uo,a g Uo,KY Ud,m,o];simp only[kidsL];rw[p,q,KU d];simp only[Bool.and_true]
  congr 1
  ·simp
  ·funext n
   simp[Hr]
 rw[KY d]
 by_cases i:f.n.op=5
 ·obtain⟨m,_⟩:=gm j (.inr i)
  obtain⟨o,_⟩:=gm k (.inr Uo);have p:cJ cx f 0=cx:=by unfold cJ;rw[KY Uo,KY Uo]
  have q:cJ cx f 1=cx++[(kidD f 0,none)]:=by unfold cJ;rw[KX Uo]
  rw[KX i,KY (λh=>h.1.2.2 i),a f Uo,a g Uo,KY Ud,m,o];simp only[kidsL];rw[p,q,KH d];simp only[Bool.and_false,Bool.false_and]
  congr 1
  funext n
  simp[Hr]
 rw[KY i]
 by_cases b:f.n.op=12
 ·rw[KX b]
  by_cases c:f.n=g.n
  ·rw[KX c,KY (show ¬ ((f.n.op≠2/\f.n.op≠4/\f.n.op≠5)/\f.n≠g.n)from λh=>h.2 c)]
   have r:=gu j.ok b;have s:=gu k.ok Uo;have y:f.n.b=g.n.b:=by rw[c]
   unfold mS
   by_cases l:placesM f=placesM g
   ·rw[KX l,KY (by rw[wO j b,wO k Uo,l];simp),Ht b _ _ 0 n rfl Uo Uo]
   ·rw[KY l,KX]
    intro h;rw[wO j b,wO k Uo]at h;refine l ?_;have:=KG (List.map Nd.a) h;rw[List.map_map,List.map_map]at this;exact(List.map_id _).symm.trans (this.trans (List.map_id _))
  ·rw[KY c,KX ⟨⟨e,d,i⟩,c⟩]
 ·rw[KY b]
  by_cases c:f.n=g.n
  ·rw[KX c,KY (show ¬ ((f.n.op≠2/\f.n.op≠4/\f.n.op≠5)/\f.n≠g.n)from λh=>h.2 c),a f b,a g Uo,KY Ud,Hs d i b]
  ·rw[KY c,KX ⟨⟨e,d,i⟩,c⟩]
def qO(r:Except Int (Bool×Nat)):PV:=match r with
 | .ok q=>.tup [.bool q.1,pI q.2,pI 0]
 | .error e=>.tup [.bool false,pI 0,pI e]
def tz(B:ak)(g:Nat):Prop:=∀(cx:Ctx) (x y:Tr) (u:Bool) (n:Nat),CxOk B cx ->cx.length<=260 ->Ft (QB B) (cx.length:Int) x ->Ft (QB B) (cx.length:Int) y ->n<=g ->n<=100000 ->VC prog 155 [bk B,aO (cx.map aE),ah (row x),ah (row y),pI n,.bool u] (qO (df B g cx x y u n))
theorem Hu{B:ak}{cx:Ctx}(hB:GoodB B)(hcx:CxOk B cx)(hN:cx.length<=300){x z:Tr}{n b:Nat}(d:Ft (QB B) (cx.length:Int) x)(g:n<=100000)(h:cY B cx 4096 n x= .ok (z,b)):Ft (QB B) (cx.length:Int) z/\b<=n:=by
 have e:=wL hB hcx Uo d (n:Int);have f:bK (n:Int)=n:=by unfold bK;omega
 rw[f,h]at e;unfold eg at e;obtain⟨a,_,c⟩:=pP hB hcx Uo _ x 4096 _ z b d (by have:=d.len;unfold len;omega) Uo e;exact⟨a,by rw[f]at c;exact c⟩
theorem Bg{B:ak}{cx:Ctx}{room:Int}:∀(n:Nat) (x:Tr) (e:Int),cY B cx room n x= .error e ->e=9 \/e=10
 |0,x,e,h=>by
  simp only[cY]at h;split at h
  ·cases h
  ·injection h with h
   exact .inr h.symm
 |n+1,x,e,h=>by
  simp only[cY]at h;split at h
  ·cases h
  ·split at h
   ·injection h with h
    exact .inl h.symm
   ·exact Bg n _ e h
theorem wP{B:ak}{cx:Ctx}:∀(g:Nat) (x:Tr) (room:Int) (n:Nat) (e:Int),cz B cx g x room n= .error e ->e≠0
 |0,x,room,n,e,h=>by
  injection h with h
  omega
 |g+1,x,room,n,e,h=>by
  simp only[cz]at h;cases a:ja (cz B cx g) x room n with
  |error d=>
   rw[a]at h;have h:(.error d:Except Int (Tr×Nat))= .error e:=h;injection h with h
   subst h;unfold ja at a;cases f:cE x with
   |none=>rw[f]at a;cases a
   |some p=>
    rw[f]at a;simp only at a;cases hr:cz B cx g p (room-len x+len p) n with
    |error b=>
     rw[hr]at a;have a:(.error b:Except Int (Tr×Nat))= .error d:=a;injection a with a
     subst a;exact wP g _ _ _ _ hr
    |ok q=>rw[hr]at a;cases a
  |ok q=>
   rw[a]at h;have h:jb B cx (cz B cx g) room q= .error e:=h;unfold jb at h;split at h
   ·split at h
    ·injection h with h;omega
    ·cases c:gR B cx q.1 with
     |error b=>
      rw[c]at h;have h:(.error b:Except Int (Tr×Nat))= .error e:=h;injection h with h
      have:=E7 c;omega
     |ok z=>
      rw[c]at h;simp only at h;split at h
      ·injection h with h;omega
      ·exact wP g _ _ _ _ h
   ·cases h
def wQ(rc:RcC):Prop:=∀cx x y u n e,rc cx x y u n= .error e ->e≠0
theorem qP{m:Except Int (Bool×Nat)}{k:Nat ->Except Int (Bool×Nat)}{e:Int}(h1:∀e,m= .error e ->e≠0)(h2:∀n e,k n= .error e ->e≠0)(h:gz m k= .error e):e≠0:=by
 unfold gz at h;cases m with
 |error a=>
  injection h with h
  exact h▸h1 a rfl
 |ok q=>
  simp only at h;split at h
  ·exact h2 _ _ h
  ·cases h
theorem Bh{rc:RcC}(hr:wQ rc)(cx:Ctx):∀(l m:List Tr) (n:Nat) (e:Int),di rc cx l m n= .error e ->e≠0
 |[],_,_,_,h=>by simp[di]at h
 |_::_,[],_,_,h=>by simp[di]at h
 |x::r,y::s,n,e,h=>by
  simp only[di]at h;exact qP (λe h=>hr _ _ _ _ _ _ h) (λn e h=>Bh hr cx r s n e h) h
theorem Hv{rc:RcC}(hr:wQ rc)(cx c:Ctx):∀(l m:List Tr) (n:Nat) (e:Int),eo rc cx c l m n= .error e ->e≠0
 |[],_,_,_,h=>by simp[eo]at h
 |[_],_,_,_,h=>by simp[eo]at h
 |_::_::_,[],_,_,h=>by simp[eo]at h
 |_::_::_,[_],_,_,h=>by simp[eo]at h
 |x::a::r,y::b::s,n,e,h=>by
  simp only[eo]at h;exact qP (λe h=>hr _ _ _ _ _ _ h) (λn e h=>qP (λe h=>hr _ _ _ _ _ _ h) (λn e h=>Hv hr cx c r s n e h) h) h
theorem OY{B:ak}{rc:RcC}(hr:wQ rc)(cx:Ctx)(f g:Tr)(u:Bool)(n:Nat)(e:Int)(h:je B rc cx f g u n= .error e):e≠0:=by
 unfold je at h;split at h
 ·cases h
 split at h
 ·exact qP (λe h=>hr _ _ _ _ _ _ h) (λn e h=>hr _ _ _ _ _ _ h) h
 split at h
 ·exact qP (λe h=>hr _ _ _ _ _ _ h) (λn e h=>hr _ _ _ _ _ _ h) h
 split at h
 ·split at h
  ·unfold mS at h
   split at h
   ·exact Hv hr _ _ _ _ _ _ h
   ·cases h
  ·cases h
 split at h
 ·exact Bh hr _ _ _ _ _ h
 ·cases h
theorem Bi(B:ak):∀g,wQ (df B g)
 |0,cx,x,y,u,n,e,h=>by
  injection h with h
  omega
 |g+1,cx,x,y,u,n,e,h=>by
  simp only[df]at h;split at h
  ·injection h with h;omega
  split at h
  ·cases h
  split at h
  ·injection h with h;omega
  split at h
  ·rename_i a h1
   injection h with h
   subst h;exact wP _ _ _ _ _ h1
  ·split at h
   ·rename_i a h1
    injection h with h
    subst h;exact wP _ _ _ _ _ h1
   ·unfold nY at h
    split at h
    ·cases h
    ·exact qP (λe h=>OY (Bi B g) _ _ _ _ _ _ h) (λn e h=>Bh (Bi B g) _ _ _ _ _ h) h
theorem tA{B:ak}(hB:GoodB B)(g:Nat)(cx:Ctx)(x y:Tr)(u:Bool)(n:Nat)(e:Int)(h:df B g cx x y u n= .error e):e≠0:=Bi B g _ _ _ _ _ _ h
theorem Hw{B:ak}{cx:Ctx}{room:Int}:∀(n:Nat) (x z:Tr) (a:Nat),cY B cx room n x= .ok (z,a) ->(aS B cx z).2.1=false
 |0,x,z,a,h=>by
  simp only[cY]at h;split at h
  ·rename_i g
   injection h with h
   injection h with h1 h2
   subst h1;exact g
  ·cases h
 |n+1,x,z,a,h=>by
  simp only[cY]at h;split at h
  ·rename_i g
   injection h with h
   injection h with h1 h2
   subst h1;exact g
  ·split at h
   ·cases h
   ·exact Hw n _ z a h
theorem OZ{B:ak}{cx:Ctx}{z:Tr}(a:Wf z)(h:(aS B cx z).2.1=false):(headT z).n.op≠7:=λb=>by
 have hr:cD B cx z=true:=by
  unfold cD;rw[KY Uo,KX (.inl b)]
 rw[mh a,KX hr]at h;cases h
theorem O0{B:ak}{cx:Ctx}{f:Tr}(hcx:CxOk B cx)(hN:cx.length<=300)(d:Ft (QB B) (cx.length:Int) f)(m:f.n.op≠7)(i:Nat):CxOk B (cJ cx f i)/\((cJ cx f i).length:Int)=cx.length+kb f.n i:=by
 have l:=aC d;unfold cJ
 by_cases c:(f.n.op=4 \/f.n.op=5)/\i=1
 ·rw[KX c]
  obtain⟨e,_⟩:=gm l c.1;have f0:=(d.kidD (k:=0) (by rw[e];simp)).2;have g:kb f.n 0=0:=by unfold kb;rw[KY Uo];simp[bi]
  have j:kb f.n i=1:=by unfold kb;rw[KY Uo];simp[bi];omega
  rw[g,Int.add_zero]at f0;rw[j];exact⟨hcx.snoc f0 (λx n=>by cases n),Ud⟩
 rw[KY c]
 by_cases a:f.n.op=12/\i%2=1
 ·rw[KX a]
  have o:=dZ l.ok a.1;have j:kb f.n i=f.n.b:=by unfold kb;rw[KX a.1,KX a.2]
  rw[j];refine⟨pb hcx Uo d a.1,?_⟩;rw[JK];simp only[bv,KF,List.length_range];omega
 rw[KY a];have g:kb f.n i=0:=by
  unfold kb
  by_cases b:f.n.op=12
  ·rw[KX b,KY (λq=>a ⟨b,q⟩)]
  ·rw[KY b]
   unfold bi;rw[KY];rintro(q|q)
   ·exact c ⟨q.1,Uo⟩
   ·exact m q.1
 rw[g];exact⟨hcx,Uo⟩
section
variable{B:ak}(hS:dh B)(hB:GoodB B)
include hS hB
theorem O1{g:Nat}(ih:tz B g){cx:Ctx}{x y:Tr}{u:Bool}{n:Nat}(hcx:CxOk B cx)(hcl:cx.length<=260)(hx:Ft (QB B) (cx.length:Int) x)(hy:Ft (QB B) (cx.length:Int) y)(c0:n<=g+1)(O:n<=100000):VC prog 155 [bk B,aO (cx.map aE),ah (row x),ah (row y),pI n,.bool u] (qO (df B (g+1) cx x y u n)):=by
 have eC:=aq bdP (cx.map aE);have c2:=aq aE cx;have c3:=hx.len;have c4:=hy.len;generalize c:df B (g+1) cx x y u n=v;simp only[df]at c;refine cN 262 [.tmp 12,.tmp 13,.tmp 14] τok func155 ?_;refine aD<|aD<|ae (λg0=>?_) (λg0=>?_)
 ·rw[KX Uo]at c
  subst c;exact aF
 rw[KY Uo]at c;obtain⟨m,rfl⟩:∃m,n=m+1:=⟨n-1,Uo⟩
 rw[Nat.add_sub_cancel]at c;have em:((m+1:Nat):Int)-1=(m:Int):=Uo
 refine aD<|vi ?_;refine aD<|bN (qv (a:=row x) (b:=row y) Uo Uo) (λs=>?_) (λs=>?_)
 ·rw[KX (of_decide_eq_true s)]at c
  subst c;exact aF (h3:=by rw[em];rfl)
 rw[KY (of_decide_eq_false s)]at c;refine aD<|ae (λg1=>?_) (λg1=>?_)
 ·rw[KX Uo]at c
  subst c;exact aF
 rw[KY Uo]at c;refine aD ?_;have b6:bK (m:Int)=m:=by unfold bK;omega
 rw[wL hB hcx Uo hx,b6]at c;have wx:=Be hB hcx Uo hx (n:=m) Uo;cases K:cY B cx 4096 m x with
 |error e=>
  rw[K]at wx c;have c:(.error e:Except Int (Bool×Nat))=v:=c;subst c;refine af (r:=tw (.error e)) (by rw[em];exact wx) ?_;refine aD ?_;have he:=Bg _ _ _ K;refine vy (p:=e≠0) ?_;exact aF
 |ok p=>
 rw[K]at wx c;obtain⟨x',m1⟩:=p;obtain⟨P,c5⟩:=Hu hB hcx Uo hx Uo K;refine af (r:=tw (.ok (x',m1))) (by rw[em];exact wx) ?_;refine aD<|vn ?_;refine aD ?_;simp only at c;have a5:bK (m1:Int)=m1:=by unfold bK;omega
 rw[wL hB hcx Uo hy,a5]at c;have wy:=Be hB hcx Uo hy (n:=m1) Uo;cases R:cY B cx 4096 m1 y with
 |error e=>
  rw[R]at wy c;have c:(.error e:Except Int (Bool×Nat))=v:=c;subst c;refine af wy ?_;refine aD ?_;have he:=Bg _ _ _ R;refine vy (p:=e≠0) ?_;exact aF
 |ok p=>
 rw[R]at wy c;obtain⟨y',X⟩:=p;obtain⟨L,c6⟩:=Hu hB hcx Uo hy Uo R;refine af wy ?_;refine aD<|vn ?_;simp only at c;have sx:=As (aC P);have sy:=As (aC L);refine aD<|af sx ?_;refine aD<|af sy ?_;unfold nY at c;have ff:=P.head;have fg:=L.head;have la:=P.args;have lb:=L.args;have wf:=aC ff;have M:=aC fg;have bl:=ou (aC L) 4096 L.len;have e7:=aq row (argsT x');have e8:=aq row (argsT y')
 generalize hf:headT x'=f at *
 generalize hg:headT y'=h at *
 generalize hl:argsT x'=l at *
 generalize hm:argsT y'=k at *
 refine aD<|vm 0 (aN wf) ?_;refine aD<|vm 0 (aN M) ?_;refine ae (λU=>?_) (λU=>?_)
 ·rw[KX (.inl U)]at c
  subst c;exact aF
 have U:f.n.op=h.n.op:=QY U;have e9:((l.map row).map λt=>[ah t]).length=l.length:=Ud
 have c7:((k.map row).map λt=>[ah t]).length=k.length:=Ud
 refine ae (λg3=>?_) (λg3=>?_)
 ·rw[KX (.inr Uo)]at c
  subst c;exact aF
 rw[KY (by
  rintro(q|q)
  ·exact q U
  ·omega),OX B _ cx wf M U u X]at c
 unfold Bf at c;have lf:=λh2=>tx wf h2;have lg:=λh2=>tx M h2;have c8:=wf.len;have g7:f.n.op≠7:=by
  rw[<- hf];exact OZ (aC P) (Hw _ _ _ _ K)
 refine dd τok (σ:=Unit) [(1,_),(4,_),(5,_),(6,_),(16,_),(17,_),(18,_),(19,_),(20,_)] [(6,_)] (λ_=>[]) (λ_=>[]) (λ_=>¬ (f.n.op=2/\ip B f h u=false)) ?_ ?_
 ·refine ae (λI=>?_) (λI=>?_)
  rotate_left
  ·exact au () λq=>I q.1
  have I:f.n.op=2:=I;have lf:=lf I;have lg:=lg Uo;have S:∀z:Tr,Wf z ->z.n.op=2 ->(bq z).length<=1000000:=λz hz h2=>by
   have hr:=KG List.length (iH hz.ok);have ha:atmsT z=z.ks.map (·.n):=by unfold atmsT;rw[KX h2]
   have:=hz.len;rw[ha]at hr;simp only[JV,JK,KF]at hr;simp only[bq,KF];omega
  have ul:=Ak (vars:=B.vars) hS.o (S f wf I) (S h M Uo);have ur:=Ak (vars:=B.vars) hS.o (S h M Uo) (S f wf I);have no:ip B f h u=false ->v= .ok (false,X):=λhs=>by
   rw[KX ⟨I,hs⟩]at c;exact c.symm
  refine af lf ?_;refine af lg ?_;refine vm 0 (aN wf) ?_;refine vm 0 (aN M) ?_;refine ae (λV=>?_) (λV=>?_);rotate_left
  ·have:=no (by unfold ip;rw[KH (show ¬ f.n.a=h.n.a from V),Bool.false_and])
   subst this;exact kA9
  refine bN ul (λs1=>?_) (λs1=>?_);rotate_left
  ·have:=no (by unfold ip;rw[s1];simp)
   subst this;exact kA9
  cases u with
  |true=>
   refine vk ?_;exact au () λq=>by
    have hs:ip B f h true=true:=by unfold ip;rw[KU (show f.n.a=h.n.a from V),s1];simp
    rw[hs]at q;cases q.2
  |false=>
   refine bN ur (λs2=>?_) (λs2=>?_)
   ·refine vk ?_
    exact au () λq=>by
     have hs:ip B f h false=true:=by unfold ip;rw[KU (show f.n.a=h.n.a from V),s1,s2];rfl
     rw[hs]at q;cases q.2
   ·have:=no (by unfold ip;rw[s1,s2];simp)
    subst this;exact kA9
 rintro⟨⟩ hM;rw[KY hM]at c;refine dd τok (σ:=Unit) [(1,_),(4,_),(5,_),(6,_),(16,_),(17,_),(18,_),(19,_),(20,_)] [(6,_)] (λ_=>[]) (λ_=>[]) (λ_=>¬ ((f.n.op≠2/\f.n.op≠4/\f.n.op≠5)/\f.n≠h.n)) ?_ ?_
 ·refine ae (λI=>?_) (λI=>?_)
  rotate_left
  ·exact vk (au () λq=>I q.1.1)
  refine ae (λV=>?_) (λV=>?_);rotate_left
  ·exact vk (au () λq=>V q.1.2.1)
  refine ae (λg6=>?_) (λg6=>?_);rotate_left
  ·exact vk (au () λq=>g6 q.1.2.2)
  refine vm 0 (aN wf) ?_;refine vm 0 (aN M) ?_;refine vT ?_
  by_cases O:f.n=h.n
  ·rw[KU O]
   exact vk (au () λq=>q.2 O)
  ·rw[KH O]
   rw[KX ⟨⟨I,V,g6⟩,O⟩]at c;have c:(.ok (false,X):Except Int (Bool×Nat))=v:=c;subst c;exact vk ⟨_,_,rfl,rfl,rfl⟩
 rintro⟨⟩ Y;rw[KY Y]at c;refine aj ?_;have c9:(funsT f).length<=4096:=by have:=Hf wf.ok;omega
 have c':=gO wf.ok;have d':=aq ndP (funsT f);have e0:=aq trP (kidsT f);have b7:f.n.op=2 ->kidsT f=[]:=λq=>by unfold kidsT;cases f;exact KX q
 have e1:(kidsT f).length=(kidsT h).length:=by
  have W:=(qu wf.ok).1;have a2:=(qu M.ok).1;have c1:bD f.n=bD h.n:=by
   by_cases q:f.n.op=2 \/f.n.op=4 \/f.n.op=5
   ·unfold bD
    rw[<- U];rcases q with q|q|q<;>simp[q]
   ·rw[Decidable.byContradiction λO:¬ f.n=h.n=>Y ⟨Uo,O⟩]
  omega
 have e2:(funsT f).length=(funsT h).length:=by
  by_cases a6:f.n.op=12
  ·have W:=(qu wf.ok).2.2 a6
   have a2:=(qu M.ok).2.2 Uo;omega
  ·rw[show funsT f=[]from KY a6,show funsT h=[]from KY Uo]
 refine af (iO wf) ?_;refine af (iO M) ?_;refine aB τok (σ:=Nat) [(1,_),(4,_),(5,_),(6,_),(16,_),(17,_),(19,_),(20,_),(24,_),(26,_)] [(6,_),(24,_),(26,_)] (λi=>[(28,vI i)]) (λ_=>[]) (λi=>i<=(funsT f).length/\∀j,j<i ->(funsT f)[j]?=(funsT h)[j]?) (λi=>(funsT f).length-i) 0 ⟨KV _,λj hj=>absurd hj Uo⟩ ?_;rintro i ⟨p1,p2⟩;refine aj<|ae (λp3=>?_) (λp3=>?_)
 ·obtain⟨W,E,_⟩:=az (l:=funsT f) (k:=i)
  obtain⟨b1,H,_⟩:=az (l:=funsT h) (k:=i);refine vm i E ?_;refine vm i H ?_;refine vT ?_
  by_cases p4:W=b1
  ·rw[KU p4]
   refine vk ?_;refine vi ?_;refine au (i+1) ⟨Uo,λj hj=>?_⟩
   by_cases p5:j=i
   ·rw[p5,E,H,p4]
   ·exact p2 j Uo
  ·rw[KH p4]
   have b8:funsT f≠funsT h:=λq=>p4 (by rw[q,H]at E;exact(JB E).symm);rw[KX b8]at c;have c:(.ok (false,X):Except Int (Bool×Nat))=v:=c;subst c;exact vk ⟨_,_,rfl,rfl,rfl⟩
 have b9:funsT f=funsT h:=List.ext_getElem? λj=>by
  by_cases p4:j<(funsT f).length
  ·exact p2 j Uo
  ·rw[QF Uo,QF Uo]
 rw[KY (λq=>q b9)]at c;refine aB τok (σ:=Nat×Nat) [(1,_),(5,_),(6,_),(16,_),(17,_),(19,_),(20,_),(24,_),(26,_)] [(6,_),(24,_),(26,_)] (λq=>[(29,vI q.1),(4,vI q.2)]) (λ_=>[]) (λq=>q.1<=(kidsT f).length/\q.2<=X/\gz (kidsL (df B g) cx f u q.1 ((kidsT f).drop q.1) ((kidsT h).drop q.1) q.2) (di (df B g) cx l k)=v) (λq=>(kidsT f).length-q.1) (0,X) ⟨KV _,KJ _,c⟩ ?_
 clear c
 rintro⟨i,Z⟩ ⟨r1,r2,o⟩;simp only at r1 r2 o;refine aj<|ae (λN=>?_) (λN=>?_)
 ·simp only at N
  obtain⟨a7,a8,e3⟩:=cA wf (k:=i);obtain⟨a9,a',ew⟩:=cA M (k:=i);have b0:=(ff.kidD (k:=i) Uo).2;have a0:=(fg.kidD (k:=i) Uo).2;obtain⟨ic,il⟩:=O0 hcx Uo ff g7 i;have e4:=oq wf.ok i;have b':kb h.n i=kb f.n i:=by
   have q2:f.n.op≠2:=λq=>by
    rw[b7 q]at N;simp only[List.map_nil,JU]at N;omega
   by_cases q:f.n.op=4 \/f.n.op=5
   ·simp[kb,bi,<- U,show ¬ f.n.op=12 by omega,q]
   ·rw[Decidable.byContradiction λO:¬ f.n=h.n=>Y ⟨⟨q2,Uo⟩,O⟩]
  rw[b']at a0;rw[<- il]at b0 a0;have A:=λb=>ih (cJ cx f i) (kidD f i) (kidD h i) b Z ic Uo b0 a0 Uo Uo;obtain⟨z1,b4,a3⟩:=az (l:=kidsT f) (k:=i);obtain⟨z2,b5,a4⟩:=az (l:=kidsT h) (k:=i);rw[a7]at b4;rw[a9]at b5;obtain rfl:=JB b4;obtain rfl:=JB b5;rw[a3,a4]at o;simp only[kidsL]at o;refine af (Hq (qk B) ff Uo Uo Uo i Uo) ?_;refine vt i a7 ?_;refine af (lJ 4096 Uo _ a8 a8.len) ?_;refine vt i a9 ?_;refine af (lJ 4096 Uo _ a' a'.len) ?_;cases u with
  |true=>
   refine ae (λq4=>?_) (λq4=>?_)
   ·rw[KU (show f.n.op=4 from q4),Bool.and_true,Bool.true_and]at o
    refine ae (λgi=>?_) (λgi=>?_)
    ·rw[KU (show i=1 by omega)]at o
     have A:=A true;cases d:df B g (cJ cx f i) (kidD f i) (kidD h i) true Z with
     |error e=>
      rw[d]at A o;have o:(.error e:Except Int (Bool×Nat))=v:=o;subst o;refine af A ?_;refine vk ?_;refine vy (p:=e≠0) ?_ (tA hB _ _ _ _ _ _ _ d);exact aF
     |ok q=>
      obtain⟨T,F⟩:=q;have D:=lK B g _ _ _ _ _ _ d;rw[d]at A o;refine af A ?_;refine vk ?_;refine vn ?_;cases T with
      |false=>
       have o:(.ok (false,F):Except Int (Bool×Nat))=v:=o;subst o;exact aF
      |true=>
       refine vi ?_;exact au (i+1,F) ⟨Us,by simp only at D ⊢;omega,o⟩
    ·rw[KH (show ¬ i=1 by omega)]at o
     have A:=A false;cases d:df B g (cJ cx f i) (kidD f i) (kidD h i) false Z with
     |error e=>
      rw[d]at A o;have o:(.error e:Except Int (Bool×Nat))=v:=o;subst o;refine af A ?_;refine vk ?_;refine vy (p:=e≠0) ?_ (tA hB _ _ _ _ _ _ _ d);exact aF
     |ok q=>
      obtain⟨T,F⟩:=q;have D:=lK B g _ _ _ _ _ _ d;rw[d]at A o;refine af A ?_;refine vk ?_;refine vn ?_;cases T with
      |false=>
       have o:(.ok (false,F):Except Int (Bool×Nat))=v:=o;subst o;exact aF
      |true=>
       refine vi ?_;exact au (i+1,F) ⟨Us,by simp only at D ⊢;omega,o⟩
   ·rw[KH (show ¬ f.n.op=4 from q4),Bool.and_false,Bool.false_and]at o
    have A:=A false;cases d:df B g (cJ cx f i) (kidD f i) (kidD h i) false Z with
    |error e=>
     rw[d]at A o;have o:(.error e:Except Int (Bool×Nat))=v:=o;subst o;refine af A ?_;refine vk ?_;refine vy (p:=e≠0) ?_ (tA hB _ _ _ _ _ _ _ d);exact aF
    |ok q=>
     obtain⟨T,F⟩:=q;have D:=lK B g _ _ _ _ _ _ d;rw[d]at A o;refine af A ?_;refine vk ?_;refine vn ?_;cases T with
     |false=>
      have o:(.ok (false,F):Except Int (Bool×Nat))=v:=o;subst o;exact aF
     |true=>
      refine vi ?_;exact au (i+1,F) ⟨Us,by simp only at D ⊢;omega,o⟩
  |false=>
   rw[Bool.false_and,Bool.false_and]at o;have A:=A false;cases d:df B g (cJ cx f i) (kidD f i) (kidD h i) false Z with
   |error e=>
    rw[d]at A o;have o:(.error e:Except Int (Bool×Nat))=v:=o;subst o;refine af A ?_;refine vk ?_;refine vy (p:=e≠0) ?_ (tA hB _ _ _ _ _ _ _ d);exact aF
   |ok q=>
    obtain⟨T,F⟩:=q;have D:=lK B g _ _ _ _ _ _ d;rw[d]at A o;refine af A ?_;refine vk ?_;refine vn ?_;cases T with
    |false=>
     have o:(.ok (false,F):Except Int (Bool×Nat))=v:=o;subst o;exact aF
    |true=>
     refine vi ?_;exact au (i+1,F) ⟨Us,by simp only at D ⊢;omega,o⟩
 ·simp only at N
  have d1:(kidsT f).drop i=[]:=JY Uo;rw[d1]at o;have o:di (df B g) cx l k Z=v:=by
   rw[<- o];simp[kidsL,gz]
  refine aB τok (σ:=Nat×Nat) [(1,_),(6,_),(17,_),(19,_)] [(6,_)] (λq=>[(31,vI q.1),(4,vI q.2)]) (λ_=>[]) (λq=>q.1<=l.length/\q.2<=X/\di (df B g) cx (l.drop q.1) (k.drop q.1) q.2=v) (λq=>l.length-q.1) (0,Z) ⟨KV _,r2,o⟩ ?_
  clear r1 r2 o N d1
  rintro⟨j,n2⟩ ⟨r1,r2,o⟩;simp only at r1 r2 o;refine aj<|ae (λN=>?_) (λN=>?_)
  ·simp only at N
   obtain⟨W,E,a3⟩:=az (l:=l) (k:=j);obtain⟨b1,H,a4⟩:=az (l:=k) (k:=j);rw[a3,a4]at o;simp only[di]at o;have A:=ih cx W b1 false n2 hcx hcl (la W (JQ E)) (lb b1 (JQ H)) Uo Uo;refine aA j (x:=row W) (by rw[JX,E];rfl) ?_;refine aA j (x:=row b1) (by rw[JX,H];rfl) ?_;cases d:df B g cx W b1 false n2 with
   |error e=>
    rw[d]at A o;have o:(.error e:Except Int (Bool×Nat))=v:=o;subst o;refine af A ?_;refine vk ?_;refine vy (p:=e≠0) ?_ (tA hB _ _ _ _ _ _ _ d);exact aF
   |ok q=>
    obtain⟨T,F⟩:=q;have D:=lK B g _ _ _ _ _ _ d;rw[d]at A o;refine af A ?_;refine vk ?_;refine vn ?_;cases T with
    |false=>
     have o:(.ok (false,F):Except Int (Bool×Nat))=v:=o;subst o;exact aF
    |true=>
     have o:di (df B g) cx (l.drop (j+1)) (k.drop (j+1)) F=v:=o;refine vi ?_;exact au (j+1,F) ⟨Us,by simp only at D ⊢;omega,o⟩
  ·simp only at N
   rw[JY Uo]at o;have o:(.ok (true,n2):Except Int (Bool×Nat))=v:=by rw[<- o];simp[di]
   subst o;exact aF
end
abbrev RS(α:Type):=Except (Int×Nat) (α×Nat)
def dq{α:Type}(r:RS α):Except Int (α×Nat):=match r with
 | .ok q=>.ok q
 | .error e=>.error e.1
def aJ{α β:Type}(m:RS α)(k:α ->Nat ->RS β):RS β:=match m with
 | .error e=>.error e
 | .ok q=>k q.1 q.2
def du{α:Type}(m:Except Int α)(n:Nat):RS α:=match m with
 | .error e=>.error (e,n)
 | .ok x=>.ok (x,n)
theorem jn{α β:Type}(a:α)(n:Nat)(k:α ->Nat ->RS β):aJ (.ok (a,n)) k=k a n:=rfl
theorem ib{α β:Type}(e:Int×Nat)(k:α ->Nat ->RS β):aJ (.error e) k= .error e:=rfl
theorem Bj{α:Type}(x:α)(n:Nat):du (.ok x) n= .ok (x,n):=rfl
theorem Bm{α:Type}(e:Int)(n:Nat):du (.error e:Except Int α) n= .error (e,n):=rfl
def Bo{α:Type}(m:Except Int (α×Nat)):RS α:=match m with
 | .error e=>.error (e,0)
 | .ok q=>.ok q
def gH(B:ak)(cx:Ctx)(t:Tr)(n:Nat):RS Tr:=if 256<cx.length then .error (5,n)else Bo (eg B cx t (n:Int))
def ke(B:ak)(cx:Ctx)(x y:Tr)(u:Bool)(n:Nat):RS Bool:=if 256<cx.length then .error (5,n)else Bo (lL B cx x y (n:Int) u)
abbrev RcS:=Ctx ->Tr ->Nat ->RS Tr
def sortS(B:ak)(rc:RcS)(cx:Ctx)(t:Tr)(n:Nat):RS (Int×List Atom):=
 aJ (rc cx t n) λty n=>aJ (gH B cx ty n) λz n=>if (headT z).n.op≠2 \/0<(argsT z).length then .error (11,n)else .ok (((headT z).n.a,bq (headT z)),n)
def checkS(B:ak)(rc:RcS)(cx:Ctx)(t ty:Tr)(n:Nat):RS Unit:=
 aJ (rc cx t n) λz n=>aJ (ke B cx z ty true n) λb n=>if b=true then .ok ((),n)else .error (13,n)
def oB(B:ak)(a:Int)(ps:List Tr)(ni:Nat):Nat ->Nat ->Ctx ->Tr ->Nat ->RS Int
 |0,_,cx,m,n=>aJ (gH B cx m n) λf n=>if (headT f).n.op≠2 \/0<(argsT f).length then .error (16,n)else .ok ((headT f).n.a,n)
 |k+1,i,cx,m,n=>aJ (gH B cx m n) λf n=>if (headT f).n.op≠4 \/0<(argsT f).length then .error (16,n)else
   aJ (du (jA B a ps i ni) n) λw n=>aJ (ke B cx (kidD (headT f) 0) w false n) λb n=>if b=true then oB B a ps ni k (i+1) (cx++[(kidD (headT f) 0,none)]) (kidD (headT f) 1) n else .error (16,n)
def Bp(B:ak)(cx:Ctx)(a:Int)(ps:List Tr)(m:Tr)(n:Nat):RS Int:=oB B a ps (fq B a).length ((fq B a).length+1) 0 cx m n
def pm(B:ak)(rc:RcS):Ctx ->List Tr ->Nat ->RS Bool
 |_,[],n=>.ok (true,n)
 |cx,a::r,n=>aJ (sortS B rc cx a n) λq n=>if q.1≠0 then .ok (false,n)else pm B rc (cx++[(a,none)]) r n
def nq(B:ak)(rc:RcS)(a:Int)(n:Nat):RS Bool:=
 if (ax B a).ctors.length=0 then .ok (true,n)else if 1<(ax B a).ctors.length then .ok (false,n)else pm B rc (cV (gh B a)) (jY B a 0) n
def oC(B:ak)(rc:RcS)(cx:Ctx)(a:Int)(ps:List Tr)(mo:Tr):Nat ->List Tr ->Nat ->RS Unit
 |_,[],n=>.ok ((),n)
 |k,b::r,n=>aJ (du (jg B a (k:Int) ps mo) n) λty n=>aJ (checkS B rc cx b ty n) λ_ n=>oC B rc cx a ps mo (k+1) r n
def smatch(B:ak)(rc:RcS)(cx:Ctx)(nd:Nd)(ks:List Tr)(n:Nat):RS Tr:=
 let np:=(gh B nd.a).length
 let mo:=ks.getD 0 (varX 0)
 let sc:=ks.getD 1 (varX 0)
 aJ (rc cx sc n) λty n=>aJ (gH B cx ty n) λz n=>
  if (headT z).n.op≠9 \/(headT z).n.a≠nd.a \/(argsT z).length≠np+(fq B nd.a).length then .error (14,n)
  else if (ks.drop 2).length≠(ax B nd.a).ctors.length then .error (15,n)
  else aJ (rc cx mo n) λmt n=>aJ (Bp B cx nd.a ((argsT z).take np) mt n) λkind n=>
   aJ (if (tr (ax B nd.a).sort).n.a=0/\kind=1 then nq B rc nd.a n else .ok (true,n)) λs n=>if s=false then .error (17,n)else
    aJ (oC B rc cx nd.a ((argsT z).take np) mo 0 (ks.drop 2) n) λ_ n=>du (aP mo ((argsT z).drop np++[sc])) n
def qQ(B:ak)(rc:RcS)(cx:Ctx)(t:Tr):Nat ->Nat ->Nat ->RS Unit
 |0,_,n=>.ok ((),n)
 |k+1,i,n=>aJ (sortS B rc cx (kidD t (2*i)) n) λ_ n=>qQ B rc cx t k (i+1) n
def po(B:ak)(rc:RcS)(cx:Ctx)(t:Tr)(nb:Nat):Nat ->Nat ->Nat ->RS Unit
 |0,_,n=>.ok ((),n)
 |k+1,i,n=>aJ (checkS B rc cx (kidD t (2*i+1)) (aG (kidD t (2*i)) nb 0) n) λ_ n=>po B rc cx t nb k (i+1) n
def tB(B:ak)(rc:RcS)(cx:Ctx)(t:Tr)(n:Nat):RS Tr:=
 aJ (qQ B rc cx t t.n.b.toNat 0 n) λ_ n=>if gg B t≠0 then .error (gg B t,n)else
  aJ (po B rc (cx++bv t) t t.n.b.toNat t.n.b.toNat 0 n) λ_ n=>.ok (kidD t (2*t.n.a.toNat),n)
def tC(t:Tr)(n:Nat):RS Tr:=if dC (bq t) 1≠0 then .error (dC (bq t) 1,n)else .ok (eW 1 (fS (bq t) 1),n)
def tD(B:ak)(rc:RcS)(cx:Ctx)(t:Tr)(n:Nat):RS Tr:=
 aJ (sortS B rc cx (kidD t 0) n) λp n=>aJ (sortS B rc (cx++[(kidD t 0,none)]) (kidD t 1) n) λq n=>
  if cI p.2 q.2≠0 then .error (cI p.2 q.2,n)else .ok (eW q.1 (dB p.2 q.2),n)
def tE(B:ak)(rc:RcS)(cx:Ctx)(t:Tr)(n:Nat):RS Tr:=
 aJ (sortS B rc cx (kidD t 0) n) λ_ n=>aJ (rc (cx++[(kidD t 0,none)]) (kidD t 1) n) λz n=>du (bp [kidD t 0] z) n
def tF(B:ak)(rc:RcS)(cx:Ctx)(t:Tr)(n:Nat):RS Tr:=
 aJ (rc cx (kidD t 0) n) λty n=>aJ (gH B cx ty n) λz n=>if (headT z).n.op≠4 \/0<(argsT z).length then .error (12,n)else
  aJ (checkS B rc cx (kidD t 1) (kidD (headT z) 0) n) λ_ n=>du (bh (kidD (headT z) 1) (kidD t 1) 0) n
def tG(B:ak)(rc:RcS)(cx:Ctx)(t:Tr)(n:Nat):RS Tr:=
 aJ (sortS B rc cx (kidD t 0) n) λ_ n=>aJ (checkS B rc cx (kidD t 1) (kidD t 0) n) λ_ n=>
  aJ (rc (cx++[(kidD t 0,some (kidD t 1))]) (kidD t 2) n) λz n=>du (bh z (kidD t 1) 0) n
def qR(B:ak)(rc:RcS)(cx:Ctx)(t:Tr)(n:Nat):RS Tr:=
 if t.n.op=1 then .ok (aG (fR cx t.n.a).1 (t.n.a+1) 0,n)
 else if t.n.op=2 then tC t n
 else if t.n.op=8 then .ok (tr (ax B t.n.a).type,n)
 else if t.n.op=9 then du (gj B t.n.a) n
 else if t.n.op=10 then du (hH B t.n.a t.n.b) n
 else if t.n.op=4 then tD B rc cx t n
 else if t.n.op=5 then tE B rc cx t n
 else if t.n.op=6 then tF B rc cx t n
 else if t.n.op=7 then tG B rc cx t n
 else if t.n.op=11 then smatch B rc cx t.n (kidsT t) n
 else tB B rc cx t n
def inferS(B:ak):Nat ->RcS
 |0,_,_,n=>.error (10,n)
 |g+1,cx,t,n=>qR B (inferS B g) cx t n
section
variable{B:ak}{cx:Ctx}{rs:RcS}{rc:RcJ}
theorem iT{α β:Type}(m:RS α)(k:α ->Nat ->RS β):dq (aJ m k)=aQ (dq m) λa n=>dq (k a n):=by
 cases m<;>rfl
theorem tH{α:Type}(m:Except Int α)(n:Nat):dq (du m n)=cU m n:=by
 cases m<;>rfl
theorem Hx{α:Type}(m:Except Int (α×Nat)):dq (Bo m)=m:=by
 cases m<;>rfl
theorem iU(t:Tr)(n:Nat):dq (gH B cx t n)=fx B cx t n:=by
 unfold gH fx;split
 ·rfl
 ·exact Hx _
theorem pp(x y:Tr)(u:Bool)(n:Nat):dq (ke B cx x y u n)=gB B cx x y u n:=by
 unfold ke gB;split
 ·rfl
 ·exact Hx _
theorem mi{α:Type}{p:Prop} [Decidable p](a b:RS α):dq (if p then a else b)=if p then dq a else dq b:=by
 split<;>rfl
theorem oD{α:Type}(q:α×Nat):dq (.ok q)= .ok q:=rfl
theorem oE{α:Type}(e:Int×Nat):dq (.error e:RS α)= .error e.1:=rfl
def Fg(rs:RcS)(rc:RcJ):Prop:=∀cx t n,dq (rs cx t n)=rc cx t n
section
variable(h:Fg rs rc)
include h
theorem gp(t:Tr)(n:Nat):dq (sortS B rs cx t n)=dD B rc cx t n:=by
 unfold sortS dD;simp only[iT,iU,mi,oD,oE,h cx]
theorem kg(t ty:Tr)(n:Nat):dq (checkS B rs cx t ty n)=dU B rc cx t ty n:=by
 unfold checkS dU;simp only[iT,pp,mi,oD,oE,h cx]
theorem we':∀(l:List Tr) (cx:Ctx) (n:Nat),dq (pm B rs cx l n)=mV B rc cx l n
 |[],cx,n=>rfl
 |a::r,cx,n=>by
  simp only[pm,mV,iT,gp h,mi,oD,we' r]
theorem Bq(a:Int)(n:Nat):dq (nq B rs a n)=jZ B rc a n:=by
 simp only[nq,jZ,mi,oD,we' h]
theorem Hy{a:Int}{c:List Tr}{mo:Tr}:∀(l:List Tr) (k n:Nat),dq (oC B rs cx a c mo k l n)=lS B rc cx a c mo k l n
 |[],k,n=>rfl
 |b::r,k,n=>by
  simp only[oC,lS,iT,tH,kg h,Hy r]
theorem Hz{t:Tr}:∀(k i n:Nat),dq (qQ B rs cx t k i n)=n8 B rc cx t k i n
 |0,i,n=>rfl
 |k+1,i,n=>by
  simp only[qQ,n8,iT,gp h,Hz k]
theorem HA{t:Tr}{nb:Nat}:∀(k i n:Nat),dq (po B rs cx t nb k i n)=mW B rc cx t nb k i n
 |0,i,n=>rfl
 |k+1,i,n=>by
  simp only[po,mW,iT,kg h,HA k]
end
theorem HB{a:Int}{b:List Tr}{ni:Nat}:∀(k i:Nat) (cx:Ctx) (m:Tr) (n:Nat),dq (oB B a b ni k i cx m n)=iM B a b ni k i cx m n
 |0,i,cx,m,n=>by
  simp only[oB,iM,iT,iU,mi,oD,oE]
 |k+1,i,cx,m,n=>by
  simp only[oB,iM,iT,iU,mi,oD,oE,tH,pp,HB k]
theorem O2(h:Fg rs rc)(nd:Nd)(ks:List Tr)(n:Nat):dq (smatch B rs cx nd ks n)=kR B rc cx nd ks n:=by
 simp only[smatch,kR,Bp,qq,iT,iU,mi,oD,oE,tH,HB,Bq h,Hy h,h cx]
theorem O3(h:Fg rs rc):Fg (qR B rs) (j3 B rc):=λcx t n=>by
 simp only[qR,j3,tC,n9,tD,oa,tE,od,tF,oe,tG,og,tB,lT,iT,iU,mi,oD,oE,tH,gp h,kg h,O2 h,Hz h,HA h,h _]
theorem bS':∀g:Nat,Fg (inferS B g) (eu B g)
 |0=>λ_ _ _=>rfl
 |g+1=>O3 (bS' g)
theorem fC{α:Type}{r:RS α}{j:Except Int (α×Nat)}(h:dq r=j){q:α×Nat}(e:r= .ok q):j= .ok q:=by rw[<- h,e];rfl
theorem eJ{α:Type}{r:RS α}{j:Except Int (α×Nat)}(h:dq r=j){x:Int×Nat}(e:r= .error x):j= .error x.1:=by rw[<- h,e];rfl
end
section
variable{B:ak}(hS:dh B)(hB:GoodB B)
theorem O4(cx:List (List Nd×List Nd))(x y:List Nd)(u:Bool):VC prog 155 [bk B,aO cx,ah x,ah y,pI 0,.bool u] (qO (.error 10)):=by
 refine vf 262 [.tmp 12,.tmp 13,.tmp 14] τok func155 ?_;refine vy (p:=(0:Int)=0) ?_ rfl;exact aF
include hS hB
theorem cmpV:∀g,tz B g
 |0=>λcx x y u n _ _ _ _ h _=>by
  obtain rfl:n=0:=Uo
  exact O4 _ _ _ u
 |g+1=>λcx x y u n a b c d e f=>O1 hS hB (cmpV g) a b c d e f
theorem Bs{cx:Ctx}{x y:Tr}{u:Bool}{n:Nat}(hcx:CxOk B cx)(hcl:cx.length<=260)(a:Ft (QB B) (cx.length:Int) x)(b:Ft (QB B) (cx.length:Int) y)(c:n<=100000):VC prog 155 [bk B,aO (cx.map aE),ah (row x),ah (row y),pI n,.bool u] (qO (lL B cx x y (n:Int) u)):=by
 have e:bK (n:Int)=n:=by unfold bK;omega
 unfold lL;rw[e];exact cmpV hS hB GC cx x y u n hcx hcl a b (by have:=EW';omega) c
end
def cB(B:ak)(F E:Int):List PV:=[.int .i64 B.vars,.sl (B.orders.map orP),.sl (B.ents.map bI),.int .i64 B.nat,.sl (B.prims.map prP),pI F,pI E]
def dG{α:Type}(B:ak)(r:RS α):List PV:=match r with
 | .ok q=>cB B q.2 0
 | .error e=>cB B e.2 e.1
def qS(r:RS Tr):PV:=match r with
 | .ok q=>ah (row q.1)
 | .error _=>.sl []
def Bt(r:RS (Int×List Atom)):PV:=match r with
 | .ok q=>.tup [pI q.1.1,cw q.1.2]
 | .error _=>.tup [pI 0,.sl []]
def tI(r:RS Bool):PV:=match r with
 | .ok q=>.bool q.1
 | .error _=>.bool false
section
variable{B:ak}
theorem ie(F E e:Int):VP prog 54 97 (cB B F E) (cB B F (if E=0 then e else E)) [pI e] (.tup []):=by
 refine aX (r:=.ok (_,_)) 13 [] τok func54 ?_;refine aj<|ae (λh=>?_) (λh=>?_)
 ·rw[KX h]
  exact eP9
 ·rw[KY h]
  exact eP9
theorem fW(F:Int)(t:List (List PV)):VP prog 55 97 (cB B F 0) (cB B F 0) [.sl t,pI 0] (.sl t):=by
 refine aX (r:=.ok (_,_)) 16 [.tmp 6] τok func55 ?_;refine aj<|ay (ie F 0 0) ?_;refine vn (p:=(0:Int)≠0) ?_ UO;exact eP9
theorem qT(F:Int){E e:Int}(h:E≠0 \/e≠0)(t:PV):VP prog 55 97 (cB B F E) (cB B F (if E=0 then e else E)) [t,pI e] (.sl []):=by
 refine aX (r:=.ok (_,_)) 16 [.tmp 6] τok func55 ?_;refine aj<|ay (ie F E e) ?_;refine vy (p:=(if E=0 then e else E)≠0) ?_ (by split<;>omega);exact eP9
theorem k7(F:Int){e:Int}(h:e≠0)(t:PV):VP prog 55 97 (cB B F 0) (cB B F e) [t,pI e] (.sl []):=by
 have:=qT (B:=B) F (E:=0) (.inr h) t
 rwa [KX rfl]at this
theorem O5{c:List (List Nd×List Nd)}(x:List Nd×List Nd)(hc:c.length<=1000):VC prog 51 [aO c,.agg (bdP x)] (aO (c++[x])):=by
 have b:=aq bdP c;refine vf 11 [.tmp 4] τok func51 ?_;refine va (p:=bdP) ?_ (λy _=>⟨rfl,λq a=>?_⟩)
 ·refine bg ?_
  refine vk ?_;exact aF (h3:=by unfold aO;rw[KB];rfl)
 ·simp only[bdP,JJ,JZ,or_false]at a
  rcases a with rfl|rfl<;>rfl
theorem leftV(F E:Int):VP prog 29 97 (cB B F E) (cB B F E) [] (if E=0 then .tup [pI F,pI 0]else .tup [pI 0,pI E]):=by
 refine aX (r:=.ok (_,_)) 17 [.tmp 2,.tmp 3] τok func29 ?_;refine aj<|ae (λh=>?_) (λh=>?_)
 ·rw[KY h]
  exact kP9
 ·rw[KX (QY h)]
  exact eP9
theorem tJ(F:Int){E:Int}(a:E≠0)(c t:List (List PV)):VP prog 90 97 (cB B F E) (cB B F E) [.sl c,.sl t] (.sl []):=by
 refine aX (r:=.ok (_,_)) 51 [.tmp 6] τok func90 ?_;refine aj<|vn (p:=E=0) ?_ a;refine vy (p:=E≠0) ?_ a;exact eP9
theorem Bu(F:Int){E:Int}(a:E≠0)(c x y:List (List PV))(u:Bool):VP prog 103 97 (cB B F E) (cB B F E) [.sl c,.sl x,.sl y,.bool u] (.bool false):=by
 refine aX (r:=.ok (_,_)) 64 [.tmp 10] τok func103 ?_;refine aj<|vn (p:=E=0) ?_ a;refine vy (p:=E≠0) ?_ a;exact eP9
theorem tK(F:Int){E:Int}(a:E≠0)(c t:List (List PV)):VP prog 49 97 (cB B F E) (cB B F E) [.sl c,.sl t] (.sl []):=by
 refine aX (r:=.ok (_,_)) 379 [.tmp 6] τok func49 ?_;refine aj<|vy (p:=E≠0) ?_ a;exact eP9
theorem Bv(F:Int){E:Int}(a:E≠0)(c t:List (List PV)):VP prog 50 97 (cB B F E) (cB B F E) [.sl c,.sl t] (.tup [pI 0,.sl []]):=by
 refine aX (r:=.ok (_,_)) 42 [.tmp 6,.tmp 7] τok func50 ?_;refine aj<|ay (tK F a c t) ?_;refine ay (tJ F a c _) ?_;refine vn (p:=E=0) ?_ a;refine vy (p:=E≠0) ?_ a;exact eP9
theorem O6(F:Int){E:Int}(a:E≠0)(c t ty:List (List PV)):VP prog 58 97 (cB B F E) (cB B F E) [.sl c,.sl t,.sl ty] (.tup []):=by
 refine aX (r:=.ok (_,_)) 21 [] τok func58 ?_;refine aj<|ay (tK F a c t) ?_;refine ay (Bu F a c _ ty true) ?_;have:=ie (B:=B) F E 13;rw[KY a]at this;refine ay this ?_;exact eP9
end
section
variable{B:ak}{cx:Ctx}(hS:dh B)(hB:GoodB B)(hcx:CxOk B cx)(hcl:cx.length<=260)
include hS hB hcx hcl
theorem O7{x:Tr}(a:Ft (QB B) (cx.length:Int) x){n:Nat}(b:n<=100000):cY B cx 4096 n x=eg B cx x (n:Int):=by
 rw[wL hB hcx Uo a]
 congr 1
 unfold bK;omega
theorem tL{x:Tr}(c:Ft (QB B) (cx.length:Int) x){n:Nat}(d:n<=100000):VP prog 90 97 (cB B n 0) (dG B (gH B cx x n)) [aO (cx.map aE),ah (row x)] (qS (gH B cx x n)):=by
 have eC:=aq bdP (cx.map aE);have f:=aq aE cx;have b:=Be hB hcx Uo c d;rw[O7 hS hB hcx hcl c d]at b;generalize a:gH B cx x n=g;unfold gH at a;refine aX (r:=.ok (_,_)) 51 [.tmp 6] τok func90 ?_;refine aj<|vy (p:=(0:Int)=0) ?_ rfl;refine ae (λh=>?_) (λh=>?_)
 ·rw[KX Uo]at a
  subst a;refine vy (p:=(5:Int)≠0) ?_ UO;exact eP9
 rw[KY Uo]at a;refine vn (p:=(0:Int)≠0) ?_ UO;cases hr:eg B cx x (n:Int)with
 |error e=>
  have i:=sK hr;rw[hr]at a b;subst a;refine af (r:=tw (.error e)) b ?_;refine vk ?_;refine ay (qT 0 (.inr i) _) ?_;rw[KX rfl];exact eP9
 |ok q=>
  rw[hr]at a b;subst a;refine af (r:=tw (.ok q)) b ?_;refine vk ?_;refine ay (fW q.2 _) ?_;exact eP9
theorem Bw{x y:Tr}(d:Ft (QB B) (cx.length:Int) x)(f:Ft (QB B) (cx.length:Int) y){n:Nat}(g:n<=100000)(u:Bool):VP prog 103 97 (cB B n 0) (dG B (ke B cx x y u n)) [aO (cx.map aE),ah (row x),ah (row y),.bool u] (tI (ke B cx x y u n)):=by
 have eC:=aq bdP (cx.map aE);have i:=aq aE cx;have c:=Bs hS hB hcx hcl d f (u:=u) g;generalize a:ke B cx x y u n=j;unfold ke at a;refine aX (r:=.ok (_,_)) 64 [.tmp 10] τok func103 ?_;refine aj<|vy (p:=(0:Int)=0) ?_ rfl;refine ae (λh=>?_) (λh=>?_)
 ·rw[KX Uo]at a
  subst a;refine vy (p:=(5:Int)≠0) ?_ UO;exact eP9
 rw[KY Uo]at a;refine vn (p:=(0:Int)≠0) ?_ UO;cases hr:lL B cx x y (n:Int) u with
 |error e=>
  rw[hr]at a c;subst a;refine af (r:=qO (.error e)) c ?_;refine vk ?_;refine ay (ie 0 0 e) ?_;rw[KX rfl];exact eP9
 |ok q=>
  obtain⟨b,m⟩:=q;rw[hr]at a c;subst a;refine af (r:=qO (.ok (b,m))) c ?_;refine vk ?_;refine ay (ie m 0 0) ?_;rw[KX rfl];cases b with
  |true=>
   refine vy (p:=(0:Int)=0) ?_ rfl;exact eP9
  |false=>exact eP9
end
theorem O8(kind:Int)(l:List Atom):row (eW kind l)=⟨2,kind,(l.length:Int)⟩::l.map λa=>⟨3,a.var,a.add⟩:=by
 have:∀l:List Atom,rows (l.map λa=>Tr.mk ⟨3,a.var,a.add⟩ [])=l.map λa=>(⟨3,a.var,a.add⟩:Nd):=by
  intro l
  induction l with
  |nil=>rfl
  |cons a l b=>simp[rows,row,b]
 simp[eW,row,this]
theorem HC(kind:Int){l:List Atom}(hl:l.length<=1000):VC prog 87 [pI kind,cw l] (ah (row (eW kind l))):=by
 have d:=aq atP l;generalize b:row (eW kind l)=f;rw[O8]at b;refine vf 33 [.tmp 4] τok func87 ?_;refine aB τok (σ:=Nat) [(1,_)] [] (λi=>[(5,.c (.row 1000)),(6,vI i)]) (λi=>[(1000,.rw 47 3 ([pI 2,pI kind,pI ((l.map atP).length:Int)]::(l.take i).map λa=>[pI 3,pI a.var,pI a.add]))]) (λi=>i<=l.length) (λi=>l.length-i) 0 (KV _) ?_ (sw 1000 11);intro i j;refine aj<|ae (λg=>?_) (λg=>?_)
 ·have g:(i:Int)<l.length:=by simpa[d]using g
  obtain⟨a,e,_⟩:=az (l:=l) (k:=i);refine vm (p:=atP) i e ?_;refine vm (p:=atP) i e ?_;refine bg ?_ (hb:=Uk);refine vk ?_;refine vi ?_;exact au (i+1) (by show i+1<=_;omega) (sw 1000 31) (y':=⟨KG (λl=>some (SE.rw _ _ l)) (by
   rw[dP e];simp[dp];exact⟨rfl,rfl,rfl⟩),trivial⟩)
 ·have:i=l.length:=by simp[d]at g;omega
  subst this;exact aF (h3:=by
   rw[List.take_length,<- b,d];simp[ah,gs',ndP])
section
variable{B:ak}{cx:Ctx}{rs:RcS}{rc:RcJ}
theorem kh(h:Fg rs rc){t:Tr}{n:Nat}{q:Tr×Nat}(e:rs cx t n= .ok q):rc cx t n= .ok q:=fC (h cx t n) e
theorem pq(h:Fg rs rc){t:Tr}{n:Nat}{x:Int×Nat}(e:rs cx t n= .error x):rc cx t n= .error x.1:=eJ (h cx t n) e
def dY(B:ak)(rs:RcS)(cx:Ctx)(t:Tr)(n:Nat):Prop:=VP prog 49 97 (cB B n 0) (dG B (rs cx t n)) [aO (cx.map aE),ah (row t)] (qS (rs cx t n))
theorem oG{x:Tr}(c:Wf x){o:Int}(g:o≠6):((headT x).n.op≠o \/0<(argsT x).length)↔x.n.op≠o:=by
 by_cases b:x.n.op=6
 ·have:0<(argsT x).length:=by
   obtain⟨n,i⟩:=x;obtain⟨f,a,rfl,_⟩:=nD c.ok b;rw[lr (n:=n) b];simp
  exact⟨λ_=>Uo,λ_=>.inr this⟩
 ·obtain⟨d,e⟩:=gk b
  rw[d,e];simp
variable(hS:dh B)(hB:GoodB B)(hfg:Fg rs rc)(hr:cF B rc)(hcx:CxOk B cx)(hcl:cx.length<=260)
include hS hB hfg hr hcx hcl
theorem pr{t:Tr}(u:Ft (QB B) (cx.length:Int) t){n:Nat}(A:n<=100000)(i:dY B rs cx t n):VP prog 50 97 (cB B n 0) (dG B (sortS B rs cx t n)) [aO (cx.map aE),ah (row t)] (Bt (sortS B rs cx t n)):=by
 generalize b:sortS B rs cx t n=c;unfold sortS at b;unfold dY at i;refine aX (r:=.ok (_,_)) 42 [.tmp 6,.tmp 7] τok func50 ?_;refine aj ?_;cases j:rs cx t n with
 |error e=>
  have d:=hr.er _ _ _ _ (pq hfg j);rw[j]at b i;have b:(.error e:RS (Int×List Atom))=c:=b;subst b;refine ay i ?_;refine ay (tJ e.2 d _ _) ?_;refine vn (p:=e.1=0) ?_ d;refine vy (p:=e.1≠0) ?_ d;exact eP9
 |ok q=>
 obtain⟨y,m⟩:=q;have l:=hr.ft _ _ _ _ hcx hcl u (kh hfg j);have v:=hr.le _ _ _ _ (kh hfg j);simp only at l v;rw[j]at b i;have hW:=tL hS hB hcx hcl l (n:=m) Uo;have b:aJ (gH B cx y m) (λz n=>if (headT z).n.op≠2 \/0<(argsT z).length then .error (11,n)else .ok (((headT z).n.a,bq (headT z)),n))=c:=b;refine ay i ?_;cases k:gH B cx y m with
 |error e=>
  have d:=lU (eJ (iU y m) k);rw[k]at b hW;have b:(.error e:RS (Int×List Atom))=c:=b;subst b;refine ay hW ?_;refine vn (p:=e.1=0) ?_ d;refine vy (p:=e.1≠0) ?_ d;exact eP9
 |ok q=>
 obtain⟨z,s⟩:=q;obtain⟨_,o,f⟩:=jB hB hcx l (fC (iU y m) k);simp only at f o;rw[k]at b hW;have b:(if (headT z).n.op≠2 \/0<(argsT z).length then .error (11,s)else .ok (((headT z).n.a,bq (headT z)),s))=c:=b;refine ay hW ?_;refine vy (p:=(0:Int)=0) ?_ rfl;refine aM 0 (aN (aC f)) ?_;refine ae (λg=>?_) (λg=>?_)
 ·rw[KX ((oG (aC f) UO).2 g)]at b
  subst b;refine vy (p:=(11:Int)≠0) ?_ UO;exact eP9
 ·rw[KY (λh=>g ((oG (aC f) UO).1 h))]at b
  have g:z.n.op=2:=QY g;rw[(gk (x:=z) Uo).1]at b;subst b;refine vn (p:=(0:Int)≠0) ?_ UO;refine aM 0 (aN (aC f)) ?_;refine af (tx (aC f) g) ?_;exact kP9
theorem tM{t ty:Tr}(o:Ft (QB B) (cx.length:Int) t)(j:Ft (QB B) (cx.length:Int) ty){n:Nat}(s:n<=100000)(d:dY B rs cx t n):VP prog 58 97 (cB B n 0) (dG B (checkS B rs cx t ty n)) [aO (cx.map aE),ah (row t),ah (row ty)] (.tup []):=by
 generalize a:checkS B rs cx t ty n=c;unfold checkS at a;unfold dY at d;refine aX (r:=.ok (_,_)) 21 [] τok func58 ?_;refine aj ?_;cases f:rs cx t n with
 |error e=>
  have i:=hr.er _ _ _ _ (pq hfg f);rw[f]at a d;have a:(.error e:RS Unit)=c:=a;subst a;refine ay d ?_;refine ay (Bu e.2 i _ _ _ true) ?_;have:=ie (B:=B) e.2 e.1 13;rw[KY i]at this;refine ay this ?_;exact eP9
 |ok q=>
 obtain⟨y,m⟩:=q;have l:=hr.ft _ _ _ _ hcx hcl o (kh hfg f);have p:=hr.le _ _ _ _ (kh hfg f);simp only at l p;rw[f]at a d;have hW:=Bw hS hB hcx hcl l j (n:=m) Uo true;have a:aJ (ke B cx y ty true m) (λb n=>if b=true then .ok ((),n)else .error (13,n))=c:=a;refine ay d ?_;cases k:ke B cx y ty true m with
 |error e=>
  have i:=sM (eJ (pp y ty true m) k);rw[k]at a hW;have a:(.error e:RS Unit)=c:=a;subst a;refine ay hW ?_;have:=ie (B:=B) e.2 e.1 13;rw[KY i]at this;refine ay this ?_;exact eP9
 |ok q=>
  obtain⟨b,g⟩:=q;rw[k]at a hW;have a:(if b=true then .ok ((),g)else .error (13,g))=c:=a;refine ay hW ?_;cases b with
  |true=>
   have a:(.ok ((),g):RS Unit)=c:=a;subst a;exact eP9
  |false=>
   have a:(.error (13,g):RS Unit)=c:=a;subst a;have:=ie (B:=B) g 0 13;rw[KX rfl]at this;refine ay this ?_;exact eP9
end
theorem O9{a:List Atom}(ha:a.length<=1000000){by_:Int}:VC prog 86 [cw a,pI by_] (.tup [cw (fS a by_),pI (dC a by_)]):=by
 have y:=aq atP a;have hr:=sS ha 16;have f:∀e,dC a by_=e ->e≠0 ->PV.tup [.sl [],pI e]= .tup [cw (fS a by_),pI (dC a by_)]:=λe h m=>by
  have:fS a by_=[]:=by unfold fS;rw[KY Uo]
  rw[this,h]
  rfl
 refine cN 48 [.tmp 4,.tmp 5] τok func86 ?_;refine aj<|bN hr (λr=>?_) (λr=>?_)
 ·have t:=jO r
  refine ae (λn=>?_) (λn=>?_)
  ·exact⟨_,_,rfl,rfl,f 1 (by unfold dC;rw[KY (by simp[r]),KX n]) UO⟩
  have q:dC a by_=if a.any (λx=>decide (1000<x.add+by_))then 6 else 0:=by unfold dC;rw[KY (by simp[r]),KY n]
  refine dK 6 1000 154 2 rfl rfl<|aB τok (σ:=Nat) [(0,_),(1,_),(4,_),(5,_)] [] (λi=>[(6,.c (.row 1000)),(7,vI i)]) (λi=>[(1000,.rw 154 2 ((io (a.take i) by_).map atP))]) (λi=>i<=a.length/\∀x∈a.take i,¬ 1000<x.add+by_) (λi=>a.length-i) 0 ⟨KV _,Ud⟩ ?_;rintro i ⟨A,o⟩;refine aj<|ae (λg=>?_) (λg=>?_)
  ·obtain⟨x,b,D⟩:=az (l:=a) (k:=i)
   have j:=JQ b;obtain⟨x1,x2,E,F⟩:=t.2 x j;have d:1000<x.add+by_ ->PV.tup [.sl [],pI 6]= .tup [cw (fS a by_),pI (dC a by_)]:=λh=>f 6 (by rw[q,KX (List.any_eq_true.2 ⟨x,j,KU h⟩)]) UO;refine ae (λu=>?_) (λu=>?_)
   ·exact⟨_,_,rfl,rfl,d Uo⟩
   refine vm i b ?_;refine vi ?_;refine ae (λp=>?_) (λp=>?_)
   ·exact⟨_,_,rfl,rfl,d p⟩
   refine vm i b ?_;refine vm i b ?_;refine vi ?_;refine bg ?_ (hb:=by simp[io];omega);refine vk ?_;refine vi ?_;refine au (i+1) ⟨Uo,λz s=>?_⟩ (sw 1000 46) (y':=⟨KG (λl=>some (SE.rw _ _ l)) (by rw[QQ,b];simp[io,dp];rfl),trivial⟩);rw[QQ,b,Option.toList]at s;rcases List.mem_append.1 s with h|h
   ·exact o z h
   ·obtain rfl:=List.mem_singleton.1 h
    exact p
  ·rw[JG Uo]at o
   have m:dC a by_=0:=by
    rw[q,KY];intro h;obtain⟨x,b,v⟩:=List.any_eq_true.1 h;exact o x b (of_decide_eq_true v)
   exact aF (h3:=by
    have:fS a by_=io a by_:=KX m;rw[this,m,JG Uo]
    rfl)
 ·exact⟨_,_,rfl,rfl,f 19 (by unfold dC;rw[KX r]) UO⟩
def mv(l:List Atom)(v:Nat):Int:=(mapF l v).getD (-1)
theorem HD{l:List Atom}{x:Atom}{v:Nat}(h:x.var≠(v:Int)):mv (l++[x]) v=mv l v:=by
 unfold mv;rw[vB,zF (λe=>h e.symm)]
theorem Bx{l:List Atom}{x:Atom}{v:Nat}(h:x.var=(v:Int))(a:0<=x.add):mv (l++[x]) v=if mv l v<x.add then x.add else mv l v:=by
 unfold mv;rw[vB,<- h,vC];cases mapF l x.var with
 |none=>simp;omega
 |some u=>simp
theorem Pa{l:List Atom}(hl:∀x∈l,0<=x.add/\x.add<=1000)(v:Nat):-1<=mv l v/\mv l v<=1000/\(mv l v<0 ->mapF l v=none)/\(0<=mv l v ->mapF l v=some (mv l v)):=by
 unfold mv;cases a:mapF l v with
 |none=>simp
 |some u=>
  obtain⟨y,b,_,rfl⟩:=vD a;have:=hl y b;simp;omega
def oH(a b:List Atom)(k:Nat):List Atom:=(List.range k).filterMap λ(v:Nat)=>(mapF (a++b) v).map λn=>⟨(v:Int),n⟩
theorem HE(a b:List Atom)(k:Nat):oH a b (k+1)=oH a b k++((mapF (a++b) k).map λn=>(⟨(k:Int),n⟩:Atom)).toList:=by
 unfold oH;rw[List.range_succ,List.filterMap_append];cases h:mapF (a++b) k with
 |none=>simp[h]
 |some n=>simp[h]
theorem Pb(a b:List Atom)(k:Nat):(oH a b k).length<=k:=by
 have:=List.length_filterMap_le (λ(v:Nat)=>(mapF (a++b) v).map λn=>(⟨(v:Int),n⟩:Atom)) (List.range k)
 simpa[oH]using this
theorem By{a b:List Atom}(ha:a.length<=1000000)(hb:b.length<=1000000):VC prog 88 [cw a,cw b] (.tup [cw (dB a b),pI (cI a b)]):=by
 have W:=aq atP a;have X:=aq atP b;have u:=sS ha 16;have z:=sS hb 16;have m:∀e,cI a b=e ->e≠0 ->PV.tup [.sl [],pI e]= .tup [cw (dB a b),pI (cI a b)]:=λe h A=>by
  have:dB a b=[]:=by unfold dB;rw[KY Uo]
  rw[this,h]
  rfl
 refine cN 80 [.tmp 4,.tmp 5] τok func88 ?_;refine aj<|bN u (λp=>?_) (λp=>?_)
 ·refine bN z (λr=>?_) (λr=>?_)
  ·have K:=jO p
   have L:=jO r;have D:=(zG p).1;have E:∀x∈a++b,0<=x.add/\x.add<=1000:=λx d=>by
    rcases List.mem_append.1 d with h|h
    ·have:=K.2 x h;omega
    ·have:=L.2 x h;omega
   have M:cI a b=if 4<(maxL a b).length then 5 else 0:=by unfold cI;rw[KY (by simp[p,r])]
   refine dK 6 1000 154 2 rfl rfl<|aB τok (σ:=Nat) [(0,_),(1,_),(4,_),(5,_)] [] (λv=>[(6,.c (.row 1000)),(7,vI v)]) (λv=>[(1000,.rw 154 2 ((oH a b v).map atP))]) (λv=>v<=17) (λv=>17-v) 0 UO ?_;rintro v Y;have N:=Pb a b v;refine aj<|ae (λg=>?_) (λg=>?_)
   ·refine aB τok (σ:=Nat) [(0,_),(1,_),(4,_),(5,_),(6,_),(7,_)] [(1000,_)] (λi=>[(8,vI (mv (a.take i) v)),(9,vI i)]) (λ_=>[]) (λi=>i<=a.length) (λi=>a.length-i) 0 (KV _) ?_
    rintro i s;refine aj<|ae (λO=>?_) (λO=>?_)
    ·obtain⟨x,d,P⟩:=az (l:=a) (k:=i)
     have n:=JQ d;have f:a.take (i+1)=a.take i++[x]:=by rw[QQ,d];rfl
     refine vm i d ?_;refine ae (λt=>?_) (λt=>?_)
     ·have R:mapF (a.take i) v=none:=L2 λy S e=>by
       have T:(a.take i++[x]).Pairwise (λx y=>x.var<y.var):=by rw[<- f];exact D.sublist (List.take_sublist _ _)
       have:=(List.pairwise_append.1 T).2.2 y S x Ud;omega
      refine vm i d ?_;refine vi ?_;exact au (i+1) (by show i+1<=_;omega) (x:=⟨by
       have:=(K.2 x n).1;have e:mv (a.take (i+1)) v=x.add:=by
        rw[f,Bx t this,KX];unfold mv;rw[R];simp;omega
       rw[e];rfl,rfl,trivial⟩)
     ·refine vi ?_
      exact au (i+1) (by show i+1<=_;omega) (x:=⟨by rw[f,HD t];rfl,rfl,trivial⟩)
    ·rw[JG Uo]
     refine aB τok (σ:=Nat) [(0,_),(1,_),(4,_),(5,_),(6,_),(7,_)] [(1000,_)] (λi=>[(8,vI (mv (a++b.take i) v)),(10,vI i)]) (λ_=>[]) (λi=>i<=b.length) (λi=>b.length-i) 0 (KV _) ?_ (x1:=⟨by rw[List.take_zero,JD];rfl,rfl,trivial⟩);rintro i t;have o:=Pa (l:=a++b.take i) (λx d=>E x (by
      rcases List.mem_append.1 d with h|h
      ·simp[h]
      ·simp[List.mem_of_mem_take h])) v
     refine aj<|ae (λU=>?_) (λU=>?_)
     ·obtain⟨x,d,P⟩:=az (l:=b) (k:=i)
      have n:=JQ d;have q:=(L.2 x n).1;have f:a++b.take (i+1)=(a++b.take i)++[x]:=by rw[QQ,d];simp
      refine vm i d ?_;refine ae (λj=>?_) (λj=>?_)
      ·refine vm i d ?_
       refine ae (λF=>?_) (λF=>?_)
       ·refine vm i d ?_
        refine vi ?_;exact au (i+1) (by show i+1<=_;omega) (x:=⟨by rw[f,Bx j q,KX F];rfl,rfl,trivial⟩)
       ·refine vi ?_
        exact au (i+1) (by show i+1<=_;omega) (x:=⟨by rw[f,Bx j q,KY F];rfl,rfl,trivial⟩)
      ·refine vi ?_
       exact au (i+1) (by show i+1<=_;omega) (x:=⟨by rw[f,HD j];rfl,rfl,trivial⟩)
     ·rw[JG Uo]at o
      have f:b.take i=b:=JG Uo;refine ae (λj=>?_) (λj=>?_)
      ·rw[f]at j
       have H:=o.2.2.2 j;refine bg ?_ (hb:=Uk);refine vi ?_;exact au (v+1) (by show v+1<=17;omega) (sw 1000 75) (y':=⟨KG (λl=>some (SE.rw _ _ l)) (by rw[HE,H,f];simp[dp];rfl),trivial⟩)
      ·rw[f]at j
       have H:=o.2.2.1 Uo;refine vi ?_;exact au (v+1) (by show v+1<=17;omega) (y':=⟨KG (λl=>some (SE.rw _ _ l)) (by rw[HE,H];simp),trivial⟩)
   ·have I:v=17:=Uo
    subst I;have V:oH a b 17=maxL a b:=rfl;have el:=aq atP (oH a b 17);refine ae (λs=>?_) (λs=>?_)<;>simp only[el]at s<;>rw[V]at s
    ·exact⟨_,_,rfl,rfl,m 5 (by rw[M,KX Uo]) UO⟩
    ·have A:cI a b=0:=by rw[M,KY Uo]
     exact aF (h3:=by
      have:dB a b=maxL a b:=KX A;rw[this,A]
      rfl)
  ·exact⟨_,_,rfl,rfl,m 19 (by unfold cI;rw[KX (.inr r)]) UO⟩
 ·exact⟨_,_,rfl,rfl,m 19 (by unfold cI;rw[KX (.inl p)]) UO⟩
end Go.Q
