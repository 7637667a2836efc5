import Derived.Test.YtdfeclpphaccnaaGreatMk14
import Derived.Test.YtdfeclpphaccnaaGreatRows
import Derived.ProofKit
import Derived.OpenShut
import Derived.Deep.Slices
import Derived.JoinedCond
set_option linter.all false
set_option maxRecDepth 100000
set_option maxHeartbeats 4000000
open Go.Proofs Go.Proofs.Tryz Go.Proofs.YtdfeclpphaccnaaGreat Cd Go.Wx Lv Tm
namespace Go.Q
def qR(p:Nd)(a:AV):Prop:=∀C ρ v,RA C ρ a v ->v=ip p
theorem Ht(p:Nd):qR p (.c (.p (.agg (ndP p)))):=λC ρ v h=>by
 have h:RV C (.agg (ndP p)) v:=h;cases h with
 |agg j us e d=>
  match us,e with
  |[a,b,c],_=>
   have f:=d 0 _ _ rfl rfl;have g:=d 1 _ _ rfl rfl;have i:=d 2 _ _ rfl rfl;cases f;cases g;cases i
   rfl
theorem Hu(o a b:Int):qR ⟨o,a,b⟩ (.agg [.p (pI o),.p (pI a),.p (pI b)]):=λC ρ v h=>by
 obtain⟨us,rfl,e,d⟩:=h
 match us,e with
 |[a,b,c],_=>
  have f:RV C (pI _) _:=d 0 _ _ rfl rfl;have g:RV C (pI _) _:=d 1 _ _ rfl rfl;have i:RV C (pI _) _:=d 2 _ _ rfl rfl;cases f;cases g;cases i
  rfl
theorem BL{x y:Operand}{p q:Nd}{a b:AV}{k:PV ->Prop}(ha:qR p a)(hb:qR q b)(hk:k (.bool (!decide (p=q)))):oH prog .neq 46 x y a b k:=by
 refine⟨_,λC ρ va e w c d=>?_,hk⟩;obtain rfl:=ha _ _ _ c;obtain rfl:=hb _ _ _ d;exact⟨_,.bool _,E9 x y p q w⟩
theorem BM{x y:Operand}{p q:Nd}{a b:AV}{k:PV ->Prop}(ha:qR p a)(hb:qR q b)(hk:k (.bool (decide (p=q)))):oH prog .eql 46 x y a b k:=by
 refine⟨_,λC ρ va e w c d=>?_,hk⟩;obtain rfl:=ha _ _ _ c;obtain rfl:=hb _ _ _ d;exact⟨_,.bool _,Fa _ _ p q w⟩
theorem Ps{B:ak}(hB:dy B)(a:Int):VC prog 118 [bw B,pI a] (.bool (m8 B a)):=by
 have Z:=au cj B.ents;generalize b:m8 B a=i;unfold m8 at b;refine vf 104 [.tmp 4] τok func118 ?_;refine af (λM=>?_) (λM=>?_)
 ·rw[KX (.inl M)]at b
  exact⟨_,_,rfl,rfl,KG PV.bool b⟩
 refine af (λj=>?_) (λj=>?_)
 ·have j:((B.ents.map cj).length:Int)<=a:=j
  rw[KX (.inr (.inl Uo))]at b;exact⟨_,_,rfl,rfl,KG PV.bool b⟩
 have j:¬ ((B.ents.map cj).length:Int)<=a:=j;obtain⟨n,rfl⟩:∃n:Nat,a=(n:Int):=⟨a.toNat,Uo⟩
 obtain⟨x,hx,_⟩:=ay (l:=B.ents) (k:=n);rw[sj hx]at b;have hX:=hB.x x (JQ hx);have O:=hX.p.1;have S:=hX.i.1;have l1:=au ndP x.sort;have l2:=au (λt=>[ah t]) x.params;have l3:=au (λt=>[ah t]) x.indices;have l4:=au bM x.ctors;refine cP n hx ?_;refine af (λd=>?_) (λd=>?_)
 ·have d:x.kind≠1:=d
  rw[KX (.inr (.inr d))]at b;exact⟨_,_,rfl,rfl,KG PV.bool b⟩
 have d:¬ x.kind≠1:=d;rw[KY Uo]at b;refine cP n hx ?_;have m:∀{P:Prop} [Decidable P] {r:Bool},P ->(if P then false else r)=i ->fY' [PV.nz (.bool false)]= .bool i:=λh e=>by rw[KX h]at e;rw[<- e];rfl
 refine af (λo=>?_) (λo=>?_)
 ·have o:((x.sort.map ndP).length:Int)≠2:=o
  exact⟨_,_,rfl,rfl,m (.inl Uo) b⟩
 have o:¬ ((x.sort.map ndP).length:Int)≠2:=o;obtain⟨K,p,_⟩:=ay (l:=x.sort) (k:=0);obtain⟨L,q,_⟩:=ay (l:=x.sort) (k:=1);have T:x.sort.getD 0 ⟨0,0,0⟩=K:=by rw[QK,p];rfl
 have U:x.sort.getD 1 ⟨0,0,0⟩=L:=by rw[QK,q];rfl
 rw[T,U]at b;refine aI 0 p ?_;refine af (λf=>?_) (λf=>?_)
 ·have f:K.a≠1:=f
  exact⟨_,_,rfl,rfl,m (.inr (.inl f)) b⟩
 have f:¬ K.a≠1:=f;refine aI 1 q ?_;refine BL (Ht L) (Hu 3 0 0) ?_
 by_cases F:L=⟨3,0,0⟩
 rotate_left
 ·rw[KH F]
  exact⟨_,_,rfl,rfl,m (.inr (.inr (.inl F))) b⟩
 rw[KU F];refine vi ?_;refine af (λs=>?_) (λs=>?_)
 ·have s:(0:Int)<((x.params.map λt=>[ah t]).length:Int)+((x.indices.map λt=>[ah t]).length:Int):=s
  exact⟨_,_,rfl,rfl,m (.inr (.inr (.inr (.inl Uo)))) b⟩
 have s:¬ (0:Int)<((x.params.map λt=>[ah t]).length:Int)+((x.indices.map λt=>[ah t]).length:Int):=s;refine af (λu=>?_) (λu=>?_)
 ·have u:((x.ctors.map bM).length:Int)≠2:=u
  exact⟨_,_,rfl,rfl,m (.inr (.inr (.inr (.inr Uo)))) b⟩
 have u:¬ ((x.ctors.map bM).length:Int)≠2:=u;rw[KY (by rintro(h|h|h|h|h)<;>first|omega|exact h F)]at b;obtain⟨I,v,_⟩:=ay (l:=x.ctors) (k:=0);obtain⟨c1,y,_⟩:=ay (l:=x.ctors) (k:=1);have V:x.ctors.getD 0 default=I:=by rw[QK,v];rfl
 have W:x.ctors.getD 1 default=c1:=by rw[QK,y];rfl
 rw[V,W]at b;have l5:=au rP I.args;have l6:=au rP c1.args;refine gp 0 v ?_;refine gp 1 y ?_;refine vk ?_;refine af (λz=>?_) (λz=>?_);rotate_left
 ·have z:¬ ((I.args.map rP).length:Int)=0:=z
  rw[KH Uo]at b;exact⟨_,_,rfl,rfl,KG PV.bool b⟩
 have z:((I.args.map rP).length:Int)=0:=z;rw[KU Uo,Bool.true_and]at b;refine af (λA=>?_) (λA=>?_);rotate_left
 ·have A:¬ ((c1.args.map rP).length:Int)=1:=A
  rw[KH Uo]at b;exact⟨_,_,rfl,rfl,KG PV.bool b⟩
 have A:((c1.args.map rP).length:Int)=1:=A;rw[KU Uo,Bool.true_and]at b;obtain⟨g,c,_⟩:=ay (l:=c1.args) (k:=0);have X:c1.args.getD 0 []=g:=by rw[QK,c];rfl
 rw[X]at b;have l7:=au ndP g;refine az 0 c ?_;refine af (λD=>?_) (λD=>?_);rotate_left
 ·have D:¬ ((g.map ndP).length:Int)=1:=D
  rw[KH Uo]at b;exact⟨_,_,rfl,rfl,KG PV.bool b⟩
 have D:((g.map ndP).length:Int)=1:=D;rw[KU Uo,Bool.true_and]at b;obtain⟨N,E,_⟩:=ay (l:=g) (k:=0);have Y:g.getD 0 ⟨0,0,0⟩=N:=by rw[QK,E];rfl
 rw[Y]at b;refine az 0 c ?_;refine aI 0 E ?_;exact BM (Ht N) (Hu 9 n 0)<|⟨_,_,rfl,rfl,KG PV.bool b⟩
def OnG(g:G):Prop:=∀x y v,g x y=some v ->v=1
theorem OnG.bd{g:G}(h:OnG g)(x y:Int):0<=(g x y).getD 0/\(g x y).getD 0<=1:=by
 cases a:g x y with
 |none=>simp
 |some v=>have:=h x y v a;simp[this]
theorem OnG.put{g:G}(h:OnG g)(x y:Int):OnG (putG g x y 1):=λa b v c=>by
 unfold putG at c;split at c
 ·exact(JB c).symm
 ·exact h a b v c
theorem Pt{B:ak}(hB:dy B):VC prog 60 [bw B] (.bool (iC B)):=by
 have L:=au iO B.prims;have M:=au cj B.ents;have z:=hB.p;generalize a:iC B=d;unfold iC at a;have j:∀{P:Prop} [Decidable P] {r:Bool},P ->(if P then false else r)=d ->fY' [PV.nz (.bool false)]= .bool d:=λh e=>by rw[KX h]at e;rw[<- e];rfl
 refine cR 89 [.tmp 2] τok func60 ?_;refine aD<|dY τok (σ:=Unit) [(1,_),(2,_)] [(1,_)] (λ_=>[]) (λ_=>[]) (λ_=>m9 B B.prims (λ_ _=>none)=d) ?_ ?_
 ·refine af (λm=>?_) (λm=>?_)
  ·refine bX (Ps hB B.nat) (λf=>?_) (λf=>?_)
   ·refine vn ?_
    exact aw () (by rwa [KY (by rintro(⟨_,h⟩|⟨h,_⟩);exact absurd (f.symm.trans h) UO;exact m h)]at a)
   ·exact⟨_,_,rfl,rfl,j (.inl ⟨m,f⟩) a⟩
  ·refine vy ?_
   refine af (λA=>?_) (λA=>?_)
   ·exact⟨_,_,rfl,rfl,j (.inr ⟨Uo,Uo⟩) a⟩
   ·exact aw () (by rwa [KY (by rintro(⟨h,_⟩|⟨_,h⟩);exact m h;omega)]at a)
 rintro _ a;refine aD<|rG (QG λ_ _=>none) ?_ qg0;refine aj<|aB τok (σ:=Nat×G) [(1,_),(3,_),(31,_),(32,_)] [(1,_)] (λq=>[(33,vI q.1)]) (λq=>[(29,.ob 0 (QG q.2))]) (λq=>q.1<=B.prims.length/\OnG q.2/\m9 B (B.prims.drop q.1) q.2=d) (λq=>B.prims.length-q.1) (0,_) ⟨KV _,(λ_ _ _ h=>(by cases h):OnG λ_ _=>none),a⟩ ?_;rintro⟨i,g⟩ ⟨D,o,b⟩;simp only at D o b;refine aj<|af (λc=>?_) (λc=>?_);rotate_left
 ·rw[JY Uo]at b
  exact⟨_,_,rfl,rfl,KG PV.bool b⟩
 obtain⟨p,E,F⟩:=ay (l:=B.prims) (k:=i);rw[F]at b;simp only[m9]at b;refine vm (p:=iO) i E ?_;refine vk ?_;refine af (λu=>?_) (λu=>?_)
 ·refine vk ?_
  exact⟨_,_,rfl,rfl,j (.inl u) b⟩
 refine af (λI=>?_) (λI=>?_)
 ·refine vk ?_
  exact⟨_,_,rfl,rfl,j (.inr (.inl Uo)) b⟩
 refine cP p.1.toNat (kc Uo) ?_;refine af (λv=>?_) (λv=>?_)
 ·refine vk ?_
  exact⟨_,_,rfl,rfl,j (.inr (.inr (.inl v))) b⟩
 refine af (λy=>?_) (λy=>?_)
 ·refine vk ?_
  exact⟨_,_,rfl,rfl,j (.inr (.inr (.inr (.inl y)))) b⟩
 refine af (λK=>?_) (λK=>?_)
 ·refine vk ?_
  exact⟨_,_,rfl,rfl,j (.inr (.inr (.inr (.inr (.inl Uo))))) b⟩
 refine A0 m2p<|A0 m2p ?_;have N:=o.bd p.1 (-1);have b2:=o.bd (-1) p.2;refine vi ?_;refine af (λs=>?_) (λs=>?_)
 ·refine vk ?_
  exact⟨_,_,rfl,rfl,j (.inr (.inr (.inr (.inr (.inr s))))) b⟩
 have s:¬ (0:Int)<(g p.1 (-1)).getD 0+(g (-1) p.2).getD 0:=s;refine vk ?_;rw[KY Uo]at b;refine qy m2p<|qy m2p<|vk ?_;refine vi ?_;exact aw (i+1,putG (putG g p.1 (-1) 1) (-1) p.2 1) ⟨by show i+1<=_;omega,(o.put _ _).put _ _,b⟩
abbrev qS(B:ak)(known self:Int):PV:=.agg (jE B++[pI known,pI self])
theorem Pu{x:Tr}(hx:Wf x){n:Int}(a:I64 n):VC prog 69 [ah (row x),pI n] (.bool (kF x n)):=Ll hx.ok hx.len n
section
variable{B:ak}{known:Nat}{self:Int}(hk:known<=B.ents.length)
include hk
theorem Pv{a:Int}(b:0<=a):VC prog 167 [qS B known self,pI a] (.bool (bk B known a)):=by
 have d:=au cj B.ents;refine vf 19 [.tmp 4] τok func167 ?_;refine af (λg=>?_) (λg=>?_)
 ·refine cP a.toNat (kc b) ?_
  refine af (λc=>?_) (λc=>?_)
  all_goals exact⟨_,_,rfl,rfl,bV (by simp[bk,b,g,c])⟩
 ·exact⟨_,_,rfl,rfl,bV (by simp[bk,g])⟩
theorem Pw{m:Nd}(hm:aF m=true):VC prog 121 [qS B known self,qe m] (.bool (bh B known self m)):=by
 have q:=au cj B.ents;have b:=dn hm;have d:=Pv hk (self:=self) b.2.2.1;generalize a:bh B known self m=o;unfold bh at a;refine vf 72 [.tmp 4] τok func121 ?_;refine af (λe=>?_) (λe=>?_)
 ·rw[KX e]at a
  refine af (λg=>?_) (λg=>?_)
  all_goals exact⟨_,_,rfl,rfl,bV (by rw[<- a];simp[g])⟩
 rw[KY e]at a;refine af (λi=>?_) (λi=>?_)
 ·rw[KX i]at a
  refine af (λg=>?_) (λg=>?_)
  ·refine cP m.a.toNat (kc b.2.2.1) ?_
   refine af (λc=>?_) (λc=>?_)
   all_goals exact⟨_,_,rfl,rfl,bV (by rw[<- a];simp[b.2.2.1,g,c])⟩
  ·exact⟨_,_,rfl,rfl,bV (by rw[<- a];simp[g])⟩
 rw[KY i]at a;refine af (λc=>?_) (λc=>?_)
 ·rw[KX c]at a
  refine af (λg=>?_) (λg=>?_)
  ·exact⟨_,_,rfl,rfl,bV (by rw[<- a];simp[g])⟩
  ·refine ae d ?_
   exact⟨_,_,rfl,rfl,bV (by rw[<- a];simp[g])⟩
 rw[KY c]at a;refine af (λj=>?_) (λj=>?_)
 ·rw[KX j]at a
  exact ae d<|⟨_,_,rfl,rfl,bV a⟩
 rw[KY j]at a;refine af (λl=>?_) (λl=>?_)
 ·rw[KX l]at a
  refine bX d (λf=>?_) (λf=>?_)
  ·have p:=f
   simp only[bk,Bool.and_eq_true,decide_eq_true_eq]at p;have eC:=au bM (aN B m.a).ctors;refine cP m.a.toNat (kc b.2.2.1) ?_;refine af (λg=>?_) (λg=>?_)
   all_goals refine vk ?_
   all_goals exact⟨_,_,rfl,rfl,bV (by rw[<- a,f];rw[eC]at g;simp[g])⟩
  ·refine vk ?_
   exact⟨_,_,rfl,rfl,bV (by rw[<- a,f];rfl)⟩
 rw[KY l]at a;exact⟨_,_,rfl,rfl,bV a⟩
theorem BN{l:List Nd}(hl:l.length<=1000000000){below:Int}(hb:I64 below):VC prog 65 [qS B known self,ah l,pI below] (pI (cZ B known self l below)):=by
 have j:=au ndP l;generalize a:cZ B known self l below=b;unfold cZ at a;refine vf 30 [.tmp 6] τok func65 ?_;refine ae (kO l hl) ?_;refine af (λg=>?_) (λg=>?_)
 ·rw[KX g]at a
  exact⟨_,_,rfl,rfl,KG (PV.int .i64) a⟩
 rw[KY g]at a;obtain⟨x,hx,rfl⟩:=vR (QY g);rw[jC hx.ok]at a;refine bX (Pu hx hb) (λf=>?_) (λf=>?_);rotate_left
 ·rw[KX f]at a
  exact⟨_,_,rfl,rfl,KG (PV.int .i64) a⟩
 rw[KY (by rw[f];decide)]at a;refine aB τok (σ:=Nat) [(3,_),(19,_),(20,_)] [(3,_)] (λi=>[(21,vI i)]) (λ_=>[]) (λi=>i<=(row x).length/\(if ((row x).drop i).any (λm=>!bh B known self m)=true then (8:Int)else 0)=b) (λi=>(row x).length-i) 0 ⟨KV _,a⟩ ?_
 clear a
 rintro i ⟨o,hr⟩;refine aj<|af (λd=>?_) (λd=>?_);rotate_left
 ·rw[JY Uo]at hr
  exact⟨_,_,rfl,rfl,KG (PV.int .i64) hr⟩
 obtain⟨m,c,e⟩:=ay (l:=row x) (k:=i);rw[e,List.any_cons]at hr;refine vm i c ?_;refine bX (Pw hk (ft' x .tm hx.ok.1 m (JQ c))) (λf=>?_) (λf=>?_);rotate_left
 ·rw[KX (by rw[f];rfl)]at hr
  exact⟨_,_,rfl,rfl,KG (PV.int .i64) hr⟩
 rw[f,Bool.not_true,Bool.false_or]at hr;refine vi ?_;exact aw (i+1) ⟨by show i+1<=_;omega,hr⟩
theorem tB{ls:List (List Nd)}(hl:j3 ls){below step:Int}(hb:0<=below/\below<=1000000000)(r:0<=step/\step<=1):VC prog 114 [qS B known self,bD ls,pI below,pI step] (pI (bW B known self step ls below)):=by
 have s:=au (λt=>[ah t]) ls;have f:=hl.1;generalize a:bW B known self step ls below=b;refine vf 29 [.tmp 8] τok func114 ?_;refine aB τok (σ:=Nat×Int) [(3,_),(4,_),(12,_),(13,_)] [(4,_)] (λq=>[(2,vI q.2),(14,vI q.1)]) (λ_=>[]) (λq=>q.1<=ls.length/\below<=q.2/\q.2<=below+q.1/\bW B known self step (ls.drop q.1) q.2=b) (λq=>ls.length-q.1) (0,below) ⟨KV _,Int.le_refl _,Ud,a⟩ ?_
 clear a
 rintro⟨i,x⟩ ⟨j,c,d,hr⟩;simp only at j c d hr;refine aj<|af (λm=>?_) (λm=>?_);rotate_left
 ·rw[JY Uo]at hr
  exact⟨_,_,rfl,rfl,KG (PV.int .i64) hr⟩
 obtain⟨l,e,o⟩:=ay (l:=ls) (k:=i);rw[o]at hr;simp only[bW]at hr;have u:=hl.2 l (JQ e);refine vm (p:=λt=>[ah t]) i e ?_;refine ae (BN hk (l:=l) Uo (below:=x) ⟨Uo,Uo⟩) ?_;refine af (λg=>?_) (λg=>?_)
 ·rw[KX g]at hr
  exact⟨_,_,rfl,rfl,KG (PV.int .i64) hr⟩
 rw[KY g]at hr;refine vi ?_;refine vi ?_;exact aw (i+1,x+step) ⟨by show i+1<=_;omega,Us,Us,hr⟩
theorem Px{x:cf}(hX:sp x)(y:x.params.length<=16):VC prog 117 [qS B known self,.agg (cj x)] (pI (gJ B known x x.ctors)):=by
 have m:=au (λt=>[ah t]) x.params;have z:=au (λt=>[ah t]) x.indices;have A:=au bM x.ctors;have o:=hX.c;generalize a:gJ B known x x.ctors=e;refine vf 55 [.tmp 4] τok func117 ?_;refine aB τok (σ:=Nat) [(2,_),(3,_),(13,_),(14,_)] [(2,_),(3,_)] (λi=>[(15,vI i)]) (λ_=>[]) (λi=>i<=x.ctors.length/\gJ B known x (x.ctors.drop i)=e) (λi=>x.ctors.length-i) 0 ⟨KV _,a⟩ ?_
 clear a
 rintro i ⟨D,hr⟩;refine aj<|af (λp=>?_) (λp=>?_);rotate_left
 ·rw[JY Uo]at hr
  exact⟨_,_,rfl,rfl,KG (PV.int .i64) hr⟩
 obtain⟨c,j,q⟩:=ay (l:=x.ctors) (k:=i);rw[q]at hr;simp only[gJ]at hr;obtain⟨r,s⟩:=hX.a c (JQ j);have f1:=au (λt=>[ah t]) c.args;have f2:=au (λt=>[ah t]) c.out;refine gp i j ?_;refine af (λb=>?_) (λb=>?_)
 ·have b:((c.args.map λt=>[ah t]).length:Int)>16:=b
  rw[KX Uo]at hr;exact⟨_,_,rfl,rfl,KG (PV.int .i64) hr⟩
 have b:¬ ((c.args.map λt=>[ah t]).length:Int)>16:=b;rw[KY Uo]at hr;refine af (λd=>?_) (λd=>?_)
 ·have d:((c.out.map λt=>[ah t]).length:Int)≠((x.indices.map λt=>[ah t]).length:Int):=d
  rw[KX Uo]at hr;exact⟨_,_,rfl,rfl,KG (PV.int .i64) hr⟩
 have d:¬ ((c.out.map λt=>[ah t]).length:Int)≠((x.indices.map λt=>[ah t]).length:Int):=d;rw[KY Uo]at hr;have u:=tB hk (self:=known) r (below:=((x.params.map λt=>[ah t]).length:Int)) (step:=1) ⟨Uo,Uo⟩ ⟨UO,UO⟩;have v:=tB hk (self:=known) s (below:=((x.params.map λt=>[ah t]).length:Int)+((c.args.map λt=>[ah t]).length:Int)) (step:=0) ⟨Uo,Uo⟩ ⟨UO,UO⟩;refine ae u ?_;rw[<- m,<- f1]at hr;refine af (λf=>?_) (λf=>?_)
 ·rw[KX f]at hr
  exact⟨_,_,rfl,rfl,KG (PV.int .i64) hr⟩
 rw[KY f]at hr;refine vi ?_;refine ae v ?_;refine af (λg=>?_) (λg=>?_)
 ·rw[KX g]at hr
  exact⟨_,_,rfl,rfl,KG (PV.int .i64) hr⟩
 rw[KY g]at hr;refine vi ?_;exact aw (i+1) ⟨by show i+1<=_;omega,hr⟩
end
theorem Py{l:List Nd}(b:0<l.length):VC prog 112 [ah l] (pI (iB l)):=by
 obtain⟨m,a,_⟩:=ay (l:=l) (k:=0) b;unfold iB;rw[QK,a];refine vf 8 [.tmp 2] τok func112 ?_;refine vm 0 a ?_;refine af (λg=>?_) (λg=>?_)
 ·exact aE (h3:=by rw[show ((some m).getD ⟨0,0,0⟩)=m from rfl,KX g];rfl)
 ·exact aE (h3:=by rw[show ((some m).getD ⟨0,0,0⟩)=m from rfl,KY g];rfl)
def iS':List Int ->Int
 |[]=>0
 |a::r=>bv a (iS' r)
theorem qT{P:Program}{f:FuncId}{ps:List PV}{n:Int}(h:VC P f ps (pI n)){w:World}{C:Mem}{vs:List Value}(hS:Sub C w)(a:cW C ps vs):dL P f/\Calls P f vs.toArray w (λe w'=>e= .returned (.int .i64 n)/\Kp [] w w'):=⟨h.1,(h.run.2 w C vs hS a).mono λe w' ⟨v,g,b,c,d⟩=>⟨by rw[b,gC c],d.kp⟩⟩
section
variable{C:Mem}{w:World}{B:ak}{known:Nat}{x:cf}
theorem Pz{fs:List (Nat×Array Value)}{rs:List Int}(u:rs.length=fs.length)(E:fs.length<=100){b T:Nat}(hb:Bk w.heap b (fs.map λq=>.func (.func q.1) #[] q.2) T)
  (hf:∀(i:Nat) q w',fs[i]?=some q ->Kp [] w w' ->(∀j,j<i ->rs.getD j 0=0) ->dL prog q.1/\Calls prog q.1 (#[]++ #[]++q.2) w' (λe v=>e= .returned (.int .i64 (rs.getD i 0))/\Kp [] w' v)):
  CC 109 #[.slice (some ⟨b,0,none⟩) fs.length fs.length] w (λe w'=>e= .returned (.int .i64 (iS' rs))/\Kp [] w w'):=by
 refine oF func109 ?_;generalize d:iS' rs=s;refine cO (args:=[_]) 18 [.tmp 2] τok func109 ?_;refine lp τok (σ:=Nat) (λi=>[(6,.slice (some ⟨b,0,none⟩) fs.length fs.length),(7,.int .i64 (fs.length:Int)),(8,.int .i64 (i:Int))])
  (λi w'=>i<=fs.length/\Kp [] w w'/\(∀j,j<i ->rs.getD j 0=0)/\iS' (rs.drop i)=s) (λi=>fs.length-i) 0 rfl
  ⟨rfl,rfl,rfl,trivial⟩ ⟨KV _,Kp.refl _ _,λj F=>Uo,d⟩ ?_
 clear d
 rintro i y ⟨K,c,z,a⟩;refine dj (λg=>?_) (λg=>?_)
 ·have g:(i:Int)<(fs.length:Int):=g
  obtain⟨q,A,_⟩:=ay (l:=fs) (k:=i);obtain⟨r,hr,I⟩:=ay (l:=rs) (k:=i);rw[I]at a;have o:rs.getD i 0=r:=by rw[QK,hr];rfl
  have f:Cl y.heap b (0+i*1) (.func (.func q.1) #[] q.2):=(hb.kp c Ud).cl (by rw[Nat.mul_one,KW,JX,A];rfl);refine ix i rfl Uo<|ld (Cl.cell f) ?_;have D:=hf i q y A c z;rw[o]at D;refine ja D ?_;rintro e v ⟨rfl,p⟩;simp only[iS',bv]at a;refine dj (λm=>?_) (λm=>?_)
  ·have m:r≠0:=m
   rw[KX m]at a;subst a;exact⟨rfl,c.tr p⟩
  ·have m:¬ r≠0:=m
   rw[KY m]at a;exact i6<|⟨i+1,Uo,rfl,⟨rfl,rfl,rfl,trivial⟩,Uo,c.tr p,λj F=>by
    by_cases h:j=i
    ·subst h
     rw[o];omega
    ·exact z j Uo,a⟩
 ·have g:¬ (i:Int)<(fs.length:Int):=g
  rw[JY Uo]at a;simp only[iS']at a;subst a;exact⟨rfl,c⟩
structure Bxq(C:Mem)(w:World)(B:ak)(known:Nat)(x:cf)(b2 b3:Nat)(us es:List Value):Prop where
 lk:Bk w.heap b2 us 110
 en:Bk w.heap b3 es 70
 u:cW C (jE B++[pI known,pI (-1)]) us
 e:cW C (cj x) es
 k:known<=B.ents.length
 sm:sp x
 lp:x.params.length<=16
theorem Bxq.kp{b2 b3:Nat}{us es:List Value}(h:Bxq C w B known x b2 b3 us es){w':World}(k:Kp [] w w'):Bxq C w' B known x b2 b3 us es:=⟨h.lk.kp k Ud,h.en.kp k Ud,h.u,h.e,h.k,h.sm,h.lp⟩
variable{b2 b3:Nat}{us es:List Value}(hS:Sub C w)(h:Bxq C w B known x b2 b3 us es)
include hS h
theorem IQ':CC 110 #[pt b2,pt b3] w (λe w'=>e= .returned (.int .i64 (cZ B known (-1) x.sort 0))/\Kp [] w w'):=by
 refine oF func110 ?_;have hx:=h.sm;have y:=hx.s;obtain⟨r,s,a,b,hk,_,_⟩:=h
 match us,es,a,b with
 |[f,g,i,m,o,p,q],[z,A,D,E,F,I,K],a,b=>
 have c:∀j u,[f,g,i,m,o,p,q][j]?=some u ->Cl w.heap b2 (0+j) u:=λj u v=>by rw[KW];exact r.cl v
 refine cO (args:=[_,_]) 7 [.tmp 2] τok func110 ?_;refine lj [f,g,i,m,o,p,q] rfl c<|lb s ?_;refine ja (qT (BN hk (l:=x.sort) Uo (below:=0) (by constructor<;>simp)) hS (bQ (nW a) (bQ (b.2 1 _ _ rfl rfl) (bQ (.int _ _) ir)))) ?_;rintro e L ⟨rfl,d⟩;exact⟨rfl,d⟩
theorem PA(d:0<x.sort.length):CC 111 #[pt b3] w (λe w'=>e= .returned (.int .i64 (iB x.sort))/\Kp [] w w'):=by
 refine oF func111 ?_;have hx:=h.sm;obtain⟨g,f,c,a,hk,_,_⟩:=h
 match us,es,c,a with
 |[i,j,l,m,o,p,q],[r,s,u,v,y,z,A],c,a=>
 refine cO (args:=[_]) 5 [.tmp 1] τok func111 ?_;refine lb f ?_;refine ja (qT (Py d) hS (bQ (a.2 1 _ _ rfl rfl) ir)) ?_;rintro e D ⟨rfl,b⟩;exact⟨rfl,b⟩
theorem IS':CC 113 #[pt b2,pt b3] w (λe w'=>e= .returned (.int .i64 (bW B known (-1) 1 x.params 0))/\Kp [] w w'):=by
 refine oF func113 ?_;have hx:=h.sm;obtain⟨q,r,a,b,hk,_,_⟩:=h
 match us,es,a,b with
 |[f,g,i,l,m,o,p],[v,y,z,A,D,E,F],a,b=>
 have c:∀j u,[f,g,i,l,m,o,p][j]?=some u ->Cl w.heap b2 (0+j) u:=λj u s=>by rw[KW];exact q.cl s
 refine cO (args:=[_,_]) 7 [.tmp 2] τok func113 ?_;refine lj [f,g,i,l,m,o,p] rfl c<|lb r ?_;refine ja (qT (tB hk hx.p (below:=0) (step:=1) Uo Uo) hS (bQ (nW a) (bQ (b.2 2 _ _ rfl rfl) (bQ (.int _ _) (bQ (.int _ _) ir))))) ?_;rintro e I ⟨rfl,d⟩;exact⟨rfl,d⟩
theorem PB{f T:Nat}(r:Bk w.heap f [.int .i64 (x.params.length:Int)] T):CC 115 #[pt b2,pt b3,pt f] w (λe w'=>e= .returned (.int .i64 (bW B known (-1) 1 x.indices (x.params.length:Int)))/\Kp [] w w'):=by
 refine oF func115 ?_;have hx:=h.sm;have s:=h.lp;obtain⟨v,y,a,b,hk,_,_⟩:=h
 match us,es,a,b with
 |[g,i,l,m,o,p,q],[A,D,E,F,I,K,L],a,b=>
 have c:∀j u,[g,i,l,m,o,p,q][j]?=some u ->Cl w.heap b2 (0+j) u:=λj u z=>by rw[KW];exact v.cl z
 refine cO (args:=[_,_,_]) 9 [.tmp 3] τok func115 ?_;refine lj [g,i,l,m,o,p,q] rfl c<|lb y ?_;refine lb r ?_;refine ja (qT (tB hk hx.i (below:=(x.params.length:Int)) (step:=1) Uo Uo) hS (bQ (nW a) (bQ (b.2 3 _ _ rfl rfl) (bQ (.int _ _) (bQ (.int _ _) ir))))) ?_;rintro e M ⟨rfl,d⟩;exact⟨rfl,d⟩
theorem IU':CC 116 #[pt b2,pt b3] w (λe w'=>e= .returned (.int .i64 (gJ B known x x.ctors))/\Kp [] w w'):=by
 refine oF func116 ?_;have hx:=h.sm;have a:=h.lp;obtain⟨r,s,b,c,hk,_,_⟩:=h
 match us,es,b,c with
 |[g,i,l,m,o,p,q],[v,y,z,A,D,E,F],b,c=>
 have d:∀j u,[g,i,l,m,o,p,q][j]?=some u ->Cl w.heap b2 (0+j) u:=λj u I=>by rw[KW];exact r.cl I
 refine cO (args:=[_,_]) 6 [.tmp 2] τok func116 ?_;refine lj [g,i,l,m,o,p,q] rfl d<|lj [v,y,z,A,D,E,F] rfl (bZ s)<|ja (qT (Px hk hx a) hS (bQ (nW b) (bQ (nW c) ir))) ?_;rintro e K ⟨rfl,f⟩;exact⟨rfl,f⟩
end
theorem qU{C:Mem}{l:List (List PV)}{v:Value}(h:RV C (.sl l) v):∃a c,v= .slice a l.length c:=by
 cases h with
 |nil a c=>exact⟨a,c,rfl⟩
 |sl l d b o c f=>exact⟨_,c,rfl⟩
section
variable{B:ak}{known:Nat}{x:cf}(hk:known<=B.ents.length)(hX:sp x)
include hk hX
theorem Ct':VC prog 59 [qS B known (-1),.agg (cj x)] (pI (fJ B known x)):=.of ⟨⟨_,func59,rfl,UO⟩,λw C vs hS hV=>by
 suffices H:Calls prog 59 vs.toArray w (λe U=>e= .returned (.int .i64 (fJ B known x))/\Kp [] w U)from H.mono λe U ⟨e1,k⟩=>⟨_,C,e1,.int _ _,hS.tr k,λ_ _ _ h=>h,λb o v h=>.inl ⟨o,v,h⟩,k⟩
 obtain⟨lv,ev,rfl,g1,g⟩:=uX hV;generalize c:fJ B known x=K;unfold fJ at c;cases g1 with|agg _ us ul uh=>
 cases g with|agg _ es el eh=>
 have hu:cW C (jE B++[pI known,pI (-1)]) us:=⟨ul,uh⟩
 have m:cW C (cj x) es:=⟨el,eh⟩
 clear ul uh el eh
 match us,es,hu,m with
 |[u0,u1,u2,u3,u4,u5,u6],[e0,e1,e2,e3,e4,e5,e6],hu,m=>
 obtain rfl:=gC (m.2 0 _ _ rfl rfl);obtain⟨W,X,r1⟩:=qU (m.2 1 _ _ rfl rfl);obtain⟨ap,cp,r2⟩:=qU (m.2 2 _ _ rfl rfl);obtain⟨ai,ci,r3⟩:=qU (m.2 3 _ _ rfl rfl);obtain⟨ac,cc,r4⟩:=qU (m.2 4 _ _ rfl rfl);obtain⟨p,r,r5⟩:=qU (m.2 5 _ _ rfl rfl);obtain⟨Y,Z,r6⟩:=qU (m.2 6 _ _ rfl rfl);rw[KF]at r1 r2 r3 r4 r5 r6;subst r1 r2 r3 r4 r5 r6;have l1:=hX.s;have l2:=hX.p.1;have l3:=hX.i.1;have l4:=hX.c;have l5:=hX.t;have l6:=hX.b;refine cO (args:=[_,_]) 69 [.tmp 4] τok func59 ?_;refine jv λb2 w1 b0 V b1 a5=>?_;have V:Bk w1.heap b2 [u0,u1,u2,u3,u4,u5,u6] 110:=V;refine jv λb3 w2 b4 f b7 a0=>?_;have f:Bk w2.heap b3 [.int .i64 x.kind,.slice W x.sort.length X,.slice ap x.params.length cp,.slice ai x.indices.length ci,.slice ac x.ctors.length cc,.slice p x.type.length r,.slice Y x.body.length Z] 70:=f;have V:=V.kp a0 Ud;have d:=a5.tr a0;refine lb f ?_;refine dj (λL=>?_) (λL=>?_)
 ·have L:x.kind=1:=L
  rw[KX L]at c;refine lb f ?_;refine lb f ?_;refine i6 ?_;refine dj (λg=>?_) (λg=>?_)
  ·have g:(0:Int)<(x.type.length:Int)+(x.body.length:Int):=g
   rw[KX Uo]at c;subst c;exact⟨rfl,d⟩
  have g:¬ (0:Int)<(x.type.length:Int)+(x.body.length:Int):=g;rw[KY Uo]at c;have M:∀{U},Kp [] w U ->K=5 ->Ending.returned (Go.Wx.one [.int .i64 5])= .returned (.int .i64 K)/\Kp [] w U:=λk h=>by subst h;exact⟨rfl,k⟩
  refine lb f ?_;refine dj (λs=>?_) (λs=>?_)
  ·have s:(16:Int)<(x.params.length:Int):=s
   rw[KX (.inl Uo)]at c;exact M d c.symm
  have s:¬ (16:Int)<(x.params.length:Int):=s;refine lb f ?_;refine dj (λg4=>?_) (λg4=>?_)
  ·have g4:(16:Int)<(x.indices.length:Int):=g4
   rw[KX (.inr (.inl Uo))]at c;exact M d c.symm
  have g4:¬ (16:Int)<(x.indices.length:Int):=g4;refine lb f ?_;refine dj (λg5=>?_) (λg5=>?_)
  ·have g5:(16:Int)<(x.ctors.length:Int):=g5
   rw[KX (.inr (.inr Uo))]at c;exact M d c.symm
  have g5:¬ (16:Int)<(x.ctors.length:Int):=g5;rw[KY Uo]at c;refine lb f ?_;refine jv λI w3 a1 F a6 N=>?_;refine st (b:=I) (o:=0) F Ud rfl λw4 F b8 O=>?_;have F:Bk w4.heap I [.int .i64 (x.params.length:Int)] 3:=F;have a7:=N.newSt a1 O;refine fill [.func (.func 110) #[] #[pt b2,pt b3],.func (.func 111) #[] #[pt b3],.func (.func 113) #[] #[pt b2,pt b3],.func (.func 115) #[] #[pt b2,pt b3,pt I],.func (.func 116) #[] #[pt b2,pt b3]] rfl<|jv λb6 w5 b9 h6 b' a2=>?_;have P:=a7.tr a2;have a3:=d.tr P;have F:=F.kp a2 Ud;have a8:Bxq C w5 B known x b2 b3 [u0,u1,u2,u3,u4,u5,u6] [.int .i64 x.kind,.slice W x.sort.length X,.slice ap x.params.length cp,.slice ai x.indices.length ci,.slice ac x.ctors.length cc,.slice p x.type.length r,.slice Y x.body.length Z]:=⟨V.kp P Ud,f.kp P Ud,hu,m,hk,hX,Uo⟩
  have a9:=Pz (w:=w5) (fs:=[(110,#[pt b2,pt b3]),(111,#[pt b3]),(113,#[pt b2,pt b3]),(115,#[pt b2,pt b3,pt I]),(116,#[pt b2,pt b3])])
   (rs:=[cZ B known (-1) x.sort 0,iB x.sort,bW B known (-1) 1 x.params 0,bW B known (-1) 1 x.indices (x.params.length:Int),gJ B known x x.ctors]) rfl Ud h6 (λi q U hq S hz=>by
    have A:=(hS.tr a3).tr S;have D:=a8.kp S
    match i,hq with
    |0,rfl=>exact IQ' A D
    |1,rfl=>
     refine PA A D ?_;rw[(vM Uo (hz 0 Uo)).1];exact bg _
    |2,rfl=>exact IS' A D
    |3,rfl=>exact PB A D (F.kp S Ud)
    |4,rfl=>exact IU' A D)
  refine ja a9 ?_;rintro e w6 ⟨rfl,a'⟩;have:iS' [cZ B known (-1) x.sort 0,iB x.sort,bW B known (-1) 1 x.params 0,bW B known (-1) 1 x.indices (x.params.length:Int),gJ B known x x.ctors]=K:=by
   rw[<- c];have e:∀a,bv a 0=a:=λa=>by unfold bv;split<;>omega
   simp only[iS',e]
  rw[this];exact⟨rfl,a3.tr a'⟩
 have L:¬ x.kind=1:=L;rw[KY L]at c;refine dj (λg=>?_) (λg=>?_)
 ·have g:x.kind=2:=g
  rw[KX g]at c;refine lb f ?_;refine lb f ?_;refine i6 ?_;refine lb f ?_;refine i6 ?_;refine lb f ?_;refine i6 ?_;refine dj (λs=>?_) (λs=>?_)
  ·have s:(0:Int)<(x.sort.length:Int)+(x.params.length:Int)+(x.indices.length:Int)+(x.ctors.length:Int):=s
   rw[KX Uo]at c;subst c;exact⟨rfl,d⟩
  have s:¬ (0:Int)<(x.sort.length:Int)+(x.params.length:Int)+(x.indices.length:Int)+(x.ctors.length:Int):=s;rw[KY Uo]at c;refine lj [u0,u1,u2,u3,u4,u5,u6] rfl (bZ V)<|lb f ?_;refine lb f ?_;refine fill [.slice p x.type.length r,.slice Y x.body.length Z] rfl<|jv λI w3 a1 F a6 N=>?_;have a4:=d.tr N;have E:∀j u,[Value.slice p x.type.length r,.slice Y x.body.length Z][j]?=some u ->Cn C w w3 I (0+j) u:=λj u hj=>by
   refine .inr ⟨by have:=d.size;omega,?_⟩;rw[KW];exact F.cu hj
  have T:RV (Cn C w w3) (bD [x.type,x.body]) (.slice (some ⟨I,0,none⟩) 2 2):=by
   refine .sl _ 1 I 0 2 (λi _=>[Value.slice p x.type.length r,.slice Y x.body.length Z].getD i undef) (λy hy=>by simp[bD]at hy;rcases hy with rfl|rfl<;>rfl) (KJ 2) (λi j y z hy hz=>?_) λi j y z hy hz=>?_
   all_goals match i,j,hy,hz with
    |0,0,rfl,rfl=>first|exact E 0 _ rfl|exact(m.2 5 _ _ rfl rfl).mono λ_ _ _ h=>.inl h
    |1,0,rfl,rfl=>first|exact E 1 _ rfl|exact(m.2 6 _ _ rfl rfl).mono λ_ _ _ h=>.inl h
  refine ja (qT (tB (B:=B) hk (ls:=[x.type,x.body]) (self:=-1) (below:=0) (step:=0) ⟨Ud,λl hl=>by simp at hl;rcases hl with rfl|rfl;exact hX.t;exact hX.b⟩ Uo Uo) (Cn.sub hS a4) (bQ ((nW hu).mono λ_ _ _ h=>.inl h) (bQ T (bQ (.int _ _) (bQ (.int _ _) ir))))) ?_;rintro e w4 ⟨rfl,O⟩;subst c;exact⟨rfl,a4.tr O⟩
 have g:¬ x.kind=2:=g;rw[KY g]at c;subst c;exact⟨rfl,d⟩⟩
end
section
variable{B:ak}(hB:dy B)
include hB
theorem pR':VC prog 27 [bw B] (pI (dh B)):=by
 have p:=au cj B.ents;have e:=hB.e;generalize a:dh B=c;unfold dh at a;refine vf 39 [.tmp 2] τok func27 ?_;refine ae Nu ?_;refine af (λg=>?_) (λg=>?_)
 ·rw[KX g]at a
  exact⟨_,_,rfl,rfl,KG (PV.int .i64) a⟩
 rw[KY g]at a;refine af (λj=>?_) (λj=>?_)
 ·rw[KX Uo]at a
  exact⟨_,_,rfl,rfl,KG (PV.int .i64) a⟩
 rw[KY Uo]at a;refine aB τok (σ:=Nat) [(1,_),(20,_),(21,_)] [(1,_)] (λi=>[(22,vI i)]) (λ_=>[]) (λi=>i<=B.ents.length/\bv (kT B (B.ents.drop i) i) (if iC B=true then 0 else 22)=c) (λi=>B.ents.length-i) 0 ⟨KV _,a⟩ ?_
 clear a
 rintro i ⟨q,b⟩;refine aj<|af (λm=>?_) (λm=>?_);rotate_left
 ·rw[JY Uo]at b
  have b:(if iC B=true then 0 else 22)=c:=b;refine bX (Pt hB) (λf=>?_) (λf=>?_)
  ·rw[KX f]at b
   exact⟨_,_,rfl,rfl,KG (PV.int .i64) b⟩
  ·rw[KY (by rw[f];decide)]at b
   exact⟨_,_,rfl,rfl,KG (PV.int .i64) b⟩
 obtain⟨x,hx,o⟩:=ay (l:=B.ents) (k:=i);rw[o]at b;have b:bv (bv (fJ B i x) (kT B (B.ents.drop (i+1)) (i+1))) _=c:=b;rw[ng]at b;refine cP i hx ?_;refine ae (Ct' (known:=i) Uo (hB.x x (JQ hx))) ?_;refine af (λd=>?_) (λd=>?_)
 ·rw[lZ d]at b
  exact⟨_,_,rfl,rfl,KG (PV.int .i64) b⟩
 rw[ke d]at b;refine vi ?_;exact aw (i+1) ⟨by show i+1<=_;omega,b⟩
theorem tC{t:List Nd}(ht:t.length<=1000000000){below:Int}(hb:I64 below):VC prog 33 [bw B,pI below,ah t] (pI (iD B below t)):=by
 generalize a:iD B below t=c;unfold iD at a;refine vf 23 [.tmp 6] τok func33 ?_;refine ae (pR' hB) ?_;refine af (λg=>?_) (λg=>?_)
 ·rw[KX g]at a
  exact⟨_,_,rfl,rfl,KG (PV.int .i64) a⟩
 rw[KY g]at a;refine af (λb=>?_) (λb=>?_)
 ·rw[KX b]at a
  exact⟨_,_,rfl,rfl,KG (PV.int .i64) a⟩
 rw[KY b]at a;have h:=BN (B:=B) (known:=B.ents.length) (KJ _) (self:=-1) ht hb;rw[a,show ((B.ents.length:Nat):Int)=((B.ents.map cj).length:Int) by rw[au]]at h;refine ae h ?_;exact aE
theorem PC{c:List (List Nd×List Nd)}{t:List Nd}(hc:c.length<=1000000)(j:∀q∈c,q.1.length<=1000000000/\q.2.length<=1000000000)(ht:t.length<=1000000000):VC prog 19 [bw B,aH c,ah t] (pI (fU B c t)):=by
 have eC:=au bdP c;generalize a:fU B c t=d;unfold fU at a;refine vf 53 [.tmp 6] τok func19 ?_;refine ae (pR' hB) ?_;refine af (λg=>?_) (λg=>?_)
 ·rw[KX g]at a
  exact⟨_,_,rfl,rfl,KG (PV.int .i64) a⟩
 rw[KY g]at a;refine af (λm=>?_) (λm=>?_)
 ·rw[KX Uo]at a
  exact⟨_,_,rfl,rfl,KG (PV.int .i64) a⟩
 rw[KY Uo]at a;refine aB τok (σ:=Nat) [(1,_),(2,_),(3,_),(20,_),(21,_)] [(3,_)] (λi=>[(22,vI i)]) (λ_=>[]) (λi=>i<=c.length/\bv (lW B (c.drop i) i) (iD B c.length t)=d) (λi=>c.length-i) 0 ⟨KV _,a⟩ ?_
 clear a
 rintro i ⟨v,b⟩;refine aj<|af (λo=>?_) (λo=>?_);rotate_left
 ·rw[JY Uo]at b
  have b:iD B c.length t=d:=b;have h:=tC hB ht (below:=((c.map bdP).length:Int)) (by unfold I64;omega);rw[eC,b]at h;refine ae (show VC _ _ [bw B,pI ((c.map bdP).length:Int),ah t] _ by rw[eC];exact h) ?_;exact aE
 obtain⟨q,hx,r⟩:=ay (l:=c) (k:=i);rw[r]at b;have b:bv (bv (iD B i q.1) (if q.2.length=0 then lW B (c.drop (i+1)) (i+1)else bv (iD B i q.2) (lW B (c.drop (i+1)) (i+1)))) _=d:=b;rw[ng]at b;obtain⟨q1,s⟩:=j q (JQ hx);have y:=au ndP q.2;refine vm (p:=bdP) i hx ?_;refine ae (tC hB q1 (below:=(i:Int)) (by unfold I64;omega)) ?_;refine af (λe=>?_) (λe=>?_)
 ·rw[lZ e]at b
  exact⟨_,_,rfl,rfl,KG (PV.int .i64) b⟩
 rw[ke e]at b;refine af (λu=>?_) (λu=>?_)
 ·rw[KX Uo]at b
  refine vi ?_;exact aw (i+1) ⟨by show i+1<=_;omega,b⟩
 rw[KY Uo]at b;refine ae (tC hB s (below:=(i:Int)) (by unfold I64;omega)) ?_;refine af (λf=>?_) (λf=>?_)
 ·rw[ng,lZ f]at b
  exact⟨_,_,rfl,rfl,KG (PV.int .i64) b⟩
 rw[ng,ke f]at b;refine vi ?_;exact aw (i+1) ⟨by show i+1<=_;omega,b⟩
end
theorem rH':VD prog 42 .returning [0,1] [] []:=by
 refine ve ⟨_,func42,rfl,UO⟩ λi d w=>?_;obtain⟨v0,j,rfl⟩:=uV d;refine callsD_of_wpS func42 rfl λa l b=>?_;apply wpS_seq;apply wpS_region;simp[wpOpsS,go_sem,recoverD,b,Exit.thenS,Instr.typeAssert,underlying89,Tryz.zeroValue89];refine wpS_of_wp (Go.wp_mono (mr τok (n:=12) _ ⟨[(3,.bool false)],[]⟩ _ (λe s c=>e= .normal/\s.d=[]/\Kp [] w c) ?_ _ (lB Ud rfl Ud)) ?_)
 ·exact⟨rfl,rfl,Kp.alloc _ _⟩
 rintro e m c ⟨s,f,rfl,g,hk⟩;exact pX f g rfl b ⟨⟨_,rfl⟩,rfl,hk⟩
def BO(x y:PV):List (Nat×SE):=[(0,.st 1 3 [.p x]),(1,.st 2 35 [.p y])]
theorem Hv(er:Int){x y:PV}:VD prog 42 (.panicking (qQ er)) [0,1] (BO x y) (BO (pI 0) (pI er)):=by
 refine⟨⟨_,func42,rfl,UO⟩,λw X C ρ hR=>?_⟩;refine callsD_of_wpS func42 rfl λb i c=>?_;apply wpS_seq;apply wpS_region;simp[wpOpsS,go_sem,recoverD,c,Exit.thenS,Instr.typeAssert,underlying89,Tryz.zeroValue89];refine wpS_of_wp (Go.wp_mono (vg (n:=12) (m2:=BO (pI 0) (pI er)) (q:=2) (p:=3) (k:=2) hR (aj ?_) (lB Ud rfl (by simp[ini]))) ?_)
 ·refine vk ?_
  exact⟨rfl,rfl,rfl,trivial⟩
 rintro e j l ⟨rfl,s,d,f,g,a,hk⟩;exact uF d f rfl ⟨⟨_,rfl⟩,rfl,g,a,hk⟩
abbrev jt':PV:=.raw (.slice none 0 0)
def tD(g:Nat)(en k:Int)(y:PV):List (Nat×SE):=[(100,.st g 3 [.p (pI en)]),(101,.st (g+1) 3 [.p (pI k)]),(102,.st (g+2) 40 [.p y])]
def Hw(r:Except Int (List Bool×Nat)):PV:=match r with
 | .ok q=>.tup [k7 q.1,pI q.2,pI 0]
 | .error e=>.tup [.sl [],pI 0,pI e]
def nv(B:ak)(en k fuel:Int):Except Int (List Bool×Nat):=if dh B≠0 then .error (dh B)else if bk B B.ents.length en=true/\0<=k/\k<(aN B en).ctors.length then kZ B en k (bp fuel)else .error 1
theorem tE{B:ak}{e:Int}:bk B B.ents.length e=true↔0<=e/\e<B.ents.length/\(aN B e).kind=1:=by simp[bk]
section
variable{B:ak}(hI:BoI B)(hB:GoodB B){en:Int}(hf:bk B B.ents.length en=true){k:Nat}(hk:k<(aN B en).ctors.length)
include hI hB hf hk
theorem PD(n:Nat){y:PV}:match kZ B en k n with
  | .ok q=>VG prog 28 [.c (.ptr 0 0),.c (.ptr 100 0),.c (.ptr 101 0),.c (.ptr 102 0)] ((0,.st 1 93 ((cy B n jt').map .p))::tD 2 en k y) (.ok (.c (.p (.tup [])),(0,.st 1 93 ((cy B q.2 jt').map .p))::tD 2 en k (k7 q.1)))
  | .error e=>VG prog 28 [.c (.ptr 0 0),.c (.ptr 100 0),.c (.ptr 101 0),.c (.ptr 102 0)] ((0,.st 1 93 ((cy B n jt').map .p))::(tD 2 en k y).take 2) (.error (qQ e)):=by
 have a:=wX hI hB (aq:=jt') hf hk n;cases hr:kZ B en k n with
 |error e=>
  rw[hr]at a;refine cz 9 [] τok func28 ?_;refine aj<|bG a ?_;exact rfl
 |ok q=>
  rw[hr]at a;refine cz 9 [] τok func28 ?_;refine aj<|ax a ?_;exact db
theorem PE(fuel:Int){y:PV}:VG prog 20 [.c (.p (bw B)),.c (.p (pI fuel)),.c (.fn 28 [100,101,102])] (tD 1 en k y) (.ok (match kZ B en k (bp fuel)with
  | .ok q=>(.c (.p (.tup [pI q.2,pI 0])),tD 1 en k (k7 q.1))
  | .error e=>(.c (.p (.tup [pI 0,pI e])),[(102,.st 3 40 [.p y])]))):=by
 have b:min (max fuel 0) 100000=((bp fuel:Nat):Int):=by unfold bp;omega
 have a:=PD hI hB hf hk (bp fuel) (y:=y)
 generalize kZ B en k (bp fuel)=r at a ⊢
 rcases r with e|q
 all_goals
  refine nZ 23 [.cell 6 3,.cell 7 35] τok func20 ?_;refine aj<|⟨⟨rfl,rfl,rfl⟩,rfl,λd=>?_⟩;refine aj ?_
  first
   |refine lw (λk=>sw 0 15 k) a ?_ (he:=by rw[b];repeat first|exact VQ|refine And.intro rfl ?_)
    refine iu (λk=>k+6) (λ_=>0) (Hv e) ?_;exact db
   |refine aR (λk=>sw 0 15 k) (λk=>k-99) a ?_ (he:=by rw[b];repeat first|exact VQ|refine And.intro rfl ?_)
    refine iu (λk=>k+6) (λ_=>0) rH' ?_;exact db
end
theorem PF{B:ak}(hI:BoI B)(hS:dy B)(en k fuel:Int):VC prog 10 [bw B,pI en,pI k,pI fuel] (Hw (nv B en k fuel)):=by
 have p:=au cj B.ents;generalize a:nv B en k fuel=b;unfold nv at a;refine vf 63 [.tmp 8,.tmp 9,.tmp 10] τok func10 ?_;refine ae (pR' hS) ?_;refine af (λg=>?_) (λg=>?_)
 ·rw[KX g]at a
  subst a;exact aE
 rw[KY g]at a;have hB:=vO (Decidable.not_not.1 g);have c:¬ (bk B B.ents.length en=true/\0<=k/\k<(aN B en).ctors.length) -> .error 1=b:=λh=>by rw[KY h]at a;exact a
 refine af (λi=>?_) (λi=>?_)
 ·have:=c λq=>by have:=tE.1 q.1;omega
  subst this;exact kA9
 have i:¬ en<0:=i;refine af (λd=>?_) (λd=>?_)
 ·have d:((B.ents.map cj).length:Int)<=en:=d
  have:=c λq=>by have:=tE.1 q.1;omega
  subst this;exact kA9
 have d:¬ ((B.ents.map cj).length:Int)<=en:=d;refine cP en.toNat (kc Uo) ?_;refine af (λl=>?_) (λl=>?_)
 ·have:=c λq=>l (tE.1 q.1).2.2
  subst this;exact kA9
 refine af (λo=>?_) (λo=>?_)
 ·have:=c λq=>Uo
  subst this;exact kA9
 have eC:=au bM (aN B en).ctors;refine cP en.toNat (kc Uo) ?_;refine af (λf=>?_) (λf=>?_)
 ·have f:(((aN B en).ctors.map bM).length:Int)<=k:=f
  have:=c λq=>Uo
  subst this;exact kA9
 have f:¬ (((aN B en).ctors.map bM).length:Int)<=k:=f;have hf:bk B B.ents.length en=true:=tE.2 ⟨Uo,Uo,Decidable.not_not.1 l⟩;obtain⟨k,rfl⟩:∃j:Nat,k=(j:Int):=⟨k.toNat,Uo⟩
 have hk:k<(aN B en).ctors.length:=Uo
 rw[KX ⟨hf,Uo,Uo⟩]at a;refine vk ?_;have m:=PE hI hB hf hk fuel (y:=jt');rw[a]at m;rcases b with e|q
 all_goals
  refine aR (λk=>sw 100 5 (sw 101 6 (sw 102 12 k))) (λ_=>0) m ?_;exact aE
theorem PG(cx:Ctx)(x:Tr)(o:Option Tr):(cx.map aA).map bdP++[[ah (row x),ah (mL' o)]]=((cx++[(x,o)]).map aA).map bdP:=by simp[aA,bdP]
def k8(B:ak):Nat ->Ctx ->Tr ->Nat ->RS Bool
 |0,_,_,n=>.error (5,n)
 |g+1,cx,x,n=>aV (fY B cx x n) λz n=>if z.n.op≠4 then .ok (decide (z.n.op=2),n)else k8 B g (cx++[(kidD z 0,none)]) (kidD z 1) n
def fj(B:ak)(cx:Ctx)(x:Tr)(n:Nat):RS Bool:=aV (k8 B 300 cx x n) λb n=>if b=true then .ok (true,n)else aV (fh B (oB B GJ) cx x n) λq n=>.ok (decide (q.1=0),n)
theorem wY(B:ak):∀(g:Nat) (cx:Ctx) (x:Tr) (n:Nat),dQ (k8 B g cx x n)=iZ B g cx x n
 |0,_,_,_=>rfl
 |g+1,cx,x,n=>by simp only[k8,iZ,ki,ie,mf,mg,wY B g]
theorem Hx{B:ak}(cx:Ctx)(x:Tr){n:Nat}(b:n<=100000):dQ (fj B cx x n)=kk B cx x n:=by
 unfold fj kk;simp only[ki,wY,mf,mg,ig (fB' (B:=B) GJ)];refine Pf rfl λq a=>?_;have:=(mC' _ _ _ _ _ a).2;unfold pp nm;rw[Pe Uo]
theorem PH{B:ak}{g:Nat}{cx:Ctx}{x:Tr}{n:Nat}{q:Bool×Nat}(h:k8 B g cx x n= .ok q):q.2<=n:=(mC' _ _ _ _ _ (fN (wY B g cx x n) h)).2
def tF(r:RS Bool):Bool:=match r with
 | .ok q=>q.1
 | .error _=>true
section
variable{B:ak}(hS:dy B)(hR:dh B=0)(hB:GoodB B)
include hS hR hB
theorem wd':∀(g:Nat) {cx:Ctx} (j:262<=g+cx.length) (hcx:CxOk B cx) (hcl:cx.length<=260) {x:Tr} (hx:Ft (QB B) (cx.length:Int) x) {n:Nat} (l:n<=100000),VP prog 90 103 (cH B n 0) (dp B (k8 B g cx x n)) [aH (cx.map aA),ah (row x)] (By (k8 B g cx x n))
 |0,cx,j,_,hcl,_,_,_,_=>Uo
 |g+1,cx,j,hcx,hcl,x,hx,n,l=>by
  have hW:=qK hS hB hcx hcl hx l;have hf:=ie (B:=B) (cx:=cx) x n;generalize a:k8 B (g+1) cx x n=c;simp only[k8]at a;refine aQ (r:=.ok (_,_)) 40 [.tmp 6] τok func90 ?_;refine aj ?_;cases i:fY B cx x n with
  |error e=>
   have s:=j9 (eo hf i);rw[i]at hW a;obtain rfl:.error e=c:=a;refine ax hW ?_;exact vE s<|eP9
  |ok q=>
   obtain⟨z,m⟩:=q;obtain⟨o,u,d⟩:=iU hB hcx hx (fN hf i);simp only at u d;have f:=aC d;rw[i]at hW a;have a:(if z.n.op≠4 then .ok (decide (z.n.op=2),m)else k8 B g (cx++[(kidD z 0,none)]) (kidD z 1) m)=c:=a;refine ax hW ?_;refine v0<|aI 0 (aM f) ?_;refine af (λb=>?_) (λb=>?_)
   ·have b:z.n.op≠4:=b
    rw[KX b]at a;subst a;refine aI 0 (aM f) ?_;refine af (λh=>?_) (λh=>?_)
    ·have h:z.n.op=2:=h
     exact⟨_,_,_,rfl,rfl,bV (KU h).symm,rfl,rfl⟩
    ·have h:¬ z.n.op=2:=h
     exact⟨_,_,_,rfl,rfl,bV (KH h).symm,rfl,rfl⟩
   have b:¬ z.n.op≠4:=b;rw[KY b]at a;obtain⟨A,v,y⟩:=dG d (.inl (Decidable.not_not.1 b));have p:=wd' g (cx:=cx++[(kidD z 0,none)]) Uk (hcx.snoc v Ud) Uk (by rw[bI];exact y.mono Uo) (show m<=100000 by omega);rw[a]at p;refine ae (iX f) ?_;refine az 0 (aG f) ?_;refine ae (kY (cx:=cx) (kidD z 0) none Uo) ?_;refine az 1 (aG f) ?_;rcases c with e|q
   all_goals
    refine ax p ?_;exact kP9
theorem PI{cx:Ctx}(hcx:CxOk B cx)(hcl:cx.length<=260){x:Tr}(hx:Ft (QB B) (cx.length:Int) x){n:Nat}(o:n<=100000):VP prog 52 103 (cH B n 0) (dp B (fj B cx x n)) [aH (cx.map aA),ah (row x)] (.bool (tF (fj B cx x n))):=by
 have f:=wd' hS hR hB 300 (cx:=cx) Uo hcx hcl hx o;generalize a:fj B cx x n=c;unfold fj at a;refine aQ (r:=.ok (_,_)) 34 [.tmp 6] τok func52 ?_;refine aj<|v0 ?_;cases g:k8 B 300 cx x n with
 |error e=>
  have i:=vX' _ _ _ _ _ (eo (wY B 300 cx x n) g);rw[g]at f a;obtain rfl:.error e=c:=a;refine ax f ?_;refine ax (BA e.2 i _ _) ?_;exact vE i<|eP9
 |ok q=>
  have d:=PH g;obtain⟨b,m⟩:=q;rw[g]at f a;have a:(if b=true then .ok (true,m)else aV (fh B (oB B GJ) cx x m) λq n=>.ok (decide (q.1=0),n))=c:=a;refine ax f ?_;cases b with
  |true=>
   rw[KX rfl]at a;subst a;exact eP9
  |false=>
   rw[KY UO]at a;have j:=po hS hB (fB' (B:=B) GJ) (iA hB GJ) hcx hcl hx (n:=m) (by simp only at d;omega) (Pm hS hR hB hcx hcl hx (by simp only at d;omega));have hf:=ig (B:=B) (fB' (B:=B) GJ) (cx:=cx) x m;cases l:fh B (oB B GJ) cx x m with
   |error e=>
    have i:=iW (iA hB GJ) (eo hf l);rw[l]at j a;obtain rfl:.error e=c:=a;refine ax j ?_;exact vE i<|eP9
   |ok q=>
    rw[l]at j a;obtain rfl:.ok (decide (q.1.1=0),q.2)=c:=a;refine ax j ?_;refine v0<|af (λh=>?_) (λh=>?_)
    ·have h:q.1.1=0:=h
     exact⟨_,_,_,rfl,rfl,bV (KU h).symm,rfl,rfl⟩
    ·have h:¬ q.1.1=0:=h
     exact⟨_,_,_,rfl,rfl,bV (KH h).symm,rfl,rfl⟩
omit hS hR in
theorem PJ{r:RS Unit}(hr:ml r)(cx:Ctx)(x:Tr):ml (aV r λ_ n=>fj B cx x n):=by
 cases r with
 |error e=>exact hr
 |ok q=>
  have b:q.2<=100000:=hr;show ml (fj B cx x q.2);have hf:=Hx (B:=B) cx x b;cases a:fj B cx x q.2 with
  |error e=>exact Hk hB (eo hf a)
  |ok p=>
   have:=wV hB (fN hf a);show p.2<=100000;omega
theorem PK{r:RS Unit}(hr:ml r){cx:Ctx}(hcx:CxOk B cx)(hcl:cx.length<=260){x:Tr}(hx:Ft (QB B) (cx.length:Int) x):VP prog 52 103 (dp B r) (dp B (nu (aV r λ_ n=>fj B cx x n))) [aH (cx.map aA),ah (row x)] (.bool (tF (aV r λ_ n=>fj B cx x n))):=by
 rw[Pj];cases r with
 |error e=>
  refine aQ (r:=.ok (_,_)) 34 [.tmp 6] τok func52 ?_;exact aj<|vE hr<|eP9
 |ok q=>exact PI hS hR hB hcx hcl hx hr
end
def fZ(B:ak):Ctx ->List Tr ->RS Unit ->RS Unit×List Bool
 |_,[],r=>(r,[])
 |cx,a::t,r=>((fZ B (cx++[(a,none)]) t (nu (aV r λ_ n=>fj B cx a n))).1,(!(tF (aV r λ_ n=>fj B cx a n)))::(fZ B (cx++[(a,none)]) t (nu (aV r λ_ n=>fj B cx a n))).2)
theorem Hy{B:ak}:∀(l:List Tr) (cx:Ctx) (e:Int×Nat),(fZ B cx l (.error e)).1= .error e
 |[],_,_=>rfl
 |a::t,cx,e=>Hy t _ e
theorem Hz{B:ak}(hB:GoodB B):∀(l:List Tr) (cx:Ctx) (n:Nat),n<=100000 ->match keptG B cx l n with
  | .ok q=>fZ B cx l (.ok ((),n))=(.ok ((),q.2),q.1)
  | .error e=>∃F,(fZ B cx l (.ok ((),n))).1= .error (e,F)
 |[],cx,n,_=>rfl
 |a::t,cx,n,f=>by
  have hf:=Hx (B:=B) cx a f;simp only[keptG,fZ];show match aJ (kk B cx a n) _ with
   | .ok q=>((fZ B (cx++[(a,none)]) t (nu (fj B cx a n))).1,(!(tF (fj B cx a n)))::(fZ B (cx++[(a,none)]) t (nu (fj B cx a n))).2)=(.ok ((),q.2),q.1)
   | .error e=>∃F,(fZ B (cx++[(a,none)]) t (nu (fj B cx a n))).1= .error (e,F)
  cases c:fj B cx a n with
  |error e=>
   rw[eo hf c];exact⟨e.2,Hy t _ e⟩
  |ok q=>
   have d:=fN hf c;have g:=wV hB d;rw[d];have b:=Hz hB t (cx++[(a,none)]) q.2 Uo;show match aJ (keptG B (cx++[(a,none)]) t q.2) (λl n=>.ok ((!q.1)::l,n))with
    | .ok p=>((fZ B (cx++[(a,none)]) t (.ok ((),q.2))).1,(!q.1)::(fZ B (cx++[(a,none)]) t (.ok ((),q.2))).2)=(.ok ((),p.2),p.1)
    | .error e=>∃F,(fZ B (cx++[(a,none)]) t (.ok ((),q.2))).1= .error (e,F)
   cases hk:keptG B (cx++[(a,none)]) t q.2 with
   |error e=>
    rw[hk]at b;exact b
   |ok p=>
    rw[hk]at b;have b:fZ B (cx++[(a,none)]) t (.ok ((),q.2))=(.ok ((),p.2),p.1):=b;rw[b]
    rfl
section
variable{B:ak}(hS:dy B)(hR:dh B=0)(hB:GoodB B)
include hS hR hB
theorem PL{en:Int}(hf:bk B B.ents.length en=true){k:Nat}(hk:k<(aN B en).ctors.length){n:Nat}(P:n<=100000):VP prog 32 103 (cH B n 0) (dp B (fZ B (bF (eQ B en)) (dU B en k) (.ok ((),n))).1) [pI en,pI k] (k7 (fZ B (bF (eQ B en)) (dU B en k) (.ok ((),n))).2):=by
 obtain⟨S,x,s,u,qi,T,_,I,E,z⟩:=hB.fam hf (KJ _);obtain⟨N,O,U⟩:=z.ps_eq I;rw[<- T]at N O U;rw[E]at hk;obtain⟨c,K,_⟩:=ay (l:=x.ctors) (k:=k) hk;obtain⟨v,go,D⟩:=z.ct k c K;have V:=z.lp;have W:=D.la;have F:∀(i:Nat) y,v[i]?=some y ->Ft (QB B) ((u.length+i:Nat):Int) y:=λi y f=>D.up_a I z.kind f;have L:dU B en k=v:=by
  unfold dU dx;rw[E,QK,show ((k:Int)).toNat=k from rfl,K];exact Hq D.args λy f=>by
   obtain⟨j,X⟩:=JH f;exact(D.fa j y X).ok
 rw[N,L];generalize m:fZ B (bF u) v (.ok ((),n))=o;have Y:=KG List.length D.args;have lp:=KG List.length z.params;rw[KF]at Y lp;have eA:=au rP c.args;have eP:=au rP x.params;refine aQ (r:=.ok (_,_)) 70 [.tmp 6] τok func32 ?_;refine aD<|aD<|cP S I ?_;refine aD<|dm 8 1000 87 2 rfl rfl<|aD<|aB τok (σ:=Nat) [(0,_),(1,_),(2,_),(7,_)] [(0,_),(7,_)] (λi=>[(8,.c (.row 1000)),(9,vI i)]) (λi=>[(1000,.rw 87 2 (((bF (u.take i)).map aA).map bdP))]) (λi=>i<=u.length) (λi=>u.length-i) 0 (KV _) ?_;intro i Z;refine aj<|af (λg=>?_) (λg=>?_)
 ·have g:(i:Int)<((x.params.map rP).length:Int):=g
  obtain⟨y,f,_⟩:=ay (l:=u) (k:=i);refine az i (x:=row y) (by rw[z.params,JX,f];rfl) ?_;refine be ?_ (hb:=by simp[bF];omega);refine vi ?_;exact aw (i+1) (by show i+1<=_;omega) (sw 1000 36) (y':=⟨KG (λl=>some (SE.rw _ _ l)) (by rw[du f,s6];exact PG _ y none),trivial⟩)
 have g:¬ (i:Int)<((x.params.map rP).length:Int):=g;rw[JG Uo];refine mI 8 1000 ?_;refine aD<|dm 10 1001 4 1 rfl rfl<|aj<|aB τok (σ:=Nat×Ctx×RS Unit×List Bool) [(0,_),(1,_),(2,_),(7,_)] [(7,_)] (λq=>[(8,.c (.p (aH (q.2.1.map aA)))),(10,.c (.row 1001)),(11,vI q.1)]) (λq=>stM B q.2.2.1++[(1001,.rw 4 1 (q.2.2.2.map bP))])
  (λq=>q.1<=v.length/\CxOk B q.2.1/\q.2.1.length=u.length+q.1/\ml q.2.2.1/\q.2.2.2.length=q.1/\(fZ B q.2.1 (v.drop q.1) q.2.2.1).1=o.1/\q.2.2.2++(fZ B q.2.1 (v.drop q.1) q.2.2.1).2=o.2) (λq=>v.length-q.1) (0,bF u,.ok ((),n),[]) ⟨KV _,s8 λk y f=>z.up_p hB I f,by simp[bF],P,rfl,by rw[<- m];rfl,by rw[<- m];rfl⟩ ?_
 clear m
 rintro⟨i,cx,r,l⟩ ⟨h1,hcx,hcl,hr,hl,d,a⟩;simp only at h1 hcx hcl hr hl d a;refine aj<|gp k K ?_;refine af (λg=>?_) (λg=>?_)
 ·have g:(i:Int)<((c.args.map rP).length:Int):=g
  obtain⟨y,f,hd⟩:=ay (l:=v) (k:=i);rw[hd]at d a;simp only[fZ]at d a;have A:=F i y f;rw[<- hcl]at A;refine gp k K ?_;refine az i (x:=row y) (by rw[D.args,JX,f];rfl) ?_;have ha:=PK hS hR hB hr hcx Uo A;have M:=Pk (PJ hB hr cx y)
  generalize tF (aV r λ_ n=>fj B cx y n)=b at *
  generalize nu (aV r λ_ n=>fj B cx y n)=r2 at *
  rcases r with e0|q0<;>rcases r2 with O|q2<;>cases b
  all_goals
   refine Ph ha ?_;refine be ?_ (hb:=Uk);refine ae (kY (cx:=cx) y none Uo) ?_;refine vi ?_;exact aw (i+1,cx++[(y,none)],_,l++[_]) ⟨Us,hcx.snoc A Ud,Uk,M,Uk,d,by
    rw[<- a,List.append_assoc]
    rfl⟩ (sw 1001 64) (y':=⟨BK B _,KG (λl=>some (SE.rw _ _ l)) (by rw[KB];rfl),trivial⟩)
 ·have g:¬ (i:Int)<((c.args.map rP).length:Int):=g
  rw[JY Uo]at d a;have d:r=o.1:=d;have a:l++[]=o.2:=a;rw[JD]at a;rw[<- d,<- a];rcases r with e|q
  all_goals
   exact eP9
end
theorem PM{B:ak}(hS:dy B)(en k fuel:Int):VC prog 11 [bw B,pI en,pI k,pI fuel] (Hw (nv B en k fuel)):=by
 have A:=au cj B.ents;have o:VC prog 31 [bw B,pI en,pI ((B.ents.map cj).length:Nat)] (.bool (bk B B.ents.length en)):=by
  rw[A];exact qx (B:=B) (known:=B.ents.length) (KJ _) en
 generalize a:nv B en k fuel=b;unfold nv at a;refine vf 59 [.tmp 8,.tmp 9,.tmp 10] τok func11 ?_;refine ae (wa hS) ?_;refine af (λi=>?_) (λi=>?_)
 ·rw[KX i]at a
  subst a;exact aE
 rw[KY i]at a;have hR:=Decidable.not_not.1 i;have hB:=vO hR;have s:¬ (bk B B.ents.length en=true/\0<=k/\k<(aN B en).ctors.length) -> .error 1=b:=λh=>by rw[KY h]at a;exact a
 refine ae o ?_;cases m:bk B B.ents.length en with
 |false=>
  have:=s λq=>by rw[m]at q;cases q.1
  subst this;exact aE
 |true=>
 have I:=tE.1 m;refine af (λu=>?_) (λu=>?_)
 ·have:=s λq=>Uo
  subst this;exact aE
 have u:¬ k<0:=u;have eC:=au bM (aN B en).ctors;refine cP en.toNat (kc Uo) ?_;refine af (λd=>?_) (λd=>?_)
 ·have d:(((aN B en).ctors.map bM).length:Int)<=k:=d
  have:=s λq=>Uo
  subst this;exact aE
 have d:¬ (((aN B en).ctors.map bM).length:Int)<=k:=d;obtain⟨k,rfl⟩:∃j:Nat,k=(j:Int):=⟨k.toNat,Uo⟩
 have hk:k<(aN B en).ctors.length:=Uo
 rw[KX ⟨m,Uo,Uo⟩]at a;refine IP (BF fuel) ?_;have y:=PL hS hR hB m hk (wC fuel);have c:=Hz hB (dU B en k) (bF (eQ B en)) (bp fuel) (wC fuel);have f:∀e,keptG B (bF (eQ B en)) (dU B en k) (bp fuel)= .error e ->e≠0:=λe h=>Hn hB _ _ _ h;have a:keptG B (bF (eQ B en)) (dU B en k) (bp fuel)=b:=a;rw[a]at c f
 generalize fZ B (bF (eQ B en)) (dU B en k) (.ok ((),bp fuel))=q at *
 obtain⟨r,l⟩:=q;cases b with
 |error e=>
  obtain⟨F,v⟩:=c;have v:r= .error (e,F):=v;subst v;have z:=f e rfl;refine ax y ?_;have g:=leftV (B:=B) F e;rw[KY z]at g;refine ax g ?_;exact vE z<|aE
 |ok p=>
  injection c with D E
  subst D E;refine ax y ?_;have g:=leftV (B:=B) p.2 0;rw[KX rfl]at g;refine ax g ?_;exact v0<|aE
theorem HA{l:List Bool}(hl:l.length<=1000000):VC prog 12 [k7 l,k7 l] (.bool true):=by
 have c:=au bP l;refine vf 26 [.tmp 4] τok func12 ?_;refine vn (p:=((l.map bP).length:Int)≠((l.map bP).length:Int)) ?_ (λh=>h rfl);refine vl τok (σ:=Nat) [(0,_),(1,_)] (λi=>[(5,vI i)]) (λi=>i<=l.length) (λi=>l.length-i) 0 (KV _) ?_;intro i d;refine af (λg=>?_) (λg=>?_)
 ·have g:(i:Int)<((l.map bP).length:Int):=g
  obtain⟨b,a,_⟩:=ay (l:=l) (k:=i);refine vm (p:=bP) i a ?_;refine vm (p:=bP) i a ?_;cases b
  all_goals
   refine vk ?_;refine vi ?_;exact aw (i+1) (by show i+1<=_;omega)
 ·exact aE
theorem PN{a b:List Nd}(ha:a.length<=1000000000)(hb:b.length<=1000000000):VC prog 9 [ah a,ah b] (.bool (decide (a=b))):=by
 have o:=au ndP a;have r:=au ndP b;have j:a≠b ->PV.bool false= .bool (decide (a=b)):=λh=>by rw[KH h]
 refine vf 26 [.tmp 4] τok func9 ?_;refine af (λg=>?_) (λg=>?_)
 ·exact⟨_,_,rfl,rfl,j λh=>by subst h;omega⟩
 refine vl τok (σ:=Nat) [(0,_),(1,_)] (λi=>[(5,vI i)]) (λi=>i<=a.length/\a.take i=b.take i) (λi=>a.length-i) 0 ⟨KV _,Ud⟩ ?_;rintro i ⟨s,d⟩;refine af (λg=>?_) (λg=>?_)
 ·obtain⟨p,f,u⟩:=ay (l:=a) (k:=i)
  obtain⟨q,c,m⟩:=ay (l:=b) (k:=i);refine vm i f ?_;refine vm i c ?_;refine sI ?_
  by_cases h:p=q
  ·rw[KU h]
   refine vk ?_;refine vi ?_;exact aw (i+1) ⟨Uo,by rw[QQ,QQ,d,f,c,h]⟩
  ·rw[KH h]
   exact vk ⟨_,_,rfl,rfl,j λe=>h (by subst e;rw[f]at c;exact JB c)⟩
 ·exact aE (h3:=by
   rw[JG Uo,JG Uo]at d;rw[KU d]
   rfl)
abbrev RcR:=Ctx ->Tr ->RS Unit ->RS Unit×List Nd
def qV(rc:RcR)(cx:Ctx):List Tr ->RS Unit ->RS Unit×List Nd
 |[],r=>(r,[])
 |y::l,r=>((qV rc cx l (rc cx y r).1).1,(rc cx y r).2++(qV rc cx l (rc cx y r).1).2)
def PO(B:ak)(rc:RcR)(cx:Ctx)(x:Tr)(r:RS Unit):RS Unit×List Nd:=
 if x.n.op=1 then (r,[⟨21,x.n.a,0⟩])
 else if x.n.op=8 then (r,[⟨26,x.n.a,0⟩])
 else if x.n.op=10 then (r,[⟨27,x.n.a,x.n.b⟩])
 else if x.n.op=5 then ((rc (cx++[(kidD x 0,none)]) (kidD x 1) r).1,⟨23,0,0⟩::(rc (cx++[(kidD x 0,none)]) (kidD x 1) r).2)
 else if x.n.op=6 then ((rc cx (kidD x 1) (rc cx (kidD x 0) r).1).1,⟨24,0,0⟩::((rc cx (kidD x 0) r).2++(rc cx (kidD x 1) (rc cx (kidD x 0) r).1).2))
 else if x.n.op=7 then ((rc (cx++[(kidD x 0,some (kidD x 1))]) (kidD x 2) (rc cx (kidD x 1) r).1).1,⟨25,0,0⟩::((rc cx (kidD x 1) r).2++(rc (cx++[(kidD x 0,some (kidD x 1))]) (kidD x 2) (rc cx (kidD x 1) r).1).2))
 else if x.n.op=11 then
  if (tr (aN B x.n.a).sort).n.a=0 then
   if x.n.b=0 then (r,oC')else ((rc cx (kidD x 2) r).1,dd' (dx B x.n.a 0).args.length (rc cx (kidD x 2) r).2)
  else ((qV rc cx ((kidsT x).drop 1) r).1,⟨28,x.n.a,x.n.b⟩::(qV rc cx ((kidsT x).drop 1) r).2)
 else if x.n.op=12 then ((qV rc (cx++aY x) (bodiesT x) r).1,⟨29,x.n.a,x.n.b⟩::(qV rc (cx++aY x) (bodiesT x) r).2)
 else (r,oC')
def PP(B:ak)(rc:RcR):RcR:=λcx x r=>match r with
 | .error e=>(.error e,oC')
 | .ok q=>match aV (oB B GJ cx x q.2) λt n=>fj B cx t n with
  | .error e=>(.error e,oC')
  | .ok p=>if p.1=true then (.ok ((),p.2),oC')else PO B rc cx x (.ok ((),p.2))
def PQ(B:ak):Nat ->RcR
 |0=>λ_ _ r=>match r with
  | .error e=>(.error e,oC')
  | .ok q=>(.error (5,q.2),oC')
 |g+1=>PP B (PQ B g)
def Tel(j:Except Int (List Nd×Nat))(r:RS Unit×List Nd):Prop:=match j with
 | .ok q=>r=(.ok ((),q.2),q.1)
 | .error e=>∃F,r.1= .error (e,F)
structure ErW(B:ak)(rc:RcR)(R:Nat):Prop where
 go:∀(cx:Ctx) (y:Tr) (r:RS Unit),ml r ->CxOk B cx ->cx.length<=260 ->Ft (QB B) (cx.length:Int) y ->(row y).length<R ->VP prog 25 103 (dp B r) (dp B (rc cx y r).1) [aH (cx.map aA),ah (row y)] (ah (rc cx y r).2)
 ok:∀(M:Int) (cx:Ctx) (y:Tr) (r:RS Unit),ml r ->Ft (QB B) M y ->ml (rc cx y r).1/\(rc cx y r).2.length<=34*(row y).length
theorem PR(n:Nat)(a:0<n)(b:n<=1000000):VO prog 143 [.raw (.slice none 0 0),pI n] 46 3 []:=zT (R:=rNd) ⟨_,func143,rfl,UO⟩ λw=>by
 refine oF func143 ?_;refine cO (args:=[_,_]) 27 [.tmp 4] τok func143 ?_;refine mN rfl<|i6 ?_;refine i6 ?_;refine dj (λg=>?_) (λg=>?_);rotate_left
 ·exact absurd Uo g
 refine mN rfl<|nA τok rfl 0 (.slice none 0 0) rfl (KJ _) rfl ?_;have e:((n:Int)-((0:Nat)-(0:Nat):Int))=(n:Int):=Uo
 rw[e];refine uI (R:=rNd) rfl rfl UO rfl UO n a b λB G d hB f c hk=>?_;exact nA τok rfl 0 _ rfl (KV _) oG<|⟨_,rfl,c,hk⟩
theorem PS{L:List (List Nd)}(hl:L.length<=1000000)(b:0<L.flatten.length)(h1:L.flatten.length<=1000000):VO prog 80 [.sl (L.map rP)] 46 3 (L.flatten.map ndP):=by
 have m:=au rP L;refine nJ 36 [.tmp 2] τok func80 ?_;refine aj<|aB τok (σ:=Nat) [(0,_),(9,_),(10,_)] [] (λi=>[(11,vI i),(3,vI ((L.take i).flatten.length:Nat))]) (λ_=>[]) (λi=>i<=L.length) (λi=>L.length-i) 0 (KV _) ?_;intro i d;have e:=j4 L i;refine aj<|af (λg=>?_) (λg=>?_)
 ·have g:(i:Int)<((L.map rP).length:Int):=g
  obtain⟨x,hx,_⟩:=ay (l:=L) (k:=i);have j:=qh hx;have a:=j4 L (i+1);have o:=au ndP x;refine az i hx ?_;refine vi ?_;refine vn ?_;refine vi ?_;exact aw (i+1) (show i+1<=_ by omega) (x:=⟨rfl,KG (λz=>some (vI z)) (by show ((L.take i).flatten.length:Int)+(x.map ndP).length=_;omega),trivial⟩)
 have g:¬ (i:Int)<((L.map rP).length:Int):=g;obtain rfl:i=L.length:=Uo
 rw[List.take_length];refine aR (λ_=>100) (λ_=>0) (PR L.flatten.length b h1) ?_;refine aB τok (σ:=Nat) [(25,_),(26,_)] [] (λi=>[(27,vI i),(6,.c (.row 100))]) (λi=>[(100,.rw 46 3 ((L.take i).flatten.map ndP))]) (λi=>i<=L.length) (λi=>L.length-i) 0 (KV _) ?_;intro i d;have e:=j4 L i;refine aj<|af (λg=>?_) (λg=>?_)
 ·have g:(i:Int)<((L.map rP).length:Int):=g
  obtain⟨x,hx,_⟩:=ay (l:=L) (k:=i);have j:=qh hx;have a:=j4 L (i+1);refine az i hx ?_;refine va ?_ (gD x) (hb:=by rw[KF];omega);refine vi ?_;exact aw (i+1) (show i+1<=_ by omega) (f:=λk=>sw 100 33 k) (y':=⟨KG (λl=>some (SE.rw _ _ l)) (by show _++_=((L.take (i+1)).flatten).map ndP;rw[QQ,hx];simp),trivial⟩)
 have g:¬ (i:Int)<((L.map rP).length:Int):=g;obtain rfl:i=L.length:=Uo
 rw[List.take_length];exact⟨100,rfl,rfl⟩
theorem PT{n:Nat}(e:n=0):VC prog 143 [.raw (.slice none 0 0),pI n] (.sl []):=.of ⟨⟨_,func143,rfl,UO⟩,λw C f hS a=>by
 obtain⟨v,z,rfl,c,d⟩:=uX a;cases c;cases d;refine cO (args:=[_,_]) 27 [.tmp 4] τok func143 ?_;refine mN rfl<|i6 ?_;refine i6 ?_;refine dj (λg=>?_) (λg=>?_)
 ·exact absurd g Uo
 exact⟨_,C,rfl,.nil _ _,⟨hS,λ_ _ _ h=>h,λb o v h=>.inl ⟨o,v,h⟩,Kp.refl _ _⟩⟩⟩
theorem GA':VC prog 80 [.sl []] (.sl []):=by
 refine vf 36 [.tmp 2] τok func80 ?_;refine aB τok (σ:=Unit) [(0,_),(9,_),(10,_)] [] (λ_=>[(11,vI 0),(3,vI 0)]) (λ_=>[]) (λ_=>True) (λ_=>0) () trivial ?_;rintro⟨⟩ -
 refine aj<|vn (p:=(0:Int)<0) ?_ UO;refine aR (λk=>k) (λ_=>0) (PT (n:=0) rfl) ?_;refine aB τok (σ:=Unit) [(6,_),(25,_),(26,_)] [] (λ_=>[(27,vI 0)]) (λ_=>[]) (λ_=>True) (λ_=>0) () trivial ?_;rintro⟨⟩ -
 refine aj<|vn (p:=(0:Int)<0) ?_ UO;exact aE
theorem pr{op a b:Int}{L:List (List Nd)}(hl:L.length<=1000)(h1:L.flatten.length<=1000000)(c:L=[] \/0<L.flatten.length):VC prog 45 [pI op,pI a,pI b,.sl (L.map rP)] (ah (⟨op,a,b⟩::L.flatten)):=by
 refine vf 17 [.tmp 8] τok func45 ?_;have d:VC prog 80 [.sl (L.map rP)] (ah L.flatten):=by
  rcases c with rfl|c
  ·exact GA'
  ·exact(PS Uo c h1).vc
 refine ae d ?_;refine va (p:=ndP) ?_ (gD _) (hb:=by show 1+L.flatten.length<=_;omega);exact aE
structure wZ(B:ak)(aq:PV)(rc:RcE)(R:Nat):Prop where
 go:∀(cx:Ctx) (y:Tr) (n:Nat),CxOk B cx ->cx.length<=260 ->Ft (QB B) (cx.length:Int) y ->(row y).length<R ->eH prog 22 93 (cy B n aq) [aH (cx.map aA),ah (row y)] (gw B aq ah (rc cx y n))
 ok:∀(M:Int) cx y n q,Ft (QB B) M y ->rc cx y n= .ok q ->qP q y n/\0<q.1.length
theorem IV':VC prog 45 [pI 22,pI 0,pI 0,.sl []] (ah oC'):=pr (L:=[]) Ud Ud (.inl rfl)
theorem HB{L:List (List Nd)}(h:∀l∈L,0<l.length):L=[] \/0<L.flatten.length:=by
 match L,h with
 |[],_=>exact .inl rfl
 |l::r,h=>
  have:=h l Ud;exact .inr Uk
section
variable{B:ak}(hI:BoI B)(hB:GoodB B){aq:PV}{cx:Ctx}{rc:RcE}{R n:Nat}{x:Tr}
variable(hrc:wZ B aq rc R)(hcx:CxOk B cx)(hcl:cx.length<=260)(hx:Ft (QB B) (cx.length:Int) x)(hR:(row x).length<=R)
include hI hB hrc hcx hcl hx hR
theorem PU(V:x.n.op=11)(hm:((kidsT x).drop 2).length=(aN B x.n.a).ctors.length):eH prog 48 93 (cy B n aq) [aH (cx.map aA),.agg (ndP x.n),bD ((kidsT x).map row)] (gw B aq ah (qM B rc cx x n)):=by
 obtain⟨lk,a6,a5,kf⟩:=om hx V;have wx:=aC hx;have hf:=jD hx.node' (.inr V);obtain⟨i0,y,s,ps,qi,ei,_,hi,W,hF⟩:=hB.fam hf (KJ _);obtain⟨e1,e2,e3⟩:=hF.ps_eq hi;rw[<- ei]at e1 e2 e3;have a0:Ft (QB B) 0 s:=hF.fs.wk λm hm=>nT (Nat.le_of_lt (aL hi)) hm;have eK:=au rP ((kidsT x).map row);have a7:=au row (kidsT x);generalize d:qM B rc cx x n=v;unfold qM at d;rw[e3]at d;refine aQ (r:=gw B aq ah v) 74 [.tmp 8] τok func48 ?_;refine aD<|aD<|cP i0 hi ?_ (hi:=ei);refine vk ?_;refine aD<|aI 0 (x:=s.n) (by rw[hF.sort];exact aM (aC a0)) ?_;refine af (λK=>?_) (λK=>?_)
 ·have K:s.n.a=0:=K
  rw[KX K]at d;refine af (λM=>?_) (λM=>?_)
  ·have M:x.n.b=0:=M
   rw[KX M]at d;subst d;refine ae IV' ?_;exact eP9
  have M:¬ x.n.b=0:=M;rw[KY M]at d;have N:=(cw wx (k:=2)).1;have k2:=kf _ (JQ N);have f:=hrc.go cx (kidD x 2) n hcx hcl k2 (by have:=gn hx.ok N;omega);refine az 2 (x:=row (kidD x 2)) (by rw[JX,N];rfl) ?_;cases O:rc cx (kidD x 2) n with
  |error e=>
   rw[O]at f d;obtain rfl:.error e=v:=d;refine bG f ?_;exact rfl
  |ok q=>
   obtain⟨r,m⟩:=q;obtain⟨P,o⟩:=hrc.ok _ _ _ _ _ k2 O;have S:=P.1;have a1:=k2.len;simp only at S o;rw[O]at f d;obtain rfl:.ok (dd' (dx B x.n.a 0).args.length r,m)=v:=d;refine ax f ?_;have X:y.ctors[0]?=some (dx B x.n.a 0):=by
    rw[W,VK]at hm;unfold dx;rw[W,QK,show ((0:Int)).toNat=0 from rfl,gE]
    rfl
   obtain⟨ga,go,hC⟩:=hF.ct 0 _ X;have la:=KG List.length hC.args;have a8:=hC.la;rw[KF]at la;have eA:=au rP (dx B x.n.a 0).args;refine gp 0 X ?_;obtain⟨I,a2⟩:∃k,(dx B x.n.a 0).args.length=k:=⟨_,rfl⟩
   refine aB τok (σ:=Nat×List Nd) [(44,_)] [(0,_)] (λq=>[(10,.c (.p (ah q.2))),(45,vI q.1)]) (λ_=>[]) (λq=>q.1<=I/\dd' (I-q.1) q.2=dd' I r/\q.2.length<=r.length+2*q.1/\0<q.2.length) (λq=>I-q.1) (0,r) ⟨KV _,rfl,Ud,o⟩ ?_;rintro⟨i,t⟩ ⟨h1,D,T,h4⟩;simp only at h1 D T h4;refine aj<|af (λg=>?_) (λg=>?_)
   ·have g:(i:Int)<(((dx B x.n.a 0).args.map rP).length:Int):=g
    refine ae IV' ?_;refine ae (pr (op:=24) (a:=0) (b:=0) (L:=[t,oC']) Ud (by simp[oC'];omega) (.inr Uk)) ?_;refine vi ?_;exact aw (i+1,⟨24,0,0⟩::[t,oC'].flatten) ⟨Us,by
     rw[<- D,show I-i=(I-(i+1))+1 by omega];simp[dd'],by simp[oC'];omega,Ud⟩
   ·have g:¬ (i:Int)<(((dx B x.n.a 0).args.map rP).length:Int):=g
    rw[show I-i=0 by omega]at D;have D:t=dd' I r:=D;rw[a2,<- D];exact eP9
 ·have K:¬ s.n.a=0:=K
  rw[KY K]at d;refine aD<|dm 11 1000 34 1 rfl rfl<|aj<|bH 1 (((kidsT x).map row).map rP).length ?_ (λz A=>by
   obtain⟨_,_,rfl⟩:=List.mem_map.1 A
   rfl) (h2:=rfl) (h3:=Uo) (h4:=KJ _)
  rw[show ((((kidsT x).map row).map λt:List Nd=>[ah t]).take (((kidsT x).map row).map rP).length).drop 1=(((kidsT x).drop 1).map row).map rP by rw[JG Ud,<- List.map_drop,<- List.map_drop];rfl];obtain⟨u,E⟩:∃l,(kidsT x).drop 1=l:=⟨_,rfl⟩
  rw[E]at d ⊢;have a3:∀z∈u,Ft (QB B) (cx.length:Int) z/\(row z).length<R:=λz A=>by
   rw[<- E]at A;have A:=List.drop_subset _ _ A;obtain⟨j,hj⟩:=JH A;exact⟨kf z A,by have:=gn hx.ok hj;omega⟩
  have a9:u.length<=17:=by rw[<- E,VK];omega
  have Y:34*(rows u).length<=139264:=by
   have h1:=kids_rows x;have D:=hx.len;have:=KG (λl=>(rows l).length) (List.take_append_drop 1 (kidsT x));simp only[bT',JK,E]at this;omega
  have eS:=au rP (u.map row);have a':=au row u;refine aB τok (σ:=Nat×Nat×List (List Nd)) [(0,_),(1,_),(6,_),(54,_),(55,_)] [(6,_)] (λq=>[(11,.c (.row 1000)),(56,vI q.1)]) (λq=>[(0,.st 1 93 ((cy B q.2.1 aq).map .p)),(1000,.rw 34 1 (q.2.2.map rP))])
   (λq=>q.1<=u.length/\q.2.2.length=q.1/\((∀l∈q.2.2,0<l.length)/\q.2.2.flatten.length+34*(rows (u.drop q.1)).length<=139264)/\aJ (aJ (listE rc cx (u.drop q.1) q.2.1) λl n=>.ok (q.2.2++l,n)) (λl n=>.ok (⟨28,x.n.a,x.n.b⟩::l.flatten,n))=v) (λq=>u.length-q.1) (0,n,[]) ⟨KV _,rfl,⟨Ud,by simpa using Y⟩,by
    rw[<- d,List.drop_zero];cases listE rc cx u n<;>rfl⟩ ?_
  clear d
  rintro⟨i,m,F⟩ ⟨h1,D,T,hr⟩;simp only at h1 D T hr;refine aj<|af (λg=>?_) (λg=>?_)
  ·have g:(i:Int)<(((u.map row).map rP).length:Int):=g
   obtain⟨z,A,hd⟩:=ay (l:=u) (k:=i);obtain⟨U,a4⟩:=a3 z (JQ A);rw[hd]at hr;simp only[listE]at hr;have f:=hrc.go cx z m hcx hcl U a4;refine az i (x:=row z) (by rw[JX,A];rfl) ?_;cases O:rc cx z m with
   |error e=>
    rw[O]at f hr;obtain rfl:.error e=v:=hr;refine bG f ?_;exact rfl
   |ok q=>
    obtain⟨r,m2⟩:=q;obtain⟨P,o⟩:=hrc.ok _ _ _ _ _ U O;have S:=P.1;have a1:=U.len;simp only at S o;rw[O]at f hr;refine ax f ?_;refine be ?_ (hb:=Uk);refine vi ?_;exact aw (i+1,m2,F++[r]) ⟨Us,Uk,⟨λl Z=>by
     rcases List.mem_append.1 Z with Z|Z
     ·exact T.1 l Z
     ·obtain rfl:l=r:=by simpa using Z
      exact o,by
     have:=T.2;rw[hd]at this;simp only[rows,JK]at this;show (F++[r]).flatten.length+34*(rows (u.drop (i+1))).length<=139264;rw[List.flatten_append,JK,show [r].flatten=r by simp];omega⟩,by
     rw[<- hr];simp only[aJ];cases listE rc cx (u.drop (i+1)) m2<;>simp⟩ (sw 1000 66) (y':=⟨rfl,KG (λl=>some (SE.rw _ _ l)) (by rw[KB];rfl),trivial⟩)
  ·have g:¬ (i:Int)<(((u.map row).map rP).length:Int):=g
   rw[JY Uo]at hr;have hr:.ok (⟨28,x.n.a,x.n.b⟩::(F++[]).flatten,m)=v:=hr;rw[JD]at hr;subst hr;refine ae (pr (op:=28) (a:=x.n.a) (b:=x.n.b) (L:=F) Uo (by have:=T.2;omega) (HB T.1)) ?_;exact eP9
end
section
variable{B:ak}(hI:BoI B)(hB:GoodB B){aq:PV}{cx:Ctx}{rc:RcE}{R n:Nat}{x:Tr}
variable(hrc:wZ B aq rc R)(hcx:CxOk B cx)(hcl:cx.length<=256)(hx:Ft (QB B) (cx.length:Int) x)(hR:(row x).length<=R)
include hI hB hrc hcx hcl hx hR
theorem PW(s:x.n.op=12):eH prog 49 93 (cy B n aq) [aH (cx.map aA),.agg (ndP x.n),bD ((kidsT x).map row)] (gw B aq ah (qN rc cx x n)):=by
 have wx:=aC hx;have M:=dF hx.ok s;have hk:=fS hx.ok s;obtain⟨T,a1⟩:∃b:Nat,x.n.b=b:=⟨x.n.b.toNat,Uo⟩
 have D:x.n.b.toNat=T:=Uo
 have a2:=o7 x;have a3:=au aA cx;generalize d:qN rc cx x n=u;unfold qN at d;refine aQ (r:=gw B aq ah u) 63 [.tmp 8] τok func49 ?_;refine aD<|aD<|aD<|aB τok (σ:=Nat) [(0,_),(3,_),(6,_),(17,_)] [(0,_),(6,_)] (λi=>[(9,.c (.p (aH ((cx++(aY x).take i).map aA)))),(18,vI i)]) (λ_=>[]) (λi=>i<=T) (λi=>T-i) 0 (KV _) ?_ (x1:=⟨by rw[List.take_zero,JD];rfl,rfl,trivial⟩);intro i hi;refine aj<|af (λg=>?_) (λg=>?_)
 ·have g:(i:Int)<x.n.b:=g
  obtain⟨k0,k1,f0,f1⟩:=gZ hx s (i:=i) Uo;refine vi ?_;refine az (2*i) (aG wx) ?_;refine ae (EU f0.ok (f0.small Uo) f0.len (by_:=(i:Int)) (fr:=0) Uo Uo) ?_;refine ae oE' ?_;refine ae (pq (cx:=cx++(aY x).take i) (o:=none) Uk) ?_;refine vi ?_;exact aw (i+1) Uo (x:=⟨KG (λc:Ctx=>some (vP (aH (c.map aA)))) (by rw[List.append_assoc,GI (f:=x) (i:=i) Uo]),rfl,trivial⟩)
 have g:¬ (i:Int)<x.n.b:=g;obtain rfl:i=T:=Uo
 have O:cx++(aY x).take i=cx++aY x:=by rw[JG Uo]
 rw[O];obtain⟨E,v⟩:∃c,c=cx++aY x:=⟨_,rfl⟩
 have a0:E.length=cx.length+i:=by rw[v,JK];omega
 have K:CxOk B E:=by rw[v];exact od hcx Uo hx s
 rw[<- v]at d ⊢
 clear O v
 have U:(bodiesT x).length=i:=by simp[bodiesT,D]
 have F:∀j,j<i ->(bodiesT x)[j]?=some (kidD x (2*j+1)):=λj hj=>by
  unfold bodiesT;rw[D,JX,List.getElem?_range hj]
  rfl
 have V:(rows (bodiesT x)).length<=(rows (kidsT x)).length:=mF' x.n.b.toNat (kidsT x) Uo;have a4:=kids_rows x;have a5:=hx.len;obtain⟨N,W⟩:∃l,bodiesT x=l:=⟨_,rfl⟩
 rw[W]at d U F V;refine aD<|dm 13 1000 34 1 rfl rfl<|aD<|aB τok (σ:=Nat×Nat×List (List Nd)) [(0,_),(3,_),(6,_),(9,_),(40,_)] [(6,_)] (λq=>[(13,.c (.row 1000)),(41,vI q.1)]) (λq=>[(0,.st 1 93 ((cy B q.2.1 aq).map .p)),(1000,.rw 34 1 (q.2.2.map rP))])
  (λq=>q.1<=i/\q.2.2.length=q.1/\((∀l∈q.2.2,0<l.length)/\q.2.2.flatten.length+34*(rows (N.drop q.1)).length<=139264)/\aJ (aJ (listE rc E (N.drop q.1) q.2.1) λl n=>.ok (q.2.2++l,n)) (λl n=>.ok (⟨29,x.n.a,x.n.b⟩::l.flatten,n))=u) (λq=>i-q.1) (0,n,[]) ⟨KV _,rfl,⟨Ud,Uk⟩,by
   rw[<- d,List.drop_zero];cases listE rc E N n<;>rfl⟩ ?_
 clear d
 rintro⟨j,m,y⟩ ⟨h1,h2,P,hr⟩;simp only at h1 h2 P hr;refine aj<|af (λg=>?_) (λg=>?_)
 ·have g:(j:Int)<x.n.b:=g
  obtain⟨k0,k1,f0,f1⟩:=gZ hx s (i:=j) Uo;obtain⟨z,hz,hd⟩:=ay (l:=N) (k:=j);obtain rfl:kidD x (2*j+1)=z:=by
   have:=F j Uo;rw[hz]at this;exact(JB this).symm
  have S:Ft (QB B) (E.length:Int) (kidD x (2*j+1)):=f1.mono Uo;rw[hd]at hr;simp only[listE]at hr;have A:=hrc.go E (kidD x (2*j+1)) m K Uo S (by have:=gn hx.ok k1;omega);refine vi ?_;refine vi ?_;refine az (2*j+1) (aG wx) ?_;cases X:rc E (kidD x (2*j+1)) m with
  |error e=>
   rw[X]at A hr;obtain rfl:.error e=u:=hr;refine bG A ?_;exact rfl
  |ok q=>
   obtain⟨r,m2⟩:=q;obtain⟨Y,I⟩:=hrc.ok _ _ _ _ _ S X;have Z:=Y.1;simp only at Z I;rw[X]at A hr;refine ax A ?_;refine be ?_ (hb:=Uk);refine vi ?_;exact aw (j+1,m2,y++[r]) ⟨Us,Uk,⟨λl M=>by
    rcases List.mem_append.1 M with M|M
    ·exact P.1 l M
    ·obtain rfl:l=r:=by simpa using M
     exact I,by
    have:=P.2;rw[hd]at this;simp only[rows,JK]at this;show (y++[r]).flatten.length+34*(rows (N.drop (j+1))).length<=139264;rw[List.flatten_append,JK,show [r].flatten=r by simp];omega⟩,by
    rw[<- hr];simp only[aJ];cases listE rc E (N.drop (j+1)) m2<;>simp⟩ (sw 1000 55) (y':=⟨rfl,KG (λl=>some (SE.rw _ _ l)) (by rw[KB];rfl),trivial⟩)
 ·have g:¬ (j:Int)<x.n.b:=g
  rw[JY Uo]at hr;have hr:.ok (⟨29,x.n.a,x.n.b⟩::(y++[]).flatten,m)=u:=hr;rw[JD]at hr;subst hr;refine aD<|ae (pr (op:=29) (a:=x.n.a) (b:=x.n.b) (L:=y) Uo (by have:=P.2;omega) (HB P.1)) ?_;exact aj<|eP9
end
theorem PX{op:Int}{r:List Nd}(h1:r.length<=1000000)(c:0<r.length):VC prog 45 [pI op,pI 0,pI 0,.sl [[ah r]]] (ah (⟨op,0,0⟩::r)):=by
 have h:=pr (op:=op) (a:=0) (b:=0) (L:=[r]) Ud (by simpa using h1) (.inr (by simpa using c));rw[show [r].flatten=r by simp]at h;exact h
theorem HC{op:Int}{r s:List Nd}(h1:(r++s).length<=1000000)(c:0<r.length):VC prog 45 [pI op,pI 0,pI 0,.sl [[ah r],[ah s]]] (ah (⟨op,0,0⟩::(r++s))):=by
 have h:=pr (op:=op) (a:=0) (b:=0) (L:=[r,s]) Ud (by simpa using h1) (.inr Uk);rw[show [r,s].flatten=r++s by simp]at h;exact h
theorem xa(op a b:Int):VC prog 45 [pI op,pI a,pI b,.sl []] (ah [⟨op,a,b⟩]):=pr (L:=[]) Ud Ud (.inl rfl)
section
variable{B:ak}(hI:BoI B)(hB:GoodB B){aq:PV}{cx:Ctx}{rc:RcE}{R n:Nat}{x:Tr}
variable(hrc:wZ B aq rc R)(hcx:CxOk B cx)(hcl:cx.length<=260)(hx:Ft (QB B) (cx.length:Int) x)(hR:(row x).length<=R)
include hI hB hrc hcx hcl hx hR
theorem GC':eH prog 22 93 (cy B n aq) [aH (cx.map aA),ah (row x)] (gw B aq ah (wU B rc cx x n)):=by
 have L:=aC hx;generalize a:wU B rc cx x n=l;unfold wU at a;have ht:=Po hI hB (aq:=aq) hcx hcl hx n;refine aQ (r:=gw B aq ah l) 117 [.tmp 6] τok func22 ?_;refine aj ?_;cases d:jq B cx x (n:Int)with
 |error e=>
  rw[d]at ht a;obtain rfl:.error e=l:=a;refine bG ht ?_;exact rfl
 |ok q=>
 obtain⟨ty,n1⟩:=q;have Z:=(iA hB GJ).ft _ _ _ _ hcx hcl hx d;have M:=d;rw[d]at ht a;refine ax ht ?_;simp only[aJ]at a;have ha:=Hs hI hB (aq:=aq) hcx hcl Z n1;cases d:kk B cx ty n1 with
 |error e=>
  rw[d]at ha a;obtain rfl:.error e=l:=a;refine bG ha ?_;exact rfl
 |ok q=>
 obtain⟨b,S⟩:=q;rw[d]at ha a;refine ax ha ?_;simp only at a;cases b with
 |true=>
  rw[KX rfl]at a;subst a;refine ae IV' ?_;exact eP9
 |false=>
 rw[KY UO]at a;refine ae (iS hx) ?_;refine aI 0 (aM L) ?_;unfold qO at a;have kd:∀i,i<(kidsT x).length ->(row (kidD x i)).length<R:=λi hi=>by
  have:=gn hx.ok (cw L hi).1;omega
 refine af (λU=>?_) (λU=>?_);rotate_left;have U:¬ x.n.op=1:=U;rw[KY U]at a;rotate_left;have U:x.n.op=1:=U;rw[KX U]at a
 ·subst a
  refine ae (xa 21 x.n.a 0) ?_;exact eP9
 refine af (λV=>?_) (λV=>?_);rotate_left;have V:¬ x.n.op=8:=V;rw[KY V]at a;rotate_left;have V:x.n.op=8:=V;rw[KX V]at a
 ·subst a
  refine ae (xa 26 x.n.a 0) ?_;exact eP9
 refine af (λz=>?_) (λz=>?_);rotate_left;have z:¬ x.n.op=10:=z;rw[KY z]at a;rotate_left;have z:x.n.op=10:=z;rw[KX z]at a
 ·subst a
  refine ae (xa 27 x.n.a x.n.b) ?_;exact eP9
 refine af (λN=>?_) (λN=>?_);rotate_left;have N:¬ x.n.op=5:=N;rw[KY N]at a;rotate_left;have N:x.n.op=5:=N;rw[KX N]at a
 ·obtain⟨k1,W,A⟩:=dG hx (.inr N)
  have a1:=BJ hB hx.ok M (.inl N);have X:CxOk B (cx++[(kidD x 0,none)]):=hcx.snoc W λx hx=>by cases hx
  have A:Ft (QB B) ((cx++[(kidD x 0,none)]).length:Int) (kidD x 1):=by rw[bI];exact A.mono Uo
  have D:=hrc.go _ (kidD x 1) S X (by rw[bI];omega) A (kd 1 Uo);refine az 0 (aG L) ?_;refine ae (pq (cx:=cx) Uo (t:=kidD x 0) (o:=none)) ?_;refine az 1 (aG L) ?_;cases d:rc (cx++[(kidD x 0,none)]) (kidD x 1) S with
  |error e=>
   rw[d]at D a;obtain rfl:.error e=l:=a;refine bG D ?_;refine gj ?_;refine vk ?_;exact rfl
  |ok q=>
  obtain⟨F,E⟩:=q;obtain⟨f,c⟩:=hrc.ok _ _ _ _ _ A d;have g:=f.1;have I:=A.len;simp only at g c;rw[d]at D a;refine ax D ?_;simp only[aJ]at a;subst a;refine ae (PX (op:=23) (r:=F) Uo c) ?_;exact kP9
 refine af (λT=>?_) (λT=>?_);rotate_left;have T:¬ x.n.op=6:=T;rw[KY T]at a;rotate_left;have T:x.n.op=6:=T;rw[KX T]at a
 ·obtain⟨k1,W,A⟩:=o5 hx T
  have D:=hrc.go _ (kidD x 0) S hcx hcl W (kd 0 Uo);refine az 0 (aG L) ?_;cases d:rc cx (kidD x 0) S with
  |error e=>
   rw[d]at D a;obtain rfl:.error e=l:=a;refine bG D ?_;exact rfl
  |ok q=>
  obtain⟨F,E⟩:=q;obtain⟨f,c⟩:=hrc.ok _ _ _ _ _ W d;have g:=f.1;have I:=W.len;simp only at g c;rw[d]at D a;refine ax D ?_;simp only[aJ]at a;have m:=hrc.go _ (kidD x 1) E hcx hcl A (kd 1 Uo);refine az 1 (aG L) ?_;cases d:rc cx (kidD x 1) E with
  |error e=>
   rw[d]at m a;obtain rfl:.error e=l:=a;refine bG m ?_;exact rfl
  |ok q=>
  obtain⟨K,a0⟩:=q;obtain⟨p,j⟩:=hrc.ok _ _ _ _ _ A d;have u:=p.1;have O:=A.len;simp only at u j;rw[d]at m a;refine ax m ?_;simp only[aJ]at a;subst a;refine ae (HC (op:=24) (r:=F) (s:=K) Uk c) ?_;exact eP9
 refine af (λP=>?_) (λP=>?_);rotate_left;have P:¬ x.n.op=7:=P;rw[KY P]at a;rotate_left;have P:x.n.op=7:=P;rw[KX P]at a
 ·obtain⟨k1,W,A,k4⟩:=mU hx P
  have a1:=BJ hB hx.ok M (.inr (.inl P));have D:=hrc.go _ (kidD x 1) S hcx hcl A (kd 1 Uo);refine az 1 (aG L) ?_;cases d:rc cx (kidD x 1) S with
  |error e=>
   rw[d]at D a;obtain rfl:.error e=l:=a;refine bG D ?_;exact rfl
  |ok q=>
  obtain⟨F,E⟩:=q;obtain⟨f,c⟩:=hrc.ok _ _ _ _ _ A d;have g:=f.1;have I:=A.len;simp only at g c;rw[d]at D a;refine ax D ?_;simp only[aJ]at a;have X:CxOk B (cx++[(kidD x 0,some (kidD x 1))]):=hcx.snoc W λx hx=>by
   injection hx with hx
   exact hx▸A
  have k4:Ft (QB B) ((cx++[(kidD x 0,some (kidD x 1))]).length:Int) (kidD x 2):=by rw[bI];exact k4.mono Uo
  have m:=hrc.go _ (kidD x 2) E X (by rw[bI];omega) k4 (kd 2 Uo);refine az 0 (aG L) ?_;refine az 1 (aG L) ?_;refine ae (pq (cx:=cx) Uo (t:=kidD x 0) (o:=some (kidD x 1))) ?_;refine az 2 (aG L) ?_;cases d:rc (cx++[(kidD x 0,some (kidD x 1))]) (kidD x 2) E with
  |error e=>
   rw[d]at m a;obtain rfl:.error e=l:=a;refine bG m ?_;refine gj ?_;refine vk ?_;exact rfl
  |ok q=>
  obtain⟨K,a0⟩:=q;obtain⟨p,j⟩:=hrc.ok _ _ _ _ _ k4 d;have u:=p.1;have O:=k4.len;simp only at u j;rw[d]at m a;refine ax m ?_;simp only[aJ]at a;subst a;refine ae (HC (op:=25) (r:=F) (s:=K) Uk c) ?_;exact kP9
 refine af (λv=>?_) (λv=>?_);rotate_left;have v:¬ x.n.op=11:=v;rw[KY v]at a;rotate_left;have v:x.n.op=11:=v;rw[KX v]at a
 ·have Y:=PU hI hB hrc hcx hcl hx hR v (Pa M v) (n:=S)
  rw[a]at Y;cases l with
  |error e=>
   refine bG Y ?_;exact rfl
  |ok q=>
   refine ax Y ?_;exact eP9
 refine af (λy=>?_) (λy=>?_);rotate_left;have y:¬ x.n.op=12:=y;rw[KY y]at a;rotate_left;have y:x.n.op=12:=y;rw[KX y]at a
 ·have Y:=PW hI hB hrc hcx (BJ hB hx.ok M (.inr (.inr y))) hx hR y (n:=S)
  rw[a]at Y;cases l with
  |error e=>
   refine bG Y ?_;exact rfl
  |ok q=>
   refine ax Y ?_;exact eP9
 ·subst a
  refine ae (xa 22 0 0) ?_;exact eP9
end
theorem PY{B:ak}{rc:RcE}{N:Int}{cx:Ctx}{x:Tr}{n:Nat}{q:List Nd×Nat}(hx:Ft (QB B) N x)(hr:∀(M:Int) cx y n q,Ft (QB B) M y ->rc cx y n= .ok q ->0<q.1.length)(h:qO B rc cx x n= .ok q):0<q.1.length:=by
 unfold qO at h;have a:∀m:Nd,Except.ok ([m],n)=(Except.ok q:Except Int (List Nd×Nat)) ->0<q.1.length:=λm h=>by
  injection h with h
  subst h;exact Nat.one_pos
 split at h
 ·exact a _ h
 split at h
 ·exact a _ h
 split at h
 ·exact a _ h
 split at h
 ·obtain⟨p,b,h⟩:=aO h
  injection h with h
  subst h;simp
 split at h
 ·obtain⟨p,b,h⟩:=aO h
  obtain⟨r,c,h⟩:=aO h;injection h with h
  subst h;simp
 split at h
 ·obtain⟨p,b,h⟩:=aO h
  obtain⟨r,c,h⟩:=aO h;injection h with h
  subst h;simp
 split at h
 ·rename_i g
  obtain⟨f,i,j,e⟩:=om hx g;unfold qM at h;split at h
  ·split at h
   ·exact a _ h
   ·obtain⟨p,b,h⟩:=aO h
    injection h with h
    subst h;have d:(kidsT x)[2]?=some (kidD x 2):=by
     rw[tA,QK,gE]
     rfl
    have:=hr _ _ _ _ _ (e _ (JQ d)) b;simp only[kq'];omega
  ·obtain⟨p,b,h⟩:=aO h
   injection h with h
   subst h;simp
 split at h
 ·unfold qN at h
  obtain⟨p,b,h⟩:=aO h;injection h with h
  subst h;simp
 ·exact a _ h
theorem HD{B:ak}:∀(g:Nat) (N:Int) cx x n q,Ft (QB B) N x ->mj B g cx x n= .ok q ->0<q.1.length
 |0,N,cx,x,n,q,hx,h=>by cases h
 |g+1,N,cx,x,n,q,hx,h=>by
  simp only[mj]at h;obtain⟨t,ht,h⟩:=aO h;obtain⟨b,a,h⟩:=aO h;split at h
  ·injection h with h
   subst h;exact Nat.one_pos
  ·exact PY hx (HD g) h
theorem HE{B:ak}(hI:BoI B)(hB:GoodB B)(aq:PV):∀g,wZ B aq (mj B g) g
 |0=>⟨λcx y n _ _ _ h=>absurd h (Nat.not_lt_zero _),λM cx y n q _ h=>by cases h⟩
 |g+1=>⟨λcx y n hcx hcl a h=>GC' hI hB (HE hI hB aq g) hcx hcl a (Nat.le_of_lt_succ h),λM cx y n q a h=>⟨Hp hB (g+1) M cx y n q a h,HD (g+1) M cx y n q a h⟩⟩
@[irreducible] def GE:Nat:=4097
theorem IX':4097<=GE:=by unfold GE;decide
def BP(B:ak)(cx:Ctx)(x:Tr)(fuel:Int):Except Int (List Nd×Nat):=mj B GE cx x (bp fuel)
def tG(B:ak)(c:CxR)(t:List Nd)(fuel:Int):Except Int (List Nd×Nat):=if fU B c t≠0 then .error (fU B c t)else BP B (fV c) (tr t) fuel
def qW(g:Nat)(cx:Ctx)(t:Tr)(y:PV):List (Nat×SE):=[(100,.st g 27 [.p (aH (cx.map aA))]),(101,.st (g+1) 29 [.p (ah (row t))]),(102,.st (g+2) 34 [.p y])]
def PZ(r:Except Int (List Nd×Nat)):PV:=match r with
 | .ok q=>.tup [ah q.1,pI q.2,pI 0]
 | .error e=>.tup [.sl [],pI 0,pI e]
section
variable{B:ak}{cx:Ctx}(hI:BoI B)(hB:GoodB B)(hcx:CxOk B cx)(hcl:cx.length<=260){t:Tr}(ht:Ft (QB B) (cx.length:Int) t)
include hI hB hcx hcl ht
theorem P0(n:Nat){y:PV}:match mj B GE cx t n with
  | .ok q=>VG prog 21 [.c (.ptr 0 0),.c (.ptr 100 0),.c (.ptr 101 0),.c (.ptr 102 0)] ((0,.st 1 93 ((cy B n jt').map .p))::qW 2 cx t y) (.ok (.c (.p (.tup [])),(0,.st 1 93 ((cy B q.2 jt').map .p))::qW 2 cx t (ah q.1)))
  | .error e=>VG prog 21 [.c (.ptr 0 0),.c (.ptr 100 0),.c (.ptr 101 0),.c (.ptr 102 0)] ((0,.st 1 93 ((cy B n jt').map .p))::(qW 2 cx t y).take 2) (.error (qQ e)):=by
 have b:=IX';have d:=ht.len;have a:=(HE hI hB jt' GE).go cx t n hcx hcl ht Uo;cases hr:mj B GE cx t n with
 |error e=>
  rw[hr]at a;refine cz 9 [] τok func21 ?_;refine aj<|bG a ?_;exact rfl
 |ok q=>
  rw[hr]at a;refine cz 9 [] τok func21 ?_;refine aj<|ax a ?_;exact db
theorem P1(fuel:Int){y:PV}:VG prog 20 [.c (.p (bw B)),.c (.p (pI fuel)),.c (.fn 21 [100,101,102])] (qW 1 cx t y) (.ok (match BP B cx t fuel with
  | .ok q=>(.c (.p (.tup [pI q.2,pI 0])),qW 1 cx t (ah q.1))
  | .error e=>(.c (.p (.tup [pI 0,pI e])),[(102,.st 3 34 [.p y])]))):=by
 have b:min (max fuel 0) 100000=((bp fuel:Nat):Int):=by unfold bp;omega
 have a:=P0 hI hB hcx hcl ht (bp fuel) (y:=y);unfold BP
 generalize mj B GE cx t (bp fuel)=r at a ⊢
 rcases r with e|q
 all_goals
  refine nZ 23 [.cell 6 3,.cell 7 35] τok func20 ?_;refine aj<|⟨⟨rfl,rfl,rfl⟩,rfl,λd=>?_⟩;refine aj ?_
  first
   |refine lw (λk=>sw 0 15 k) a ?_ (he:=by rw[b];repeat first|exact VQ|refine And.intro rfl ?_)
    refine iu (λk=>k+6) (λ_=>0) (Hv e) ?_;exact db
   |refine aR (λk=>sw 0 15 k) (λk=>k-99) a ?_ (he:=by rw[b];repeat first|exact VQ|refine And.intro rfl ?_)
    refine iu (λk=>k+6) (λ_=>0) rH' ?_;exact db
end
theorem HF{B:ak}(hI:BoI B)(hB:dy B){c:CxR}(hc:c.length<=1000000)(j:∀q∈c,q.1.length<=1000000000/\q.2.length<=1000000000){t:List Nd}(ht:t.length<=1000000000)(fuel:Int):VC prog 7 [bw B,aH c,ah t,pI fuel] (PZ (tG B c t fuel)):=by
 generalize a:tG B c t fuel=b;unfold tG at a;refine vf 32 [.tmp 8,.tmp 9,.tmp 10] τok func7 ?_;refine ae (PC hB hc j ht) ?_;refine af (λg=>?_) (λg=>?_)
 ·rw[KX g]at a
  subst a;exact aE
 rw[KY g]at a;obtain⟨l,m,o,d,hcx,f,i⟩:=qs (Decidable.not_not.1 g);have h:=P1 hI l hcx (by rw[tw];omega) (by rw[tw];exact i) fuel (y:=jt');rw[a]at h;unfold qW at h;rw[<- d,<- f]at h;rcases b with e|q
 all_goals
  refine aR (λk=>sw 100 5 (sw 101 6 (sw 102 12 k))) (λ_=>0) h ?_;exact aE
def dq(lim:Int):List (List Nd) ->Int ->Int
 |[],a=>a
 |l::r,a=>if a<lim then dq lim r (a+1+(l.length:Int))else a
def kn(lim:Int):List gV ->Int ->Int
 |[],a=>a
 |c::r,a=>if a<lim then kn lim r (a+1+dq lim c.args 0+dq lim c.out 0)else a
def ko(lim:Int):List cf ->Int ->Int
 |[],a=>a
 |x::r,a=>if a<lim then ko lim r (kn lim x.ctors (a+1+(x.sort.length:Int)+(x.type.length:Int)+(x.body.length:Int)+dq lim x.params 0+dq lim x.indices 0))else a
def qX(B:ak)(lim:Int):Int:=ko lim B.ents ((B.orders.length:Int)+(B.prims.length:Int))
theorem P2{lim a:Int}(h:¬ a<lim):∀(l:List (List Nd)),dq lim l a=a
 |[]=>rfl
 |l::r=>by simp only[dq];rw[KY h]
theorem P3{lim a:Int}(h:¬ a<lim):∀(l:List gV),kn lim l a=a
 |[]=>rfl
 |l::r=>by simp only[kn];rw[KY h]
theorem P4{lim a:Int}(h:¬ a<lim):∀(l:List cf),ko lim l a=a
 |[]=>rfl
 |l::r=>by simp only[ko];rw[KY h]
def jr(lim:Int):CxR ->Int ->Int
 |[],a=>a
 |q::r,a=>if a<lim then jr lim r (a+1+(q.1.length:Int)+(q.2.length:Int))else a
theorem HG{lim a:Int}(h:¬ a<lim):∀(l:CxR),jr lim l a=a
 |[]=>rfl
 |l::r=>by simp only[jr];rw[KY h]
structure xb where
 book:ak
 ctx:CxR
 term:List Nd
 type:List Nd
 fuel:Int
def CaV(C:Mem)(x:xb)(v:Value):Prop:=
 ∃v1 v2 v3 vc vt vy,v= .agg #[.int .i64 x.book.vars,v1,v2,.int .i64 x.book.nat,v3,vc,vt,vy,.int .i64 x.fuel]/\SV rOr C x.book.orders v1/\SV rEn C x.book.ents v2/\SV rPr C x.book.prims v3/\SV rBd C x.ctx vc/\SV rNd C x.term vt/\SV rNd C x.type vy/\I64 x.fuel
def BQ(x:xb):Bool:=decide (2500<=qX x.book 2500)||(decide (1500<=jr 1500 x.ctx 0)||(decide (300<x.ctx.length)||(decide (1500<x.term.length+x.type.length)||decide (300<x.fuel))))
def B0:ak:=⟨0,[],[],-1,[]⟩
def r1:List Nd:=[⟨2,1,1⟩,⟨3,0,0⟩]
def r2:List Nd:=[⟨6,0,0⟩,⟨2,0,1⟩,⟨3,0,0⟩,⟨2,1,1⟩,⟨3,0,0⟩]
def x1:Tr:=.mk ⟨2,1,1⟩ [.mk ⟨3,0,0⟩ []]
def x0:Tr:=.mk ⟨2,0,1⟩ [.mk ⟨3,0,0⟩ []]
def x2:Tr:=.mk ⟨6,0,0⟩ [x0,x1]
def HH{α:Type}(F:Nat ->Except Int (α×Nat)):Prop:=∀n a n',n<=100000 ->F n= .ok (a,n') ->n'<=n/\∀m,m<=100000 ->(n-n'<=m ->F m= .ok (a,m-(n-n')))/\(m<n-n' ->F m= .error 10)
section
variable{B:ak}
abbrev P5(rc:RcC):Prop:=∀cx x y u,HH (rc cx x y u)
abbrev BR(rc:RcJ):Prop:=∀cx t,HH (rc cx t)
variable{rc:RcJ}(hr:BR rc)
include hr
end
end Go.Q
namespace Go.Wx
open Go.ChangeShapes Go.WideShapes Go.ChangeAt Go.RowKit
theorem HI{H:Type}{enc:TypeId×Value ->H}{P:Program}(hl:laidOutB P=true){W g:World}(hb:Below W.heap.size W g):
  ∀(b:List TypeId) (vs:List Value) (ds:List (DataW H)) (ps:List MemPlace),(b.all λt=>P.readableRec t && Nat.blt t P.types.size)=true ->DataW.TrodAll enc P W 0 (λ_=>true) true b vs ds ps ->
   (∀x∈ps,x.block<W.heap.size) ->∀c:Nat ->Bool,(∀p∈ps,c p.block=true) ->DataW.TrodAll enc P g 0 c true b vs ds ps
 |[],vs,ds,ps,_,h,_,c,_=>by
  obtain⟨rfl,rfl,rfl⟩:=trodAll_nil h
  rfl
 |t::b,vs,ds,ps,a,h,e,c,f=>by
  obtain⟨v,i,d,j,p,q,rfl,rfl,rfl,l,m⟩:=trodAll_cons h;simp only[List.all_cons,Bool.and_eq_true]at a;refine⟨p,q,?_,HI hl hb b _ _ _ a.2 m (λx hx=>e x (by simp[hx])) c (λx hx=>f x (by simp[hx])),rfl⟩;exact WideElems.Trod_stays hl a.1.1 (by simpa[Nat.blt_eq]using a.1.2) l (λx hx=>hb.same (e x (by simp[hx]))) (λx hx=>f x (by simp[hx]))
theorem P6{H:Type}{enc:TypeId×Value ->H}{P:Program}{f:Func}{s:ChangeSpec}{a d b:Bool}{W u:World}{args:Array Value}{ds gs:List (DataW H)}{c:List MemPlace}{v:TypeId}
  (hl:laidOutB P=true) (o:(f.params.toList.all λt=>P.readableRec t && Nat.blt t P.types.size)=true) (r:f.resultTypes= #[v]) (hb:P.underlying v=some .bool)
  (hW:DataW.Whole enc P f.params.toList s.vars a W args.toList ds gs c) (y:s.vars=[]) (i:(s.fn H ds).results=[.lit (.bool true)]) (e:(s.fn H ds).args=ds) (g:(s.fn H ds).vars=[])
  (hk:Kp [] W u):s.post enc P f a d b false W args (.bool true) u:=by
 have j:=hW;obtain⟨p,q,A,z,rfl,D,E⟩:=hW;rw[y]at z;obtain⟨rfl,rfl⟩:=trodVars_none z;have l:=hk.below;have m:∀x∈p,x.block<W.heap.size:=λx hx=>j.lt x (by simp[hx]);refine⟨ds,[],p++[],[],p,[],j,?_,?_,?_,?_,λh=>by cases h⟩
 ·rw[JD,i,r]
  exact trodAll_mk1 (shut_bool hb true)
 ·rw[JD,e]
  exact HI hl l _ _ _ _ o A m _ λx hx=>by simpa using m x hx
 ·rw[JD,g,y]
  rfl
 ·exact l.frame _
end Go.Wx
namespace Go.Q
open Go.ChangeShapes Go.WideShapes Go.ChangeAt Go.RowKit
theorem P7{H:Type}(d:DataW H):1<=Rows.uptoBulk d:=by
 cases d with
 |lit l=>cases l<;>simp[Rows.uptoBulk]
 |nil=>simp[Rows.uptoBulk]
 |ptr d=>simp[Rows.uptoBulk]
 |slice b spare=>simp[Rows.uptoBulk]
 |agg parts=>simp[Rows.uptoBulk]
 |iface t d=>simp[Rows.uptoBulk]
 |map a=>simp[Rows.uptoBulk]
 |held h=>simp[Rows.uptoBulk]
theorem BS{H:Type}{d:DataW H}{l:List (DataW H)}(h:d∈l):Rows.uptoBulk d<=Rows.uptoBulkAll l:=by
 induction l with
 |nil=>cases h
 |cons x r a=>
  simp only[Rows.uptoBulkAll];cases List.mem_cons.1 h with
  |inl e=>subst e;omega
  |inr e=>have:=a e;omega
theorem P8{H:Type}(l:List (DataW H)):l.length<=Rows.uptoBulkAll l:=by
 induction l with
 |nil=>simp[Rows.uptoBulkAll]
 |cons x r a=>have:=P7 x;simp only[Rows.uptoBulkAll,JV];omega
theorem P9{H:Type}{l:List (DataW H)}(hk:Rows.uptoSmall H l=true):Rows.uptoBulkAll l<=1048576:=of_decide_eq_true hk
theorem Qa{H:Type}(l r:List (DataW H)):Rows.uptoBulkAll (l++r)=Rows.uptoBulkAll l+Rows.uptoBulkAll r:=by
 induction l with
 |nil=>simp[Rows.uptoBulkAll]
 |cons x l a=>simp only[List.cons_append,Rows.uptoBulkAll,a];omega
theorem k9{H:Type}{xs:List (DataW H×List MemPlace)}{x:DataW H×List MemPlace}(hx:x∈xs)(hB:Rows.uptoBulk (.agg (xs.map (·.1)))<=1048576):Rows.uptoBulk x.1<=1048576:=by
 have:=BS (QD (f:=(·.1)) hx);simp only[Rows.uptoBulk]at hB;omega
section
variable{H:Type}{enc:TypeId×Value ->H}{w:World}{spare:Nat ->Bool}{held:Bool}
theorem Qb{a:Addr}{v:Value}(h:w.cell? a=some v):∃b o,a=⟨b,o,none⟩:=by
 obtain⟨b,o,s⟩:=a;unfold World.cell? at h;split at h
 ·rename_i c T d e
  cases s with
  |none=>exact⟨b,o,rfl⟩
  |some _=>simp at h
 ·cases h
theorem Qc{α:Type} [Inhabited α]{t e:TypeId}(R:Rd α)(hk:0<R.sz)(ht:prog.underlying t=some (.slice e))(hc:prog.cellsOf e=R.sz)(ok:DataW H ->Prop)
  (one:∀(cs:List Value) (n:Nat) (y:DataW H×List MemPlace),cs.length=R.sz ->DataW.trod enc prog w 0 spare held n e cs=some y ->ok y.1 ->∃x:α,R.den (Old w) cs x)
  {fuel:Nat} {v:Value} {x:DataW H×List MemPlace} (h:DataW.trod enc prog w 0 spare held fuel t [v]=some x) (F:∀es I,x.1= .slice es I ->∀d∈es,ok d):
  ∃(a:Option Addr) (l:List α) (cap:Nat),v= .slice a l.length cap/\(l.length<=1099511627776 ->Sl R (Old w) a l)/\(l.length=0 \/∃es I,x.1= .slice es I/\es.length=l.length):=by
 rcases Go.Deep.open_slice ht h with ⟨g,rfl⟩|⟨a,len,cap,m,n,D,Pl,g,hb,hl,hm,K,rfl,hx⟩
 ·simp only[List.cons.injEq,and_true]at g
  subst g;exact⟨none,[],0,rfl,λ_=>Sl.nil _ _ _,.inl rfl⟩
 simp only[List.cons.injEq,and_true]at g;subst g;have W:len<=m:=by rw[K];split<;>omega
 rw[hc]at hx;have r:∀i,i<len ->∃q:α×List Value,R.den (Old w) q.2 q.1/\∀j u,q.2[j]?=some u ->w.cell? (a.add (i*R.sz+j))=some u:=by
  intro i c;obtain⟨s,g,X⟩:=hx i Uo;obtain⟨_,f,p⟩:=World.cells?_some g;obtain⟨x,hx⟩:=one s n _ f X (F _ _ rfl _ (List.mem_map.2 ⟨i,by simpa using c,rfl⟩));refine⟨(x,s),hx,λj u T=>?_⟩;have L:j<R.sz:=by rw[<- f];exact aL T
  rw[<- Go.Deep.add_add,p j L];exact T
 obtain⟨q,U⟩:=Go.Deep.choose_lt r;refine⟨some a,(List.range len).map λi=>(q i).1,cap,Ud,λz=>⟨z,?_⟩,.inr ⟨_,_,rfl,Ud⟩⟩
 by_cases Y:len=0
 ·exact .inl (by simp[Y])
 obtain⟨M,Z⟩:=U 0 Uo;have a0:=R.len M;obtain⟨V,N⟩:∃u,(q 0).2[0]?=some u:=⟨(q 0).2[0]' Uo,Ud⟩
 have A:=Z 0 V N;rw[Nat.zero_mul,Nat.add_zero]at A;have O:w.cell? a=some V:=by simpa[Addr.add]using A
 obtain⟨b,o,rfl⟩:=Qb O;refine .inr ⟨b,o,rfl,λi x c=>?_⟩;rw[JX]at c;have E:i<len:=by
  rcases Nat.lt_or_ge i len with h|h
  ·exact h
  ·rw[QF (by simpa using h)]at c;cases c
 rw[List.getElem?_range E]at c;have c:=JB c;subst c;obtain⟨P,S⟩:=U i E;refine⟨(q i).2,P,λj u L=>Cl.of ?_⟩;have:=S j u L;rw[px]at this;rw[Nat.add_assoc];exact this
theorem Qd{α:Type} [Inhabited α]{t e:TypeId}(R:Rd α)(hk:0<R.sz)(ht:prog.underlying t=some (.slice e))(hc:prog.cellsOf e=R.sz)
  (one:∀(cs:List Value) (n:Nat) (y:DataW H×List MemPlace),cs.length=R.sz ->DataW.trod enc prog w 0 spare held n e cs=some y ->Rows.uptoBulk y.1<=1048576 ->∃x:α,R.den (Old w) cs x)
  {fuel:Nat} {v:Value} {x:DataW H×List MemPlace} (h:DataW.trod enc prog w 0 spare held fuel t [v]=some x) (hB:Rows.uptoBulk x.1<=1048576):∃l,(tR R).den (Old w) [v] l:=by
 obtain⟨a,l,b,f,g,c⟩:=Qc R hk ht hc (λd=>Rows.uptoBulk d<=1048576) one h (λes i e d j=>by
  rw[e]at hB;have:=BS j;simp only[Rows.uptoBulk]at hB;omega)
 refine⟨l,a,b,by rw[f],g ?_⟩;rcases c with c|⟨es,i,e,m⟩
 ·omega
 ·rw[e]at hB
  have:=P8 es;simp only[Rows.uptoBulk]at hB;omega
end
end Go.Q
namespace Go.Q
instance:Inhabited Nd:=⟨⟨0,0,0⟩⟩
instance:Inhabited aZ:=⟨⟨0,0,0⟩⟩
instance:Inhabited ak:=⟨⟨0,[],[],-1,[]⟩⟩
section
variable{H:Type}{enc:TypeId×Value ->H}{w:World}{spare:Nat ->Bool}{held:Bool}
theorem Qe{z:Int}(h:(Lit.int .i64 z).wf=true):I64 z:=by
 simpa[I64,Lit.wf,IntKind.min,IntKind.max,IntKind.signed,IntKind.bits]using h
theorem qY{α:Type} [Inhabited α]{t e:TypeId}(R:Rd α)(hk:0<R.sz)(ht:prog.underlying t=some (.slice e))(hc:prog.cellsOf e=R.sz)
  (one:∀(cs:List Value) (n:Nat) (y:DataW H×List MemPlace),cs.length=R.sz ->DataW.trod enc prog w 0 spare held n e cs=some y ->Rows.uptoBulk y.1<=1048576 ->∃x:α,R.den (Old w) cs x)
  {fuel:Nat} {v:Value} {x:DataW H×List MemPlace} (h:DataW.trod enc prog w 0 spare held fuel t [v]=some x) (hB:Rows.uptoBulk x.1<=1048576):∃l,SV R (Old w) l v:=by
 obtain⟨l,a,c,e,d⟩:=Qd R hk ht hc one h hB;have e:v= .slice a l.length c:=by simpa using e
 refine⟨l,a,c,e,d,?_⟩;rcases Go.Deep.open_slice ht h with ⟨b,rfl⟩|⟨j,len,f,m,k,D,o,b,p,q,_⟩
 ·rw[e]at b
  have b:=(List.cons.inj b).1;injection b with q1 g i
  omega
 ·rw[e]at b
  have b:=(List.cons.inj b).1;injection b with q1 g i
  omega
theorem jO{n:Nat}{cs:List Value}{y:DataW H×List MemPlace}(a:DataW.trod enc prog w 0 spare held n 3 cs=some y):∃z,cs=[.int .i64 z]/\I64 z:=by
 obtain⟨z,rfl,rfl,b⟩:=DataW.trod_int underlying3 a;exact⟨z,rfl,Qe b⟩
theorem Qf{n:Nat}{cs:List Value}{y:DataW H×List MemPlace}(hl:cs.length=3)(i:DataW.trod enc prog w 0 spare held n 46 cs=some y):∃x,rNd.den (Old w) cs x:=by
 obtain⟨j,m,rfl,rfl,_,a,hf⟩:=DataW.trod_struct underlying46 i
 match cs,hl,j,a with
 |[u,c1,v],_,[x0,x1,x2],_=>
  have b:=hf 0 _ rfl;have c:=hf 1 _ rfl;have d:=hf 2 _ rfl;simp[show prog.cellsOf 3=1 by kernel_rfl]at b c d;obtain⟨l,e,o⟩:=jO b;obtain⟨p,f,q⟩:=jO c;obtain⟨r,g,s⟩:=jO d;simp at e f g;subst e f g;exact⟨⟨l,p,r⟩,rfl,o,q,s⟩
theorem Qg{n:Nat}{cs:List Value}{y:DataW H×List MemPlace}(hl:cs.length=3)(i:DataW.trod enc prog w 0 spare held n 178 cs=some y):∃x,rOr.den (Old w) cs x:=by
 obtain⟨j,m,rfl,rfl,_,a,hf⟩:=DataW.trod_struct underlying178 i
 match cs,hl,j,a with
 |[u,c1,v],_,[x0,x1,x2],_=>
  have b:=hf 0 _ rfl;have c:=hf 1 _ rfl;have d:=hf 2 _ rfl;simp[show prog.cellsOf 3=1 by kernel_rfl]at b c d;obtain⟨l,e,o⟩:=jO b;obtain⟨p,f,q⟩:=jO c;obtain⟨r,g,s⟩:=jO d;simp at e f g;subst e f g;exact⟨⟨l,p,r⟩,rfl,o,q,s⟩
theorem Qh{n:Nat}{cs:List Value}{y:DataW H×List MemPlace}(hl:cs.length=2)(f:DataW.trod enc prog w 0 spare held n 117 cs=some y):∃x,rPr.den (Old w) cs x:=by
 obtain⟨g,m,rfl,rfl,_,a,hf⟩:=DataW.trod_struct underlying117 f
 match cs,hl,g,a with
 |[p,c1],_,[x0,x1],_=>
  have b:=hf 0 _ rfl;have c:=hf 1 _ rfl;simp[show prog.cellsOf 3=1 by kernel_rfl]at b c;obtain⟨i,d,j⟩:=jO b;obtain⟨l,e,o⟩:=jO c;simp at d e;subst d e;exact⟨(i,l),rfl,j,o⟩
theorem xc{n:Nat}{v:Value}{y:DataW H×List MemPlace}(a:DataW.trod enc prog w 0 spare held n 29 [v]=some y)(hB:Rows.uptoBulk y.1<=1048576):∃l,SV rNd (Old w) l v:=
 qY rNd UO underlying29 UD (λc n y b a d=>Qf b a) a hB
theorem xd{n:Nat}{v:Value}{y:DataW H×List MemPlace}(d:DataW.trod enc prog w 0 spare held n 67 [v]=some y)(hB:Rows.uptoBulk y.1<=1048576):∃l,SV (io rNd) (Old w) l v:=
 qY (io rNd) Nat.one_pos underlying67 UD (λe n y f d g=>by
  match e,f with
  |[c],_=>
   obtain⟨l,a,i,rfl,j,b⟩:=xc d g;exact⟨l,a,i,rfl,b,j⟩) d hB
theorem Qi{n:Nat}{cs:List Value}{y:DataW H×List MemPlace}(hl:cs.length=2)(d:DataW.trod enc prog w 0 spare held n 75 cs=some y)(hB:Rows.uptoBulk y.1<=1048576):∃x,rCt.den (Old w) cs x:=by
 obtain⟨e,m,rfl,rfl,_,a,hf⟩:=DataW.trod_struct underlying75 d
 match cs,hl,e,a with
 |[l,c1],_,[x0,x1],_=>
  have b:=hf 0 _ rfl;have c:=hf 1 _ rfl;simp[show prog.cellsOf 67=1 by kernel_rfl]at b c;obtain⟨f,g⟩:=xd b (k9 (x:=x0) Ud hB);obtain⟨i,j⟩:=xd c (k9 (x:=x1) Ud hB);exact⟨⟨f,i⟩,_,_,rfl,g,j⟩
theorem Qj{n:Nat}{cs:List Value}{y:DataW H×List MemPlace}(hl:cs.length=7)(a:DataW.trod enc prog w 0 spare held n 70 cs=some y)(hB:Rows.uptoBulk y.1<=1048576):∃x,rEn.den (Old w) cs x:=by
 obtain⟨o,m,rfl,rfl,_,b,hf⟩:=DataW.trod_struct underlying70 a
 match cs,hl,o,b with
 |[T,c1,U,V,W,X,Y],_,[x0,x1,x2,p,q,r,s],_=>
  have c:=hf 0 _ rfl;have d:=hf 1 _ rfl;have e:=hf 2 _ rfl;have f:=hf 3 _ rfl;have g:=hf 4 _ rfl;have i:=hf 5 _ rfl;have j:=hf 6 _ rfl;simp[show prog.cellsOf 3=1 by kernel_rfl,show prog.cellsOf 67=1 by kernel_rfl,show prog.cellsOf 29=1 by kernel_rfl,show prog.cellsOf 68=1 by kernel_rfl]at c d e f g i j;obtain⟨u,l,v⟩:=jO c;obtain⟨z,A⟩:=xc d (k9 (x:=x1) Ud hB);obtain⟨D,E⟩:=xd e (k9 (x:=x2) Ud hB);obtain⟨F,I⟩:=xd f (k9 (x:=p) Ud hB);obtain⟨K,L⟩:=qY rCt UO underlying68 UD (λcs n y hl a M=>Qi hl a M) g (k9 (x:=q) Ud hB);obtain⟨N,O⟩:=xc i (k9 (x:=r) Ud hB);obtain⟨P,S⟩:=xc j (k9 (x:=s) Ud hB);simp at l;subst l;exact⟨⟨u,z,D,F,K,N,P⟩,_,_,_,_,_,_,rfl,v,A,E,I,L,O,S⟩
theorem Ql{n:Nat}{cs:List Value}{y:DataW H×List MemPlace}(hl:cs.length=5)(a:DataW.trod enc prog w 0 spare held n 26 cs=some y)(hB:Rows.uptoBulk y.1<=1048576):∃x,rBo.den (Old w) cs x:=by
 obtain⟨o,m,rfl,rfl,_,b,hf⟩:=DataW.trod_struct underlying26 a
 match cs,hl,o,b with
 |[I,c1,K,L,M],_,[x0,x1,x2,N,p],_=>
  have d:=hf 0 _ rfl;have e:=hf 1 _ rfl;have f:=hf 2 _ rfl;have g:=hf 3 _ rfl;have i:=hf 4 _ rfl;simp[show prog.cellsOf 3=1 by kernel_rfl,show prog.cellsOf 22=1 by kernel_rfl,show prog.cellsOf 23=1 by kernel_rfl,show prog.cellsOf 24=1 by kernel_rfl]at d e f g i;obtain⟨q,j,r⟩:=jO d;obtain⟨s,u⟩:=qY rOr UO underlying22 UD (λcs n y hl a c=>Qg hl a) e (k9 (x:=x1) Ud hB);obtain⟨v,z⟩:=qY rEn UO underlying23 UD (λcs n y hl a c=>Qj hl a c) f (k9 (x:=x2) Ud hB);obtain⟨A,l,D⟩:=jO g;obtain⟨E,F⟩:=qY rPr UO underlying24 UD (λcs n y hl a c=>Qh hl a) i (k9 (x:=p) Ud hB);simp at j l;subst j l;exact⟨⟨q,s,v,A,E⟩,_,_,_,rfl,r,D,u,z,F⟩
end
theorem qZ{lim:Int}:∀(l:List (List Nd)) (a:Int),a<=dq lim l a/\(dq lim l a<lim ->(l.length:Int)+a<=dq lim l a/\∀t∈l,(t.length:Int)+a<=dq lim l a)
 |[],a=>by simp[dq]
 |t::r,a=>by
  by_cases h:a<lim
  ·simp only[dq]
   rw[KX h];obtain⟨h1,h2⟩:=qZ (lim:=lim) r (a+1+(t.length:Int));refine⟨Uo,λg=>?_⟩;obtain⟨d,c⟩:=h2 g;refine⟨by simp only[JV];omega,λu b=>?_⟩;rcases List.mem_cons.1 b with rfl|b
   ·omega
   ·have:=c u b
    omega
  ·rw[P2 h]
   exact⟨Int.le_refl _,λg=>absurd g h⟩
theorem xe{lim:Int}(b:lim<=100000){l:List (List Nd)}(h:dq lim l 0<lim):j3 l:=by
 obtain⟨c,a⟩:=(qZ l 0).2 h;exact⟨Uo,λt ht=>by have:=a t ht;omega⟩
theorem HJ{lim:Int}(b:lim<=100000):∀(l:List gV) (a:Int),a<=kn lim l a/\(0<=a ->kn lim l a<lim ->(l.length:Int)+a<=kn lim l a/\∀c∈l,j3 c.args/\j3 c.out)
 |[],a=>by simp[kn]
 |c::r,a=>by
  by_cases h:a<lim
  ·simp only[kn]
   rw[KX h];have i:=(qZ (lim:=lim) c.args 0).1;have j:=(qZ (lim:=lim) c.out 0).1;obtain⟨m,e⟩:=HJ (lim:=lim) b r (a+1+dq lim c.args 0+dq lim c.out 0);refine⟨Uo,λo g=>?_⟩;obtain⟨p,f⟩:=e Uo g;refine⟨by simp only[JV];omega,λu d=>?_⟩;rcases List.mem_cons.1 d with rfl|d
   ·exact⟨xe b Uo,xe b Uo⟩
   ·exact f u d
  ·rw[P3 h]
   exact⟨Int.le_refl _,λ_ g=>absurd g h⟩
theorem HK{lim:Int}(b:lim<=100000):∀(l:List cf) (a:Int),a<=ko lim l a/\(0<=a ->ko lim l a<lim ->(l.length:Int)+a<=ko lim l a/\∀x∈l,sp x)
 |[],a=>by simp[ko]
 |x::r,a=>by
  by_cases h:a<lim
  ·simp only[ko]
   rw[KX h];have j:=(qZ (lim:=lim) x.params 0).1;have m:=(qZ (lim:=lim) x.indices 0).1;have d:=HJ b x.ctors (a+1+(x.sort.length:Int)+(x.type.length:Int)+(x.body.length:Int)+dq lim x.params 0+dq lim x.indices 0);obtain⟨o,e⟩:=HK (lim:=lim) b r (kn lim x.ctors (a+1+(x.sort.length:Int)+(x.type.length:Int)+(x.body.length:Int)+dq lim x.params 0+dq lim x.indices 0));refine⟨Uo,λp g=>?_⟩;obtain⟨q,f⟩:=e Uo g;obtain⟨s,i⟩:=d.2 Uo Uo;refine⟨by simp only[JV];omega,λu c=>?_⟩;rcases List.mem_cons.1 c with rfl|c
   ·exact⟨Uo,Uo,Uo,xe b Uo,xe b Uo,Uo,i⟩
   ·exact f u c
  ·rw[P4 h]
   exact⟨Int.le_refl _,λ_ g=>absurd g h⟩
theorem HL{lim:Int}(c:lim<=100000):∀(l:CxR) (a:Int),a<=jr lim l a/\(0<=a ->jr lim l a<lim ->∀q∈l,q.1.length<=1000000/\q.2.length<=1000000)
 |[],a=>by simp[jr]
 |q::r,a=>by
  by_cases h:a<lim
  ·simp only[jr]
   rw[KX h];obtain⟨h1,h2⟩:=HL (lim:=lim) c r (a+1+(q.1.length:Int)+(q.2.length:Int));refine⟨Uo,λd g u b=>?_⟩;rcases List.mem_cons.1 b with rfl|b
   ·omega
   ·exact h2 Uo g u b
  ·rw[HG h]
   exact⟨Int.le_refl _,λ_ g=>absurd g h⟩
def Lm{α:Type}(l:List α):Prop:=l.length<=1099511627776
def ra(l:List (List Nd)):Prop:=Lm l/\∀t∈l,Lm t
theorem xf{d:List (List Nd)}{lid:Int}(hl:ra d)(F:0<=lid/\lid<=100000):VC prog 41 [bD d,.int .i64 lid] (.int .i64 (dq lid d 0))/\0<=dq lid d 0/\dq lid d 0<=1200000000000:=by
 obtain⟨o,e⟩:=hl;unfold Lm at o;have v:∀(l:List (List Nd)) (a:Int),(∀t∈l,Lm t) ->0<=a ->a<=1200000000000 ->0<=dq lid l a/\dq lid l a<=1200000000000:=by
  intro l
  induction l with
  |nil=>intro a _ f b;exact⟨f,b⟩
  |cons t r y=>
   intro a ht f b;simp only[dq];split
   ·have:=ht t Ud
    unfold Lm at this;exact y _ (λt h=>ht t (by simp[h])) Uo Uo
   ·exact⟨f,b⟩
 refine⟨?_,v d 0 e (Int.le_refl _) UO⟩;refine r7 27 [.tmp 4] τok func41 rfl rfl rfl (QX rfl) UO<|yI τok (σ:=Nat×Int) (λq=>⟨[(0,.c (.p (bD d))),(1,.c (.p (.int .i64 lid))),(5,.c (.p (.int .i64 q.2))),(6,.c (.p (.int .i64 (q.1:Int))))],[]⟩) (λq=>q.1<=d.length/\dq lid (d.drop q.1) q.2=dq lid d 0/\0<=q.2/\q.2<=1200000000000) (λq=>d.length-q.1) (0,0) id (ik ⟨rfl,rfl,rfl,rfl,trivial⟩ trivial rfl) ⟨KV _,rfl,Ud,Ud⟩ ?_;rintro⟨i,m⟩ ⟨f,b,z,A⟩;simp only at f b z A;refine af (λg=>?_) (λg=>?_)
 ·rw[KF]at g
  obtain⟨t,j,D⟩:=ay (l:=d) (k:=i);have s:=e t (JQ j);unfold Lm at s;rw[D]at b;simp only[dq]at b;refine af (λu=>?_) (λu=>?_)
  ·rw[KX u]at b
   refine gz Uo Uo<|oI i [ah t] rfl (by rw[JX,j];rfl) rfl ?_;have E:(t.map ndP).length=t.length:=KF _;refine gz Uo Uo<|gz Uo Uo<|⟨(i+1,m+1+((t.map ndP).length:Nat)),id,Us,⟨Us,by simp only[E];exact b,Us,Us⟩,ik ⟨rfl,rfl,rfl,rfl,trivial⟩ trivial rfl⟩
  ·rw[KY u]at b
   exact⟨_,_,rfl,rfl,KG (PV.int .i64) b⟩
 ·rw[KF]at g
  rw[JY Uo]at b;exact⟨_,_,rfl,rfl,KG (PV.int .i64) b⟩
structure Qm(x:cf):Prop where
 s:Lm x.sort
 t:Lm x.type
 b:Lm x.body
 p:ra x.params
 i:ra x.indices
 c:Lm x.ctors
 a:∀c∈x.ctors,ra c.args/\ra c.out
structure tH(B:ak):Prop where
 o:Lm B.orders
 p:Lm B.prims
 e:Lm B.ents
 x:∀x∈B.ents,Qm x
theorem Qn{B:ak}(hB:tH B){lid:Int}(r:0<=lid/\lid<=100000):VC prog 17 [bw B,.int .i64 lid] (.int .i64 (qX B lid)):=by
 have E:=hB.o;have F:=hB.p;have I:=hB.e;unfold Lm at E F I;have K:=au eJ B.orders;have L:=au iO B.prims;have l3:=au cj B.ents;refine r7 90 [.tmp 4] τok func17 rfl rfl rfl (QX rfl) UO<|gz Uo Uo<|yI τok (σ:=Nat×Int) (λq=>⟨[(1,.c (.p (.int .i64 lid))),(2,.c (.ptr 2 0)),(5,.c (.p (.int .i64 q.2))),(6,.c (.p (.int .i64 (q.1:Int))))],[(2,.st 0 26 ((jE B).map .p))]⟩) (λq=>q.1<=B.ents.length/\ko lid (B.ents.drop q.1) q.2=qX B lid/\0<=q.2/\q.2<=10000000000000) (λq=>B.ents.length-q.1) (0,((B.orders.map eJ).length:Int)+((B.prims.map iO).length:Int)) id (ik ⟨rfl,rfl,rfl,rfl,trivial⟩ ⟨rfl,trivial⟩ rfl) ⟨KV _,by simp only[K,L];rfl,Us,Us⟩ ?_;rintro⟨i,m⟩ ⟨M,b,N,O⟩;simp only at M b N O;refine af (λg=>?_) (λg=>?_)
 ·obtain⟨x,e,P⟩:=ay (l:=B.ents) (k:=i)
  have hx:=hB.x x (JQ e);have q1:=hx.s;have S:=hx.t;have T:=hx.b;have U:=hx.c;unfold Lm at q1 S T U;rw[P]at b;simp only[ko]at b;refine af (λs=>?_) (λs=>?_)
  ·rw[KX s]at b
   refine oI i (cj x) rfl (by rw[JX,e];rfl) rfl ?_;have V:=au ndP x.sort;have W:=au ndP x.type;have X:=au ndP x.body;have e4:=au bM x.ctors;obtain⟨Y,b1,c1⟩:=xf hx.p r;obtain⟨Z,b2,c2⟩:=xf hx.i r;refine gz Uo Uo<|gz Uo Uo<|gz Uo Uo<|gz Uo Uo<|ae Y ?_;refine gz Uo Uo<|ae Z ?_;refine gz Uo Uo<|pO UD<|yI τok (σ:=Nat×Int) (λq=>⟨[(1,.c (.p (.int .i64 lid))),(2,.c (.ptr 2 0)),(5,.c (.p (.int .i64 q.2))),(6,.c (.p (.int .i64 (i:Int)))),(7,.c (.ptr 7 0)),(8,.c (.p (.int .i64 (q.1:Int))))],[(2,.st 0 26 ((jE B).map .p)),(7,.st 0 70 ((cj x).map .p))]⟩) (λq=>q.1<=x.ctors.length/\ko lid (B.ents.drop (i+1)) (kn lid (x.ctors.drop q.1) q.2)=qX B lid/\0<=q.2/\q.2<=10000000000000) (λq=>x.ctors.length-q.1) (0,_) id (ik ⟨rfl,rfl,rfl,rfl,rfl,rfl,trivial⟩ ⟨rfl,rfl,trivial⟩ rfl) ⟨KV _,by simp only[V,W,X];exact b,Us,Us⟩ ?_;rintro⟨j,a⟩ ⟨k1,d,u,v⟩;simp only at k1 d u v;refine af (λg3=>?_) (λg3=>?_)
   ·obtain⟨c,f,y⟩:=ay (l:=x.ctors) (k:=j)
    obtain⟨z,A⟩:=hx.a c (JQ f);rw[y]at d;simp only[kn]at d;refine af (λD=>?_) (λD=>?_)
    ·rw[KX D]at d
     obtain⟨v3,b3,c3⟩:=xf z r;obtain⟨v4,b4,c4⟩:=xf A r;have o:(x.ctors.map bM)[j]?=some (bM c):=by rw[JX,f];rfl
     refine gz Uo Uo<|oI j (bM c) rfl o rfl<|ae v3 ?_;refine gz Uo Uo<|oI j (bM c) rfl o rfl<|ae v4 ?_;exact gz Uo Uo<|pO UD<|gz Uo Uo<|⟨(j+1,_),id,Us,⟨Us,d,Us,Us⟩,ik ⟨rfl,rfl,rfl,rfl,rfl,rfl,trivial⟩ ⟨rfl,rfl,trivial⟩ rfl⟩
    ·rw[KY D]at d
     exact gz Uo Uo<|⟨(i+1,a),id,Us,⟨Us,d,u,v⟩,ik ⟨rfl,rfl,rfl,rfl,trivial⟩ ⟨rfl,trivial⟩ rfl⟩
   ·have e5:x.ctors.drop j=[]:=JY Uo
    rw[e5]at d;exact gz Uo Uo<|⟨(i+1,a),id,Us,⟨Us,d,u,v⟩,ik ⟨rfl,rfl,rfl,rfl,trivial⟩ ⟨rfl,trivial⟩ rfl⟩
  ·rw[KY s]at b
   exact⟨_,_,rfl,rfl,KG (PV.int .i64) b⟩
 ·rw[JY Uo]at b
  exact⟨_,_,rfl,rfl,KG (PV.int .i64) b⟩
theorem BU{c:CxR}(hc:Lm c)(m:∀q∈c,Lm q.1/\Lm q.2){lim:Int}(y:0<=lim/\lim<=100000):VC prog 18 [aH c,pI lim] (pI (jr lim c 0)):=by
 have eC:=au bdP c;unfold Lm at hc;generalize b:jr lim c 0=d;refine vf 35 [.tmp 4] τok func18 ?_;refine vl τok (σ:=Nat×Int) [(0,_),(1,_)] (λq=>[(5,vI q.2),(6,vI q.1)]) (λq=>q.1<=c.length/\0<=q.2/\q.2<=4000000000000/\jr lim (c.drop q.1) q.2=d) (λq=>c.length-q.1) (0,0) ⟨KV _,Int.le_refl _,UO,b⟩ ?_
 clear b
 rintro⟨i,a⟩ ⟨o,f,j,hr⟩;simp only at o f j hr;have fin:jr lim (c.drop i) a=a ->fY' [PV.nz (pI a)]=pI d:=λh=>by rw[<- hr,h];rfl
 refine af (λg=>?_) (λg=>?_);rotate_left
 ·exact⟨_,_,rfl,rfl,fin (by rw[JY (by have g:¬ (i:Int)<((c.map bdP).length:Int):=g;omega)];rfl)⟩
 have g:(i:Int)<((c.map bdP).length:Int):=g;refine af (λe=>?_) (λe=>?_);rotate_left
 ·exact⟨_,_,rfl,rfl,fin (HG e _)⟩
 have e:a<lim:=e;obtain⟨q,hx,r⟩:=ay (l:=c) (k:=i);obtain⟨q1,s⟩:=m q (JQ hx);unfold Lm at q1 s;have u:=au ndP q.1;have v:=au ndP q.2;rw[r]at hr;simp only[jr]at hr;rw[KX e]at hr;refine vi ?_;refine vm (p:=bdP) i hx ?_;refine vi ?_;refine vm (p:=bdP) i hx ?_;refine vi ?_;refine vk ?_;refine vi ?_;exact aw (i+1,a+1+((q.1.map ndP).length:Int)+((q.2.map ndP).length:Int)) ⟨by show i+1<=_;omega,Us,Us,by simp only[u,v];exact hr⟩
def caP(x:xb):PV:=.agg (jE x.book++[aH x.ctx,ah x.term,ah x.type,pI x.fuel])
structure LmX(x:xb):Prop where
 b:tH x.book
 c:Lm x.ctx
 q:∀q∈x.ctx,Lm q.1/\Lm q.2
 t:Lm x.term
 y:Lm x.type
end Go.Q
