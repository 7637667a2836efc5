import Derived.Test.YtdfeclpphaccnaaGreatMs14
import Derived.Test.YtdfeclpphaccnaaGreatRows
import Derived.ProofKit
import Derived.OpenShut
import Derived.Deep.Slices
import Derived.JoinedCond
set_option linter.all false
set_option maxRecDepth 100000
set_option maxHeartbeats 4000000
open Go.Proofs Go.Proofs.Tryz Go.Proofs.YtdfeclpphaccnaaGreat Cd Go.Wx Lv Tm
namespace Go.Q
def re(p:Nd)(a:AV):Prop:=∀C ρ v,RA C ρ a v ->v=iw p
theorem HD(p:Nd):re p (.c (.p (.agg (ndP p)))):=λC ρ v h=>by
 have h:RV C (.agg (ndP p)) v:=h;cases h with
 |agg k us e d=>
  match us,e with
  |[a,b,c],_=>
   have f:=d 0 _ _ rfl rfl;have i:=d 1 _ _ rfl rfl;have j:=d 2 _ _ rfl rfl;cases f;cases i;cases j
   rfl
theorem HE(o a b:Int):re ⟨o,a,b⟩ (.agg [.p (pI o),.p (pI a),.p (pI b)]):=λC ρ v h=>by
 obtain⟨us,rfl,e,d⟩:=h
 match us,e with
 |[a,b,c],_=>
  have f:RV C (pI _) _:=d 0 _ _ rfl rfl;have i:RV C (pI _) _:=d 1 _ _ rfl rfl;have j:RV C (pI _) _:=d 2 _ _ rfl rfl;cases f;cases i;cases j
  rfl
theorem BQ{x y:Operand}{p q:Nd}{a b:AV}{k:PV ->Prop}(ha:re p a)(hb:re q b)(hk:k (.bool (!decide (p=q)))):oQ prog .neq 46 x y a b k:=by
 refine⟨_,λC ρ va e w c d=>?_,hk⟩;obtain rfl:=ha _ _ _ c;obtain rfl:=hb _ _ _ d;exact⟨_,.bool _,Fl x y p q w⟩
theorem BR{x y:Operand}{p q:Nd}{a b:AV}{k:PV ->Prop}(ha:re p a)(hb:re q b)(hk:k (.bool (decide (p=q)))):oQ prog .eql 46 x y a b k:=by
 refine⟨_,λC ρ va e w c d=>?_,hk⟩;obtain rfl:=ha _ _ _ c;obtain rfl:=hb _ _ _ d;exact⟨_,.bool _,Fm _ _ p q w⟩
theorem PB{B:ak}(hB:dG B)(a:Int):VC prog 118 [bw B,pI a] (.bool (nm B a)):=by
 have eE:=au cj B.ents;generalize b:nm B a=j;unfold nm at b;refine vf 104 [.tmp 4] τok func118 ?_;refine af (λO=>?_) (λO=>?_)
 ·rw[KX (.inl O)]at b
  exact⟨_,_,rfl,rfl,KG PV.bool b⟩
 refine af (λm=>?_) (λm=>?_)
 ·have m:((B.ents.map cj).length:Int)<=a:=m
  rw[KX (.inr (.inl Uo))]at b;exact⟨_,_,rfl,rfl,KG PV.bool b⟩
 have m:¬ ((B.ents.map cj).length:Int)<=a:=m;obtain⟨n,rfl⟩:∃n:Nat,a=(n:Int):=⟨a.toNat,Uo⟩
 obtain⟨x,hx,_⟩:=ay (l:=B.ents) (k:=n);rw[sA hx]at b;have hX:=hB.x x (JQ hx);have T:=hX.p.1;have U:=hX.i.1;have l1:=au ndP x.sort;have l2:=au (λt=>[ah t]) x.params;have l3:=au (λt=>[ah t]) x.indices;have l4:=au cd x.ctors;refine de n hx ?_;refine af (λd=>?_) (λd=>?_)
 ·have d:x.kind≠1:=d
  rw[KX (.inr (.inr d))]at b;exact⟨_,_,rfl,rfl,KG PV.bool b⟩
 have d:¬ x.kind≠1:=d;rw[KY Uo]at b;refine de n hx ?_;have o:∀{P:Prop} [Decidable P] {r:Bool},P ->(if P then false else r)=j ->ge' [PV.nz (.bool false)]= .bool j:=λh e=>by rw[KX h]at e;rw[<- e];rfl
 refine af (λp=>?_) (λp=>?_)
 ·have p:((x.sort.map ndP).length:Int)≠2:=p
  exact⟨_,_,rfl,rfl,o (.inl Uo) b⟩
 have p:¬ ((x.sort.map ndP).length:Int)≠2:=p;obtain⟨M,s,_⟩:=ay (l:=x.sort) (k:=0);obtain⟨N,u,_⟩:=ay (l:=x.sort) (k:=1);have V:x.sort.getD 0 ⟨0,0,0⟩=M:=by rw[QK,s];rfl
 have W:x.sort.getD 1 ⟨0,0,0⟩=N:=by rw[QK,u];rfl
 rw[V,W]at b;refine aI 0 s ?_;refine af (λf=>?_) (λf=>?_)
 ·have f:M.a≠1:=f
  exact⟨_,_,rfl,rfl,o (.inr (.inl f)) b⟩
 have f:¬ M.a≠1:=f;refine aI 1 u ?_;refine BQ (HD N) (HE 3 0 0) ?_
 by_cases K:N=⟨3,0,0⟩
 rotate_left
 ·rw[KH K]
  exact⟨_,_,rfl,rfl,o (.inr (.inr (.inl K))) b⟩
 rw[KU K];refine vi ?_;refine af (λv=>?_) (λv=>?_)
 ·have v:(0:Int)<((x.params.map λt=>[ah t]).length:Int)+((x.indices.map λt=>[ah t]).length:Int):=v
  exact⟨_,_,rfl,rfl,o (.inr (.inr (.inr (.inl Uo)))) b⟩
 have v:¬ (0:Int)<((x.params.map λt=>[ah t]).length:Int)+((x.indices.map λt=>[ah t]).length:Int):=v;refine af (λy=>?_) (λy=>?_)
 ·have y:((x.ctors.map cd).length:Int)≠2:=y
  exact⟨_,_,rfl,rfl,o (.inr (.inr (.inr (.inr Uo)))) b⟩
 have y:¬ ((x.ctors.map cd).length:Int)≠2:=y;rw[KY (by rintro(h|h|h|h|h)<;>first|omega|exact h K)]at b;obtain⟨L,z,_⟩:=ay (l:=x.ctors) (k:=0);obtain⟨c1,A,_⟩:=ay (l:=x.ctors) (k:=1);have X:x.ctors.getD 0 default=L:=by rw[QK,z];rfl
 have Y:x.ctors.getD 1 default=c1:=by rw[QK,A];rfl
 rw[X,Y]at b;have l5:=au rP L.args;have l6:=au rP c1.args;refine gI 0 z ?_;refine gI 1 A ?_;refine vk ?_;refine af (λD=>?_) (λD=>?_);rotate_left
 ·have D:¬ ((L.args.map rP).length:Int)=0:=D
  rw[KH Uo]at b;exact⟨_,_,rfl,rfl,KG PV.bool b⟩
 have D:((L.args.map rP).length:Int)=0:=D;rw[KU Uo,Bool.true_and]at b;refine af (λE=>?_) (λE=>?_);rotate_left
 ·have E:¬ ((c1.args.map rP).length:Int)=1:=E
  rw[KH Uo]at b;exact⟨_,_,rfl,rfl,KG PV.bool b⟩
 have E:((c1.args.map rP).length:Int)=1:=E;rw[KU Uo,Bool.true_and]at b;obtain⟨i,c,_⟩:=ay (l:=c1.args) (k:=0);have Z:c1.args.getD 0 []=i:=by rw[QK,c];rfl
 rw[Z]at b;have l7:=au ndP i;refine az 0 c ?_;refine af (λF=>?_) (λF=>?_);rotate_left
 ·have F:¬ ((i.map ndP).length:Int)=1:=F
  rw[KH Uo]at b;exact⟨_,_,rfl,rfl,KG PV.bool b⟩
 have F:((i.map ndP).length:Int)=1:=F;rw[KU Uo,Bool.true_and]at b;obtain⟨S,I,_⟩:=ay (l:=i) (k:=0);have e5:i.getD 0 ⟨0,0,0⟩=S:=by rw[QK,I];rfl
 rw[e5]at b;refine az 0 c ?_;refine aI 0 I ?_;exact BR (HD S) (HE 9 n 0)<|⟨_,_,rfl,rfl,KG PV.bool b⟩
def OnG(g:G):Prop:=∀x y v,g x y=some v ->v=1
theorem OnG.bd{g:G}(h:OnG g)(x y:Int):0<=(g x y).getD 0/\(g x y).getD 0<=1:=by
 cases a:g x y with
 |none=>simp
 |some v=>have:=h x y v a;simp[this]
theorem OnG.put{g:G}(h:OnG g)(x y:Int):OnG (putG g x y 1):=λa b v c=>by
 unfold putG at c;split at c
 ·exact(JB c).symm
 ·exact h a b v c
theorem PC{B:ak}(hB:dG B):VC prog 60 [bw B] (.bool (iF B)):=by
 have L:=au iU B.prims;have M:=au cj B.ents;have z:=hB.p;generalize a:iF B=d;unfold iF at a;have j:∀{P:Prop} [Decidable P] {r:Bool},P ->(if P then false else r)=d ->ge' [PV.nz (.bool false)]= .bool d:=λh e=>by rw[KX h]at e;rw[<- e];rfl
 refine cR 89 [.tmp 2] τok func60 ?_;refine aD<|eo τok (σ:=Unit) [(1,_),(2,_)] [(1,_)] (λ_=>[]) (λ_=>[]) (λ_=>nq B B.prims (λ_ _=>none)=d) ?_ ?_
 ·refine af (λm=>?_) (λm=>?_)
  ·refine bV (PB hB B.nat) (λf=>?_) (λf=>?_)
   ·refine vn ?_
    exact aw () (by rwa [KY (by rintro(⟨_,h⟩|⟨h,_⟩);exact absurd (f.symm.trans h) UO;exact m h)]at a)
   ·exact⟨_,_,rfl,rfl,j (.inl ⟨m,f⟩) a⟩
  ·refine vy ?_
   refine af (λA=>?_) (λA=>?_)
   ·exact⟨_,_,rfl,rfl,j (.inr ⟨Uo,Uo⟩) a⟩
   ·exact aw () (by rwa [KY (by rintro(⟨h,_⟩|⟨_,h⟩);exact m h;omega)]at a)
 rintro _ a;refine aD<|rN (QG λ_ _=>none) ?_ qg0;refine aj<|aB τok (σ:=Nat×G) [(1,_),(3,_),(31,_),(32,_)] [(1,_)] (λq=>[(33,vI q.1)]) (λq=>[(29,.ob 0 (QG q.2))]) (λq=>q.1<=B.prims.length/\OnG q.2/\nq B (B.prims.drop q.1) q.2=d) (λq=>B.prims.length-q.1) (0,_) ⟨KV _,(λ_ _ _ h=>(by cases h):OnG λ_ _=>none),a⟩ ?_;rintro⟨i,g⟩ ⟨D,o,b⟩;simp only at D o b;refine aj<|af (λc=>?_) (λc=>?_);rotate_left
 ·rw[JY Uo]at b
  exact⟨_,_,rfl,rfl,KG PV.bool b⟩
 obtain⟨p,E,F⟩:=ay (l:=B.prims) (k:=i);rw[F]at b;simp only[nq]at b;refine vm (p:=iU) i E ?_;refine vk ?_;refine af (λu=>?_) (λu=>?_)
 ·refine vk ?_
  exact⟨_,_,rfl,rfl,j (.inl u) b⟩
 refine af (λI=>?_) (λI=>?_)
 ·refine vk ?_
  exact⟨_,_,rfl,rfl,j (.inr (.inl Uo)) b⟩
 refine de p.1.toNat (nv Uo) ?_;refine af (λv=>?_) (λv=>?_)
 ·refine vk ?_
  exact⟨_,_,rfl,rfl,j (.inr (.inr (.inl v))) b⟩
 refine af (λy=>?_) (λy=>?_)
 ·refine vk ?_
  exact⟨_,_,rfl,rfl,j (.inr (.inr (.inr (.inl y)))) b⟩
 refine af (λK=>?_) (λK=>?_)
 ·refine vk ?_
  exact⟨_,_,rfl,rfl,j (.inr (.inr (.inr (.inr (.inl Uo))))) b⟩
 refine A1 m2p<|A1 m2p ?_;have N:=o.bd p.1 (-1);have b2:=o.bd (-1) p.2;refine vi ?_;refine af (λs=>?_) (λs=>?_)
 ·refine vk ?_
  exact⟨_,_,rfl,rfl,j (.inr (.inr (.inr (.inr (.inr s))))) b⟩
 have s:¬ (0:Int)<(g p.1 (-1)).getD 0+(g (-1) p.2).getD 0:=s;refine vk ?_;rw[KY Uo]at b;refine qK m2p<|qK m2p<|vk ?_;refine vi ?_;exact aw (i+1,putG (putG g p.1 (-1) 1) (-1) p.2 1) ⟨by show i+1<=_;omega,(o.put _ _).put _ _,b⟩
abbrev rf(B:ak)(known self:Int):PV:=.agg (jK B++[pI known,pI self])
theorem PD{x:Tr}(hx:Wf x){n:Int}(a:I64 n):VC prog 69 [ah (row x),pI n] (.bool (kK x n)):=LB hx.ok hx.len n
section
variable{B:ak}{known:Nat}{self:Int}(hk:known<=B.ents.length)
include hk
theorem PE{a:Int}(b:0<=a):VC prog 167 [rf B known self,pI a] (.bool (bF B known a)):=by
 have d:=au cj B.ents;refine vf 19 [.tmp 4] τok func167 ?_;refine af (λg=>?_) (λg=>?_)
 ·refine de a.toNat (nv b) ?_
  refine af (λc=>?_) (λc=>?_)
  all_goals exact⟨_,_,rfl,rfl,bT (by simp[bF,b,g,c])⟩
 ·exact⟨_,_,rfl,rfl,bT (by simp[bF,g])⟩
theorem PF{m:Nd}(hm:aG m=true):VC prog 121 [rf B known self,qu m] (.bool (bg B known self m)):=by
 have p:=au cj B.ents;have b:=dn hm;have d:=PE hk (self:=self) b.2.2.1;generalize a:bg B known self m=l;unfold bg at a;refine vf 72 [.tmp 4] τok func121 ?_;refine af (λe=>?_) (λe=>?_)
 ·rw[KX e]at a
  refine af (λg=>?_) (λg=>?_)
  all_goals exact⟨_,_,rfl,rfl,bT (by rw[<- a];simp[g])⟩
 rw[KY e]at a;refine af (λi=>?_) (λi=>?_)
 ·rw[KX i]at a
  refine af (λg=>?_) (λg=>?_)
  ·refine de m.a.toNat (nv b.2.2.1) ?_
   refine af (λc=>?_) (λc=>?_)
   all_goals exact⟨_,_,rfl,rfl,bT (by rw[<- a];simp[b.2.2.1,g,c])⟩
  ·exact⟨_,_,rfl,rfl,bT (by rw[<- a];simp[g])⟩
 rw[KY i]at a;refine af (λc=>?_) (λc=>?_)
 ·rw[KX c]at a
  refine af (λg=>?_) (λg=>?_)
  ·exact⟨_,_,rfl,rfl,bT (by rw[<- a];simp[g])⟩
  ·refine ae d ?_
   exact⟨_,_,rfl,rfl,bT (by rw[<- a];simp[g])⟩
 rw[KY c]at a;refine af (λj=>?_) (λj=>?_)
 ·rw[KX j]at a
  exact ae d<|⟨_,_,rfl,rfl,bT a⟩
 rw[KY j]at a;refine af (λk=>?_) (λk=>?_)
 ·rw[KX k]at a
  refine bV d (λf=>?_) (λf=>?_)
  ·have o:=f
   simp only[bF,Bool.and_eq_true,decide_eq_true_eq]at o;have eC:=au cd (aR B m.a).ctors;refine de m.a.toNat (nv b.2.2.1) ?_;refine af (λg=>?_) (λg=>?_)
   all_goals refine vk ?_
   all_goals exact⟨_,_,rfl,rfl,bT (by rw[<- a,f];rw[eC]at g;simp[g])⟩
  ·refine vk ?_
   exact⟨_,_,rfl,rfl,bT (by rw[<- a,f];rfl)⟩
 rw[KY k]at a;exact⟨_,_,rfl,rfl,bT a⟩
theorem BS{l:List Nd}(hl:l.length<=1000000000){below:Int}(hb:I64 below):VC prog 65 [rf B known self,ah l,pI below] (pI (cP B known self l below)):=by
 have j:=au ndP l;generalize a:cP B known self l below=b;unfold cP at a;refine vf 30 [.tmp 6] τok func65 ?_;refine ae (kT l hl) ?_;refine af (λg=>?_) (λg=>?_)
 ·rw[KX g]at a
  exact⟨_,_,rfl,rfl,KG (PV.int .i64) a⟩
 rw[KY g]at a;obtain⟨x,hx,rfl⟩:=vS (QY g);rw[jJ hx.ok]at a;refine bV (PD hx hb) (λf=>?_) (λf=>?_);rotate_left
 ·rw[KX f]at a
  exact⟨_,_,rfl,rfl,KG (PV.int .i64) a⟩
 rw[KY (by rw[f];decide)]at a;refine aB τok (σ:=Nat) [(3,_),(19,_),(20,_)] [(3,_)] (λi=>[(21,vI i)]) (λ_=>[]) (λi=>i<=(row x).length/\(if ((row x).drop i).any (λm=>!bg B known self m)=true then (8:Int)else 0)=b) (λi=>(row x).length-i) 0 ⟨KV _,a⟩ ?_
 clear a
 rintro i ⟨o,hr⟩;refine aj<|af (λd=>?_) (λd=>?_);rotate_left
 ·rw[JY Uo]at hr
  exact⟨_,_,rfl,rfl,KG (PV.int .i64) hr⟩
 obtain⟨m,c,e⟩:=ay (l:=row x) (k:=i);rw[e,List.any_cons]at hr;refine vm i c ?_;refine bV (PF hk (fD' x .tm hx.ok.1 m (JQ c))) (λf=>?_) (λf=>?_);rotate_left
 ·rw[KX (by rw[f];rfl)]at hr
  exact⟨_,_,rfl,rfl,KG (PV.int .i64) hr⟩
 rw[f,Bool.not_true,Bool.false_or]at hr;refine vi ?_;exact aw (i+1) ⟨by show i+1<=_;omega,hr⟩
theorem tG{ls:List (List Nd)}(hl:j9 ls){below step:Int}(hb:0<=below/\below<=1000000000)(s:0<=step/\step<=1):VC prog 114 [rf B known self,bD ls,pI below,pI step] (pI (bU B known self step ls below)):=by
 have u:=au (λt=>[ah t]) ls;have f:=hl.1;generalize a:bU B known self step ls below=b;refine vf 29 [.tmp 8] τok func114 ?_;refine aB τok (σ:=Nat×Int) [(3,_),(4,_),(12,_),(13,_)] [(4,_)] (λq=>[(2,vI q.2),(14,vI q.1)]) (λ_=>[]) (λq=>q.1<=ls.length/\below<=q.2/\q.2<=below+q.1/\bU B known self step (ls.drop q.1) q.2=b) (λq=>ls.length-q.1) (0,below) ⟨KV _,Int.le_refl _,Ud,a⟩ ?_
 clear a
 rintro⟨i,x⟩ ⟨j,c,d,hr⟩;simp only at j c d hr;refine aj<|af (λm=>?_) (λm=>?_);rotate_left
 ·rw[JY Uo]at hr
  exact⟨_,_,rfl,rfl,KG (PV.int .i64) hr⟩
 obtain⟨l,e,o⟩:=ay (l:=ls) (k:=i);rw[o]at hr;simp only[bU]at hr;have v:=hl.2 l (JQ e);refine vm (p:=λt=>[ah t]) i e ?_;refine ae (BS hk (l:=l) Uo (below:=x) ⟨Uo,Uo⟩) ?_;refine af (λg=>?_) (λg=>?_)
 ·rw[KX g]at hr
  exact⟨_,_,rfl,rfl,KG (PV.int .i64) hr⟩
 rw[KY g]at hr;refine vi ?_;refine vi ?_;exact aw (i+1,x+step) ⟨by show i+1<=_;omega,Us,Us,hr⟩
theorem PG{x:bY}(hX:sC x)(D:x.params.length<=16):VC prog 117 [rf B known self,.agg (cj x)] (pI (gO B known x x.ctors)):=by
 have o:=au (λt=>[ah t]) x.params;have E:=au (λt=>[ah t]) x.indices;have F:=au cd x.ctors;have p:=hX.c;generalize a:gO B known x x.ctors=e;refine vf 55 [.tmp 4] τok func117 ?_;refine aB τok (σ:=Nat) [(2,_),(3,_),(13,_),(14,_)] [(2,_),(3,_)] (λi=>[(15,vI i)]) (λ_=>[]) (λi=>i<=x.ctors.length/\gO B known x (x.ctors.drop i)=e) (λi=>x.ctors.length-i) 0 ⟨KV _,a⟩ ?_
 clear a
 rintro i ⟨I,hr⟩;refine aj<|af (λs=>?_) (λs=>?_);rotate_left
 ·rw[JY Uo]at hr
  exact⟨_,_,rfl,rfl,KG (PV.int .i64) hr⟩
 obtain⟨c,m,u⟩:=ay (l:=x.ctors) (k:=i);rw[u]at hr;simp only[gO]at hr;obtain⟨v,y⟩:=hX.a c (JQ m);have f1:=au (λt=>[ah t]) c.args;have f2:=au (λt=>[ah t]) c.out;refine gI i m ?_;refine af (λb=>?_) (λb=>?_)
 ·have b:((c.args.map λt=>[ah t]).length:Int)>16:=b
  rw[KX Uo]at hr;exact⟨_,_,rfl,rfl,KG (PV.int .i64) hr⟩
 have b:¬ ((c.args.map λt=>[ah t]).length:Int)>16:=b;rw[KY Uo]at hr;refine af (λd=>?_) (λd=>?_)
 ·have d:((c.out.map λt=>[ah t]).length:Int)≠((x.indices.map λt=>[ah t]).length:Int):=d
  rw[KX Uo]at hr;exact⟨_,_,rfl,rfl,KG (PV.int .i64) hr⟩
 have d:¬ ((c.out.map λt=>[ah t]).length:Int)≠((x.indices.map λt=>[ah t]).length:Int):=d;rw[KY Uo]at hr;have z:=tG hk (self:=known) v (below:=((x.params.map λt=>[ah t]).length:Int)) (step:=1) ⟨Uo,Uo⟩ ⟨UO,UO⟩;have A:=tG hk (self:=known) y (below:=((x.params.map λt=>[ah t]).length:Int)+((c.args.map λt=>[ah t]).length:Int)) (step:=0) ⟨Uo,Uo⟩ ⟨UO,UO⟩;refine ae z ?_;rw[<- o,<- f1]at hr;refine af (λf=>?_) (λf=>?_)
 ·rw[KX f]at hr
  exact⟨_,_,rfl,rfl,KG (PV.int .i64) hr⟩
 rw[KY f]at hr;refine vi ?_;refine ae A ?_;refine af (λj=>?_) (λj=>?_)
 ·rw[KX j]at hr
  exact⟨_,_,rfl,rfl,KG (PV.int .i64) hr⟩
 rw[KY j]at hr;refine vi ?_;exact aw (i+1) ⟨by show i+1<=_;omega,hr⟩
end
theorem PH{l:List Nd}(b:0<l.length):VC prog 112 [ah l] (pI (iE l)):=by
 obtain⟨m,a,_⟩:=ay (l:=l) (k:=0) b;unfold iE;rw[QK,a];refine vf 8 [.tmp 2] τok func112 ?_;refine vm 0 a ?_;refine af (λg=>?_) (λg=>?_)
 ·exact aE (h3:=by rw[show ((some m).getD ⟨0,0,0⟩)=m from rfl,KX g];rfl)
 ·exact aE (h3:=by rw[show ((some m).getD ⟨0,0,0⟩)=m from rfl,KY g];rfl)
def iZ':List Int ->Int
 |[]=>0
 |a::r=>bp a (iZ' r)
theorem rh{P:Program}{f:FuncId}{ps:List PV}{n:Int}(h:VC P f ps (pI n)){w:World}{C:Mem}{vs:List Value}(hS:Sub C w)(a:cZ C ps vs):dM P f/\Calls P f vs.toArray w (λe w'=>e= .returned (.int .i64 n)/\Kp [] w w'):=⟨h.1,(h.run.2 w C vs hS a).mono λe w' ⟨v,i,b,c,d⟩=>⟨by rw[b,gH c],d.kp⟩⟩
section
variable{C:Mem}{w:World}{B:ak}{known:Nat}{x:bY}
theorem PI{fs:List (Nat×Array Value)}{rs:List Int}(u:rs.length=fs.length)(E:fs.length<=100){b T:Nat}(hb:Bk w.heap b (fs.map λq=>.func (.func q.1) #[] q.2) T)
  (F:∀(i:Nat) q w',fs[i]?=some q ->Kp [] w w' ->(∀j,j<i ->rs.getD j 0=0) ->dM prog q.1/\Calls prog q.1 (#[]++ #[]++q.2) w' (λe v=>e= .returned (.int .i64 (rs.getD i 0))/\Kp [] w' v)):
  CC 109 #[.slice (some ⟨b,0,none⟩) fs.length fs.length] w (λe w'=>e= .returned (.int .i64 (iZ' rs))/\Kp [] w w'):=by
 refine oF func109 ?_;generalize d:iZ' rs=s;refine cO (args:=[_]) 18 [.tmp 2] τok func109 ?_;refine lp τok (σ:=Nat) (λi=>[(6,.slice (some ⟨b,0,none⟩) fs.length fs.length),(7,.int .i64 (fs.length:Int)),(8,.int .i64 (i:Int))])
  (λi w'=>i<=fs.length/\Kp [] w w'/\(∀j,j<i ->rs.getD j 0=0)/\iZ' (rs.drop i)=s) (λi=>fs.length-i) 0 rfl
  ⟨rfl,rfl,rfl,trivial⟩ ⟨KV _,Kp.refl _ _,λj I=>Uo,d⟩ ?_
 clear d
 rintro i y ⟨L,c,z,a⟩;refine dm (λg=>?_) (λg=>?_)
 ·have g:(i:Int)<(fs.length:Int):=g
  obtain⟨q,A,_⟩:=ay (l:=fs) (k:=i);obtain⟨r,hr,K⟩:=ay (l:=rs) (k:=i);rw[K]at a;have o:rs.getD i 0=r:=by rw[QK,hr];rfl
  have f:Cl y.heap b (0+i*1) (.func (.func q.1) #[] q.2):=(hb.kp c Ud).cl (by rw[Nat.mul_one,KW,JX,A];rfl);refine ix i rfl Uo<|ld (Cl.cell f) ?_;have D:=F i q y A c z;rw[o]at D;refine jg D ?_;rintro e v ⟨rfl,p⟩;simp only[iZ',bp]at a;refine dm (λm=>?_) (λm=>?_)
  ·have m:r≠0:=m
   rw[KX m]at a;subst a;exact⟨rfl,c.tr p⟩
  ·have m:¬ r≠0:=m
   rw[KY m]at a;exact i6<|⟨i+1,Uo,rfl,⟨rfl,rfl,rfl,trivial⟩,Uo,c.tr p,λj I=>by
    by_cases h:j=i
    ·subst h
     rw[o];omega
    ·exact z j Uo,a⟩
 ·have g:¬ (i:Int)<(fs.length:Int):=g
  rw[JY Uo]at a;simp only[iZ']at a;subst a;exact⟨rfl,c⟩
structure Bxq(C:Mem)(w:World)(B:ak)(known:Nat)(x:bY)(b2 b3:Nat)(us es:List Value):Prop where
 lk:Bk w.heap b2 us 110
 en:Bk w.heap b3 es 70
 u:cZ C (jK B++[pI known,pI (-1)]) us
 e:cZ C (cj x) es
 k:known<=B.ents.length
 sm:sC x
 lp:x.params.length<=16
theorem Bxq.kp{b2 b3:Nat}{us es:List Value}(h:Bxq C w B known x b2 b3 us es){w':World}(k:Kp [] w w'):Bxq C w' B known x b2 b3 us es:=⟨h.lk.kp k Ud,h.en.kp k Ud,h.u,h.e,h.k,h.sm,h.lp⟩
variable{b2 b3:Nat}{us es:List Value}(hS:Sub C w)(h:Bxq C w B known x b2 b3 us es)
include hS h
theorem IR':CC 110 #[pt b2,pt b3] w (λe w'=>e= .returned (.int .i64 (cP B known (-1) x.sort 0))/\Kp [] w w'):=by
 refine oF func110 ?_;have hx:=h.sm;have A:=hx.s;obtain⟨v,y,a,b,hk,_,_⟩:=h
 match us,es,a,b with
 |[f,i,k,m,o,p,s],[D,E,F,I,K,L,M],a,b=>
 have c:∀j u,[f,i,k,m,o,p,s][j]?=some u ->Cl w.heap b2 (0+j) u:=λj u z=>by rw[KW];exact v.cl z
 refine cO (args:=[_,_]) 7 [.tmp 2] τok func110 ?_;refine lz [f,i,k,m,o,p,s] rfl c<|lb y ?_;refine jg (rh (BS hk (l:=x.sort) Uo (below:=0) (by constructor<;>simp)) hS (bL (pe a) (bL (b.2 1 _ _ rfl rfl) (bL (.int _ _) iz)))) ?_;rintro e N ⟨rfl,d⟩;exact⟨rfl,d⟩
theorem PJ(d:0<x.sort.length):CC 111 #[pt b3] w (λe w'=>e= .returned (.int .i64 (iE x.sort))/\Kp [] w w'):=by
 refine oF func111 ?_;have hx:=h.sm;obtain⟨i,f,c,a,hk,_,_⟩:=h
 match us,es,c,a with
 |[j,k,l,m,o,p,s],[u,v,y,z,A,D,E],c,a=>
 refine cO (args:=[_]) 5 [.tmp 1] τok func111 ?_;refine lb f ?_;refine jg (rh (PH d) hS (bL (a.2 1 _ _ rfl rfl) iz)) ?_;rintro e F ⟨rfl,b⟩;exact⟨rfl,b⟩
theorem IT':CC 113 #[pt b2,pt b3] w (λe w'=>e= .returned (.int .i64 (bU B known (-1) 1 x.params 0))/\Kp [] w w'):=by
 refine oF func113 ?_;have hx:=h.sm;obtain⟨s,v,a,b,hk,_,_⟩:=h
 match us,es,a,b with
 |[f,i,k,l,m,o,p],[z,A,D,E,F,I,K],a,b=>
 have c:∀j u,[f,i,k,l,m,o,p][j]?=some u ->Cl w.heap b2 (0+j) u:=λj u y=>by rw[KW];exact s.cl y
 refine cO (args:=[_,_]) 7 [.tmp 2] τok func113 ?_;refine lz [f,i,k,l,m,o,p] rfl c<|lb v ?_;refine jg (rh (tG hk hx.p (below:=0) (step:=1) Uo Uo) hS (bL (pe a) (bL (b.2 2 _ _ rfl rfl) (bL (.int _ _) (bL (.int _ _) iz))))) ?_;rintro e L ⟨rfl,d⟩;exact⟨rfl,d⟩
theorem PK{f T:Nat}(v:Bk w.heap f [.int .i64 (x.params.length:Int)] T):CC 115 #[pt b2,pt b3,pt f] w (λe w'=>e= .returned (.int .i64 (bU B known (-1) 1 x.indices (x.params.length:Int)))/\Kp [] w w'):=by
 refine oF func115 ?_;have hx:=h.sm;have y:=h.lp;obtain⟨z,A,a,b,hk,_,_⟩:=h
 match us,es,a,b with
 |[i,k,l,m,o,p,s],[E,F,I,K,L,M,N],a,b=>
 have c:∀j u,[i,k,l,m,o,p,s][j]?=some u ->Cl w.heap b2 (0+j) u:=λj u D=>by rw[KW];exact z.cl D
 refine cO (args:=[_,_,_]) 9 [.tmp 3] τok func115 ?_;refine lz [i,k,l,m,o,p,s] rfl c<|lb A ?_;refine lb v ?_;refine jg (rh (tG hk hx.i (below:=(x.params.length:Int)) (step:=1) Uo Uo) hS (bL (pe a) (bL (b.2 3 _ _ rfl rfl) (bL (.int _ _) (bL (.int _ _) iz))))) ?_;rintro e O ⟨rfl,d⟩;exact⟨rfl,d⟩
theorem IV':CC 116 #[pt b2,pt b3] w (λe w'=>e= .returned (.int .i64 (gO B known x x.ctors))/\Kp [] w w'):=by
 refine oF func116 ?_;have hx:=h.sm;have a:=h.lp;obtain⟨v,y,b,c,hk,_,_⟩:=h
 match us,es,b,c with
 |[i,k,l,m,o,p,s],[z,A,D,E,F,I,K],b,c=>
 have d:∀j u,[i,k,l,m,o,p,s][j]?=some u ->Cl w.heap b2 (0+j) u:=λj u L=>by rw[KW];exact v.cl L
 refine cO (args:=[_,_]) 6 [.tmp 2] τok func116 ?_;refine lz [i,k,l,m,o,p,s] rfl d<|lz [z,A,D,E,F,I,K] rfl (bZ y)<|jg (rh (PG hk hx a) hS (bL (pe b) (bL (pe c) iz))) ?_;rintro e M ⟨rfl,f⟩;exact⟨rfl,f⟩
end
theorem ri{C:Mem}{l:List (List PV)}{v:Value}(h:RV C (.sl l) v):∃a c,v= .slice a l.length c:=by
 cases h with
 |nil a c=>exact⟨a,c,rfl⟩
 |sl l d b o c f=>exact⟨_,c,rfl⟩
section
variable{B:ak}{known:Nat}{x:bY}(hk:known<=B.ents.length)(hX:sC x)
include hk hX
theorem CA':VC prog 59 [rf B known (-1),.agg (cj x)] (pI (fR B known x)):=.of ⟨⟨_,func59,rfl,UO⟩,λw C vs hS hV=>by
 suffices H:Calls prog 59 vs.toArray w (λe W=>e= .returned (.int .i64 (fR B known x))/\Kp [] w W)from H.mono λe W ⟨e1,k⟩=>⟨_,C,e1,.int _ _,hS.tr k,λ_ _ _ h=>h,λb o v h=>.inl ⟨o,v,h⟩,k⟩
 obtain⟨lv,ev,rfl,g1,m⟩:=uZ hV;generalize c:fR B known x=M;unfold fR at c;cases g1 with|agg _ us ul uh=>
 cases m with|agg _ es el eh=>
 have hu:cZ C (jK B++[pI known,pI (-1)]) us:=⟨ul,uh⟩
 have p:cZ C (cj x) es:=⟨el,eh⟩
 clear ul uh el eh
 match us,es,hu,p with
 |[u0,u1,u2,u3,u4,u5,u6],[e0,e1,e2,e3,e4,e5,e6],hu,p=>
 obtain rfl:=gH (p.2 0 _ _ rfl rfl);obtain⟨Y,Z,r1⟩:=ri (p.2 1 _ _ rfl rfl);obtain⟨ap,cp,r2⟩:=ri (p.2 2 _ _ rfl rfl);obtain⟨ai,ci,r3⟩:=ri (p.2 3 _ _ rfl rfl);obtain⟨ac,cc,r4⟩:=ri (p.2 4 _ _ rfl rfl);obtain⟨s,A,r5⟩:=ri (p.2 5 _ _ rfl rfl);obtain⟨ab,cb,r6⟩:=ri (p.2 6 _ _ rfl rfl);rw[KF]at r1 r2 r3 r4 r5 r6;subst r1 r2 r3 r4 r5 r6;have l1:=hX.s;have l2:=hX.p.1;have l3:=hX.i.1;have l4:=hX.c;have l5:=hX.t;have l6:=hX.b;refine cO (args:=[_,_]) 69 [.tmp 4] τok func59 ?_;refine jC λb2 w1 b0 X b1 a5=>?_;have X:Bk w1.heap b2 [u0,u1,u2,u3,u4,u5,u6] 110:=X;refine jC λb3 w2 b4 f b7 a0=>?_;have f:Bk w2.heap b3 [.int .i64 x.kind,.slice Y x.sort.length Z,.slice ap x.params.length cp,.slice ai x.indices.length ci,.slice ac x.ctors.length cc,.slice s x.type.length A,.slice ab x.body.length cb] 70:=f;have X:=X.kp a0 Ud;have d:=a5.tr a0;refine lb f ?_;refine dm (λN=>?_) (λN=>?_)
 ·have N:x.kind=1:=N
  rw[KX N]at c;refine lb f ?_;refine lb f ?_;refine i6 ?_;refine dm (λm=>?_) (λm=>?_)
  ·have m:(0:Int)<(x.type.length:Int)+(x.body.length:Int):=m
   rw[KX Uo]at c;subst c;exact⟨rfl,d⟩
  have m:¬ (0:Int)<(x.type.length:Int)+(x.body.length:Int):=m;rw[KY Uo]at c;have O:∀{W},Kp [] w W ->M=5 ->Ending.returned (Go.Wx.one [.int .i64 5])= .returned (.int .i64 M)/\Kp [] w W:=λk h=>by subst h;exact⟨rfl,k⟩
  refine lb f ?_;refine dm (λD=>?_) (λD=>?_)
  ·have D:(16:Int)<(x.params.length:Int):=D
   rw[KX (.inl Uo)]at c;exact O d c.symm
  have D:¬ (16:Int)<(x.params.length:Int):=D;refine lb f ?_;refine dm (λg4=>?_) (λg4=>?_)
  ·have g4:(16:Int)<(x.indices.length:Int):=g4
   rw[KX (.inr (.inl Uo))]at c;exact O d c.symm
  have g4:¬ (16:Int)<(x.indices.length:Int):=g4;refine lb f ?_;refine dm (λg5=>?_) (λg5=>?_)
  ·have g5:(16:Int)<(x.ctors.length:Int):=g5
   rw[KX (.inr (.inr Uo))]at c;exact O d c.symm
  have g5:¬ (16:Int)<(x.ctors.length:Int):=g5;rw[KY Uo]at c;refine lb f ?_;refine jC λL w3 a1 K a6 P=>?_;refine st (b:=L) (o:=0) K Ud rfl λw4 K b8 S=>?_;have K:Bk w4.heap L [.int .i64 (x.params.length:Int)] 3:=K;have a7:=P.newSt a1 S;refine fill [.func (.func 110) #[] #[pt b2,pt b3],.func (.func 111) #[] #[pt b3],.func (.func 113) #[] #[pt b2,pt b3],.func (.func 115) #[] #[pt b2,pt b3,pt L],.func (.func 116) #[] #[pt b2,pt b3]] rfl<|jC λb6 w5 b9 h6 b' a2=>?_;have T:=a7.tr a2;have a3:=d.tr T;have K:=K.kp a2 Ud;have a8:Bxq C w5 B known x b2 b3 [u0,u1,u2,u3,u4,u5,u6] [.int .i64 x.kind,.slice Y x.sort.length Z,.slice ap x.params.length cp,.slice ai x.indices.length ci,.slice ac x.ctors.length cc,.slice s x.type.length A,.slice ab x.body.length cb]:=⟨X.kp T Ud,f.kp T Ud,hu,p,hk,hX,Uo⟩
  have a9:=PI (w:=w5) (fs:=[(110,#[pt b2,pt b3]),(111,#[pt b3]),(113,#[pt b2,pt b3]),(115,#[pt b2,pt b3,pt L]),(116,#[pt b2,pt b3])])
   (rs:=[cP B known (-1) x.sort 0,iE x.sort,bU B known (-1) 1 x.params 0,bU B known (-1) 1 x.indices (x.params.length:Int),gO B known x x.ctors]) rfl Ud h6 (λi q W hq U hz=>by
    have E:=(hS.tr a3).tr U;have F:=a8.kp U
    match i,hq with
    |0,rfl=>exact IR' E F
    |1,rfl=>
     refine PJ E F ?_;rw[(vQ Uo (hz 0 Uo)).1];exact aZ _
    |2,rfl=>exact IT' E F
    |3,rfl=>exact PK E F (K.kp U Ud)
    |4,rfl=>exact IV' E F)
  refine jg a9 ?_;rintro e w6 ⟨rfl,a'⟩;have:iZ' [cP B known (-1) x.sort 0,iE x.sort,bU B known (-1) 1 x.params 0,bU B known (-1) 1 x.indices (x.params.length:Int),gO B known x x.ctors]=M:=by
   rw[<- c];have e:∀a,bp a 0=a:=λa=>by unfold bp;split<;>omega
   simp only[iZ',e]
  rw[this];exact⟨rfl,a3.tr a'⟩
 have N:¬ x.kind=1:=N;rw[KY N]at c;refine dm (λm=>?_) (λm=>?_)
 ·have m:x.kind=2:=m
  rw[KX m]at c;refine lb f ?_;refine lb f ?_;refine i6 ?_;refine lb f ?_;refine i6 ?_;refine lb f ?_;refine i6 ?_;refine dm (λD=>?_) (λD=>?_)
  ·have D:(0:Int)<(x.sort.length:Int)+(x.params.length:Int)+(x.indices.length:Int)+(x.ctors.length:Int):=D
   rw[KX Uo]at c;subst c;exact⟨rfl,d⟩
  have D:¬ (0:Int)<(x.sort.length:Int)+(x.params.length:Int)+(x.indices.length:Int)+(x.ctors.length:Int):=D;rw[KY Uo]at c;refine lz [u0,u1,u2,u3,u4,u5,u6] rfl (bZ X)<|lb f ?_;refine lb f ?_;refine fill [.slice s x.type.length A,.slice ab x.body.length cb] rfl<|jC λL w3 a1 K a6 P=>?_;have a4:=d.tr P;have I:∀j u,[Value.slice s x.type.length A,.slice ab x.body.length cb][j]?=some u ->Cn C w w3 L (0+j) u:=λj u hj=>by
   refine .inr ⟨by have:=d.size;omega,?_⟩;rw[KW];exact K.cu hj
  have V:RV (Cn C w w3) (bD [x.type,x.body]) (.slice (some ⟨L,0,none⟩) 2 2):=by
   refine .sl _ 1 L 0 2 (λi _=>[Value.slice s x.type.length A,.slice ab x.body.length cb].getD i undef) (λy hy=>by simp[bD]at hy;rcases hy with rfl|rfl<;>rfl) (KJ 2) (λi j y z hy hz=>?_) λi j y z hy hz=>?_
   all_goals match i,j,hy,hz with
    |0,0,rfl,rfl=>first|exact I 0 _ rfl|exact(p.2 5 _ _ rfl rfl).mono λ_ _ _ h=>.inl h
    |1,0,rfl,rfl=>first|exact I 1 _ rfl|exact(p.2 6 _ _ rfl rfl).mono λ_ _ _ h=>.inl h
  refine jg (rh (tG (B:=B) hk (ls:=[x.type,x.body]) (self:=-1) (below:=0) (step:=0) ⟨Ud,λl hl=>by simp at hl;rcases hl with rfl|rfl;exact hX.t;exact hX.b⟩ Uo Uo) (Cn.sub hS a4) (bL ((pe hu).mono λ_ _ _ h=>.inl h) (bL V (bL (.int _ _) (bL (.int _ _) iz))))) ?_;rintro e w4 ⟨rfl,S⟩;subst c;exact⟨rfl,a4.tr S⟩
 have m:¬ x.kind=2:=m;rw[KY m]at c;subst c;exact⟨rfl,d⟩⟩
end
section
variable{B:ak}(hB:dG B)
include hB
theorem wh':VC prog 27 [bw B] (pI (cT B)):=by
 have p:=au cj B.ents;have e:=hB.e;generalize a:cT B=c;unfold cT at a;refine vf 39 [.tmp 2] τok func27 ?_;refine ae NJ ?_;refine af (λg=>?_) (λg=>?_)
 ·rw[KX g]at a
  exact⟨_,_,rfl,rfl,KG (PV.int .i64) a⟩
 rw[KY g]at a;refine af (λj=>?_) (λj=>?_)
 ·rw[KX Uo]at a
  exact⟨_,_,rfl,rfl,KG (PV.int .i64) a⟩
 rw[KY Uo]at a;refine aB τok (σ:=Nat) [(1,_),(20,_),(21,_)] [(1,_)] (λi=>[(22,vI i)]) (λ_=>[]) (λi=>i<=B.ents.length/\bp (kZ B (B.ents.drop i) i) (if iF B=true then 0 else 22)=c) (λi=>B.ents.length-i) 0 ⟨KV _,a⟩ ?_
 clear a
 rintro i ⟨s,b⟩;refine aj<|af (λm=>?_) (λm=>?_);rotate_left
 ·rw[JY Uo]at b
  have b:(if iF B=true then 0 else 22)=c:=b;refine bV (PC hB) (λf=>?_) (λf=>?_)
  ·rw[KX f]at b
   exact⟨_,_,rfl,rfl,KG (PV.int .i64) b⟩
  ·rw[KY (by rw[f];decide)]at b
   exact⟨_,_,rfl,rfl,KG (PV.int .i64) b⟩
 obtain⟨x,hx,o⟩:=ay (l:=B.ents) (k:=i);rw[o]at b;have b:bp (bp (fR B i x) (kZ B (B.ents.drop (i+1)) (i+1))) _=c:=b;rw[nw]at b;refine de i hx ?_;refine ae (CA' (known:=i) Uo (hB.x x (JQ hx))) ?_;refine af (λd=>?_) (λd=>?_)
 ·rw[mg d]at b
  exact⟨_,_,rfl,rfl,KG (PV.int .i64) b⟩
 rw[kk d]at b;refine vi ?_;exact aw (i+1) ⟨by show i+1<=_;omega,b⟩
theorem tH{t:List Nd}(ht:t.length<=1000000000){below:Int}(hb:I64 below):VC prog 33 [bw B,pI below,ah t] (pI (gy B below t)):=by
 generalize a:gy B below t=c;unfold gy at a;refine vf 23 [.tmp 6] τok func33 ?_;refine ae (wh' hB) ?_;refine af (λg=>?_) (λg=>?_)
 ·rw[KX g]at a
  exact⟨_,_,rfl,rfl,KG (PV.int .i64) a⟩
 rw[KY g]at a;refine af (λb=>?_) (λb=>?_)
 ·rw[KX b]at a
  exact⟨_,_,rfl,rfl,KG (PV.int .i64) a⟩
 rw[KY b]at a;have h:=BS (B:=B) (known:=B.ents.length) (KJ _) (self:=-1) ht hb;rw[a,show ((B.ents.length:Nat):Int)=((B.ents.map cj).length:Int) by rw[au]]at h;refine ae h ?_;exact aE
theorem PL{c:List (List Nd×List Nd)}{t:List Nd}(hc:c.length<=1000000)(j:∀q∈c,q.1.length<=1000000000/\q.2.length<=1000000000)(ht:t.length<=1000000000):VC prog 19 [bw B,aH c,ah t] (pI (dX B c t)):=by
 have eC:=au bdP c;generalize a:dX B c t=d;unfold dX at a;refine vf 53 [.tmp 6] τok func19 ?_;refine ae (wh' hB) ?_;refine af (λg=>?_) (λg=>?_)
 ·rw[KX g]at a
  exact⟨_,_,rfl,rfl,KG (PV.int .i64) a⟩
 rw[KY g]at a;refine af (λm=>?_) (λm=>?_)
 ·rw[KX Uo]at a
  exact⟨_,_,rfl,rfl,KG (PV.int .i64) a⟩
 rw[KY Uo]at a;refine aB τok (σ:=Nat) [(1,_),(2,_),(3,_),(20,_),(21,_)] [(3,_)] (λi=>[(22,vI i)]) (λ_=>[]) (λi=>i<=c.length/\bp (jd B (c.drop i) i) (gy B c.length t)=d) (λi=>c.length-i) 0 ⟨KV _,a⟩ ?_
 clear a
 rintro i ⟨y,b⟩;refine aj<|af (λo=>?_) (λo=>?_);rotate_left
 ·rw[JY Uo]at b
  have b:gy B c.length t=d:=b;have h:=tH hB ht (below:=((c.map bdP).length:Int)) (by unfold I64;omega);rw[eC,b]at h;refine ae (show VC _ _ [bw B,pI ((c.map bdP).length:Int),ah t] _ by rw[eC];exact h) ?_;exact aE
 obtain⟨q,hx,s⟩:=ay (l:=c) (k:=i);rw[s]at b;have b:bp (bp (gy B i q.1) (if q.2.length=0 then jd B (c.drop (i+1)) (i+1)else bp (gy B i q.2) (jd B (c.drop (i+1)) (i+1)))) _=d:=b;rw[nw]at b;obtain⟨q1,u⟩:=j q (JQ hx);have z:=au ndP q.2;refine vm (p:=bdP) i hx ?_;refine ae (tH hB q1 (below:=(i:Int)) (by unfold I64;omega)) ?_;refine af (λe=>?_) (λe=>?_)
 ·rw[mg e]at b
  exact⟨_,_,rfl,rfl,KG (PV.int .i64) b⟩
 rw[kk e]at b;refine af (λv=>?_) (λv=>?_)
 ·rw[KX Uo]at b
  refine vi ?_;exact aw (i+1) ⟨by show i+1<=_;omega,b⟩
 rw[KY Uo]at b;refine ae (tH hB u (below:=(i:Int)) (by unfold I64;omega)) ?_;refine af (λf=>?_) (λf=>?_)
 ·rw[nw,mg f]at b
  exact⟨_,_,rfl,rfl,KG (PV.int .i64) b⟩
 rw[nw,kk f]at b;refine vi ?_;exact aw (i+1) ⟨by show i+1<=_;omega,b⟩
end
theorem wi':VD prog 42 .returning [0,1] [] []:=by
 refine vh ⟨_,func42,rfl,UO⟩ λj d w=>?_;obtain⟨v0,k,rfl⟩:=uX d;refine callsD_of_wpS func42 rfl λa l b=>?_;apply wpS_seq;apply wpS_region;simp[wpOpsS,go_sem,recoverD,b,Exit.thenS,Instr.typeAssert,underlying89,Tryz.zeroValue89];refine wpS_of_wp (Go.wp_mono (mC τok (n:=12) _ ⟨[(3,.bool false)],[]⟩ _ (λe s c=>e= .normal/\s.d=[]/\Kp [] w c) ?_ _ (lH Ud rfl Ud)) ?_)
 ·exact⟨rfl,rfl,Kp.alloc _ _⟩
 rintro e m c ⟨s,f,rfl,i,hk⟩;exact qm f i rfl b ⟨⟨_,rfl⟩,rfl,hk⟩
def BU(x y:PV):List (Nat×SE):=[(0,.st 1 3 [.p x]),(1,.st 2 35 [.p y])]
theorem PM(er:Int){x y:PV}:VD prog 42 (.panicking (tF er)) [0,1] (BU x y) (BU (pI 0) (pI er)):=by
 refine⟨⟨_,func42,rfl,UO⟩,λw X C ρ hR=>?_⟩;refine callsD_of_wpS func42 rfl λb j c=>?_;apply wpS_seq;apply wpS_region;simp[wpOpsS,go_sem,recoverD,c,Exit.thenS,Instr.typeAssert,underlying89,Tryz.zeroValue89];refine wpS_of_wp (Go.wp_mono (vj (n:=12) (m2:=BU (pI 0) (pI er)) (q:=2) (p:=3) (k:=2) hR (aj ?_) (lH Ud rfl (by simp[ini]))) ?_)
 ·refine vk ?_
  exact⟨rfl,rfl,rfl,trivial⟩
 rintro e l m ⟨rfl,s,d,f,i,a,hk⟩;exact uH d f rfl ⟨⟨_,rfl⟩,rfl,i,a,hk⟩
abbrev mK':PV:=.raw (.slice none 0 0)
def keC(g:Nat)(en k:Int)(y:PV):List (Nat×SE):=[(100,.st g 3 [.p (pI en)]),(101,.st (g+1) 3 [.p (pI k)]),(102,.st (g+2) 40 [.p y])]
def keP(r:Except Int (List Bool×Nat)):PV:=match r with
 | .ok q=>.tup [rb q.1,pI q.2,pI 0]
 | .error e=>.tup [.sl [],pI 0,pI e]
def HF(B:ak)(en k fuel:Int):Except Int (List Bool×Nat):=if cT B≠0 then .error (cT B)else if bF B B.ents.length en=true/\0<=k/\k<(aR B en).ctors.length then pD B en k (bA fuel)else .error 1
def lu(B:ak):Nat ->Ctx ->Tr ->Nat ->RS Bool
 |0,_,_,n=>.error (5,n)
 |g+1,cx,x,n=>aY (gf B cx x n) λz n=>if z.n.op≠4 then .ok (decide (z.n.op=2),n)else lu B g (cx++[(kidD z 0,none)]) (kidD z 1) n
def jU(B:ak)(cx:Ctx)(x:Tr)(n:Nat):RS Bool:=aY (lu B 300 cx x n) λb n=>if b=true then .ok (true,n)else aY (fD B (lj B GJ) cx x n) λq n=>.ok (decide (q.1=0),n)
theorem xa(B:ak):∀(g:Nat) (cx:Ctx) (x:Tr) (n:Nat),dR (lu B g cx x n)=jf B g cx x n
 |0,_,_,_=>rfl
 |g+1,cx,x,n=>by simp only[lu,jf,kr,ik,mn,mp,xa B g]
theorem BV{B:ak}(cx:Ctx)(x:Tr){n:Nat}(b:n<=100000):dR (jU B cx x n)=lq B cx x n:=by
 unfold jU lq;simp only[kr,xa,mn,mp,io (dt' (B:=B) GJ)];refine Pu rfl λq a=>?_;have:=(mG' _ _ _ _ _ a).2;unfold pC nD;rw[BO Uo]
theorem PN{B:ak}{g:Nat}{cx:Ctx}{x:Tr}{n:Nat}{q:Bool×Nat}(h:lu B g cx x n= .ok q):q.2<=n:=(mG' _ _ _ _ _ (eb (xa B g cx x n) h)).2
def HG(r:RS Bool):Bool:=match r with
 | .ok q=>q.1
 | .error _=>true
section
variable{B:ak}(hS:dG B)(hR:cT B=0)(hB:GoodB B)
include hS hR hB
theorem wj':∀(g:Nat) {cx:Ctx} (j:262<=g+cx.length) (hcx:CxOk B cx) (hcl:cx.length<=260) {x:Tr} (hx:Ft (QB B) (cx.length:Int) x) {n:Nat} (k:n<=100000),VP prog 90 103 (cC B n 0) (dS B (lu B g cx x n)) [aH (cx.map aA),ah (row x)] (BA (lu B g cx x n))
 |0,cx,j,_,hcl,_,_,_,_=>Uo
 |g+1,cx,j,hcx,hcl,x,hx,n,k=>by
  have hW:=qW hS hB hcx hcl hx k;have l:=ik (B:=B) (cx:=cx) x n;generalize a:lu B (g+1) cx x n=c;simp only[lu]at a;refine aP (r:=.ok (_,_)) 40 [.tmp 6] τok func90 ?_;refine aj ?_;cases i:gf B cx x n with
  |error e=>
   have p:=ki (dL l i);rw[i]at hW a;obtain rfl:.error e=c:=a;refine ax hW ?_;exact vE p<|eP9
  |ok q=>
   obtain⟨z,m⟩:=q;obtain⟨o,s,d⟩:=jb hB hcx hx (eb l i);simp only at s d;have f:=aC d;rw[i]at hW a;have a:(if z.n.op≠4 then .ok (decide (z.n.op=2),m)else lu B g (cx++[(kidD z 0,none)]) (kidD z 1) m)=c:=a;refine ax hW ?_;refine v0<|aI 0 (aL f) ?_;refine af (λb=>?_) (λb=>?_)
   ·have b:z.n.op≠4:=b
    rw[KX b]at a;subst a;refine aI 0 (aL f) ?_;refine af (λh=>?_) (λh=>?_)
    ·have h:z.n.op=2:=h
     exact⟨_,_,_,rfl,rfl,bT (KU h).symm,rfl,rfl⟩
    ·have h:¬ z.n.op=2:=h
     exact⟨_,_,_,rfl,rfl,bT (KH h).symm,rfl,rfl⟩
   have b:¬ z.n.op≠4:=b;rw[KY b]at a;obtain⟨y,u,v⟩:=dq d (.inl (Decidable.not_not.1 b));have ih:=wj' g (cx:=cx++[(kidD z 0,none)]) Uk (hcx.snoc u Ud) Uk (by rw[bB];exact v.mono Uo) (show m<=100000 by omega);rw[a]at ih;refine ae (iH f) ?_;refine az 0 (aF f) ?_;refine ae (ln (cx:=cx) (kidD z 0) none Uo) ?_;refine az 1 (aF f) ?_;rcases c with e|q
   all_goals
    refine ax ih ?_;exact kP9
theorem PO{cx:Ctx}(hcx:CxOk B cx)(hcl:cx.length<=260){x:Tr}(hx:Ft (QB B) (cx.length:Int) x){n:Nat}(l:n<=100000):VP prog 52 103 (cC B n 0) (dS B (jU B cx x n)) [aH (cx.map aA),ah (row x)] (.bool (HG (jU B cx x n))):=by
 have d:=wj' hS hR hB 300 (cx:=cx) Uo hcx hcl hx l;generalize a:jU B cx x n=c;unfold jU at a;refine aP (r:=.ok (_,_)) 34 [.tmp 6] τok func52 ?_;refine aj<|v0 ?_;cases f:lu B 300 cx x n with
 |error e=>
  have i:=vX' _ _ _ _ _ (dL (xa B 300 cx x n) f);rw[f]at d a;obtain rfl:.error e=c:=a;refine ax d ?_;refine ax (BC e.2 i _ _) ?_;exact vE i<|eP9
 |ok q=>
  have hle:=PN f;obtain⟨b,m⟩:=q;rw[f]at d a;have a:(if b=true then .ok (true,m)else aY (fD B (lj B GJ) cx x m) λq n=>.ok (decide (q.1=0),n))=c:=a;refine ax d ?_;cases b with
  |true=>
   rw[KX rfl]at a;subst a;exact eP9
  |false=>
   rw[KY UO]at a;have j:=pA hS hB (dt' (B:=B) GJ) (eN hB GJ) hcx hcl hx (n:=m) (by simp only at hle;omega) (HA hS hR hB hcx hcl hx (by simp only at hle;omega));have o:=io (B:=B) (dt' (B:=B) GJ) (cx:=cx) x m;cases k:fD B (lj B GJ) cx x m with
   |error e=>
    have i:=jc (eN hB GJ) (dL o k);rw[k]at j a;obtain rfl:.error e=c:=a;refine ax j ?_;exact vE i<|eP9
   |ok q=>
    rw[k]at j a;obtain rfl:.ok (decide (q.1.1=0),q.2)=c:=a;refine ax j ?_;refine v0<|af (λh=>?_) (λh=>?_)
    ·have h:q.1.1=0:=h
     exact⟨_,_,_,rfl,rfl,bT (KU h).symm,rfl,rfl⟩
    ·have h:¬ q.1.1=0:=h
     exact⟨_,_,_,rfl,rfl,bT (KH h).symm,rfl,rfl⟩
end
def HH(B:ak):Ctx ->List Tr ->RS Unit ->RS Unit×List Bool
 |_,[],r=>(r,[])
 |cx,a::t,r=>((HH B (cx++[(a,none)]) t (Hz (aY r λ_ n=>jU B cx a n))).1,(!(HG (aY r λ_ n=>jU B cx a n)))::(HH B (cx++[(a,none)]) t (Hz (aY r λ_ n=>jU B cx a n))).2)
theorem BW{a b:List Nd}(ha:a.length<=1000000000)(hb:b.length<=1000000000):VC prog 9 [ah a,ah b] (.bool (decide (a=b))):=by
 have o:=au ndP a;have s:=au ndP b;have j:a≠b ->PV.bool false= .bool (decide (a=b)):=λh=>by rw[KH h]
 refine vf 26 [.tmp 4] τok func9 ?_;refine af (λg=>?_) (λg=>?_)
 ·exact⟨_,_,rfl,rfl,j λh=>by subst h;omega⟩
 refine vl τok (σ:=Nat) [(0,_),(1,_)] (λi=>[(5,vI i)]) (λi=>i<=a.length/\a.take i=b.take i) (λi=>a.length-i) 0 ⟨KV _,Ud⟩ ?_;rintro i ⟨u,d⟩;refine af (λg=>?_) (λg=>?_)
 ·obtain⟨p,f,v⟩:=ay (l:=a) (k:=i)
  obtain⟨q,c,m⟩:=ay (l:=b) (k:=i);refine vm i f ?_;refine vm i c ?_;refine sO ?_
  by_cases h:p=q
  ·rw[KU h]
   refine vk ?_;refine vi ?_;exact aw (i+1) ⟨Uo,by rw[QQ,QQ,d,f,c,h]⟩
  ·rw[KH h]
   exact vk ⟨_,_,rfl,rfl,j λe=>h (by subst e;rw[f]at c;exact JB c)⟩
 ·exact aE (h3:=by
   rw[JG Uo,JG Uo]at d;rw[KU d]
   rfl)
theorem tI{op a b:Int}{L:List (List Nd)}(hl:L.length<=1000)(h1:L.flatten.length<=1000000):VO prog 54 [pI op,pI a,pI b,.sl (L.map rP)] 46 3 ((⟨op,a,b⟩::L.flatten).map ndP):=by
 have e:=au rP L;refine mS 29 [.tmp 8] τok func54 ?_;refine aD<|aD<|aD<|aB τok (σ:=Nat) [(3,_)] [] (λi=>[(10,vI i),(9,.c (.row 15))]) (λi=>[(15,.rw 46 3 ((⟨op,a,b⟩::(L.take i).flatten).map ndP))]) (λi=>i<=L.length) (λi=>L.length-i) 0 (KV _) ?_;intro i j;have m:=jo L i;refine aj<|af (λg=>?_) (λg=>?_)
 ·have g:(i:Int)<((L.map rP).length:Int):=g
  obtain⟨x,hx,_⟩:=ay (l:=L) (k:=i);have o:=pg hx;have d:=jo L (i+1);refine az i hx ?_;refine va ?_ (fM x) (hb:=by simp only[KF,JV];omega);refine vi ?_;exact aw (i+1) (show i+1<=_ by omega) (f:=λk=>sw 15 27 k) (y':=⟨KG (λl=>some (SE.rw _ _ l)) (by show _++_=(⟨op,a,b⟩::(L.take (i+1)).flatten).map ndP;rw[QQ,hx];simp),trivial⟩)
 have g:¬ (i:Int)<((L.map rP).length:Int):=g;obtain rfl:i=L.length:=Uo
 rw[List.take_length];exact aj<|⟨15,rfl,rfl⟩
abbrev RcR:=Ctx ->Tr ->RS Unit ->RS Unit×List Nd
def dT(rc:RcR)(cx:Ctx):List Tr ->RS Unit ->RS Unit×List Nd
 |[],r=>(r,[])
 |y::l,r=>((dT rc cx l (rc cx y r).1).1,(rc cx y r).2++(dT rc cx l (rc cx y r).1).2)
def tJ(B:ak)(rc:RcR)(cx:Ctx)(x:Tr)(r:RS Unit):RS Unit×List Nd:=
 if x.n.op=1 then (r,[⟨21,x.n.a,0⟩])
 else if x.n.op=8 then (r,[⟨26,x.n.a,0⟩])
 else if x.n.op=10 then (r,[⟨27,x.n.a,x.n.b⟩])
 else if x.n.op=5 then ((rc (cx++[(kidD x 0,none)]) (kidD x 1) r).1,⟨23,0,0⟩::(rc (cx++[(kidD x 0,none)]) (kidD x 1) r).2)
 else if x.n.op=6 then ((rc cx (kidD x 1) (rc cx (kidD x 0) r).1).1,⟨24,0,0⟩::((rc cx (kidD x 0) r).2++(rc cx (kidD x 1) (rc cx (kidD x 0) r).1).2))
 else if x.n.op=7 then ((rc (cx++[(kidD x 0,some (kidD x 1))]) (kidD x 2) (rc cx (kidD x 1) r).1).1,⟨25,0,0⟩::((rc cx (kidD x 1) r).2++(rc (cx++[(kidD x 0,some (kidD x 1))]) (kidD x 2) (rc cx (kidD x 1) r).1).2))
 else if x.n.op=11 then
  if (tr (aR B x.n.a).sort).n.a=0 then
   if x.n.b=0 then (r,boxR)else ((rc cx (kidD x 2) r).1,bS' (cS B x.n.a 0).args.length (rc cx (kidD x 2) r).2)
  else ((dT rc cx ((kidsT x).drop 1) r).1,⟨28,x.n.a,x.n.b⟩::(dT rc cx ((kidsT x).drop 1) r).2)
 else if x.n.op=12 then ((dT rc (cx++aQ x) (bodiesT x) r).1,⟨29,x.n.a,x.n.b⟩::(dT rc (cx++aQ x) (bodiesT x) r).2)
 else (r,boxR)
def ms(B:ak)(rc:RcR):RcR:=λcx x r=>match r with
 | .error e=>(.error e,boxR)
 | .ok q=>match aY (lj B GJ cx x q.2) λt n=>jU B cx t n with
  | .error e=>(.error e,boxR)
  | .ok p=>if p.1=true then (.ok ((),p.2),boxR)else tJ B rc cx x (.ok ((),p.2))
def ee(B:ak):Nat ->RcR
 |0=>λ_ _ r=>match r with
  | .error e=>(.error e,boxR)
  | .ok q=>(.error (5,q.2),boxR)
 |g+1=>ms B (ee B g)
theorem HI{B:ak}(g:Nat)(cx:Ctx)(x:Tr)(e:Int×Nat):ee B g cx x (.error e)=(.error e,boxR):=by cases g<;>rfl
theorem HJ{B:ak}(g:Nat)(cx:Ctx):∀(l:List Tr) (e:Int×Nat),(dT (ee B g) cx l (.error e)).1= .error e
 |[],_=>rfl
 |y::l,e=>by
  simp only[dT,HI];exact HJ g cx l e
def pF(j:Except Int (List Nd×Nat))(r:RS Unit×List Nd):Prop:=match j with
 | .ok q=>r=(.ok ((),q.2),q.1)
 | .error e=>∃F,r.1= .error (e,F)
section
variable{B:ak}{g:Nat}(hB:GoodB B)(ih:∀cx x n,n<=100000 ->pF (cX B g cx x n) (ee B g cx x (.ok ((),n))))(hle:∀cx x n q,cX B g cx x n= .ok q ->q.2<=n)
include hB ih hle
theorem HK(cx:Ctx):∀(l:List Tr) (n:Nat),n<=100000 ->match listE (cX B g) cx l n with
  | .ok q=>dT (ee B g) cx l (.ok ((),n))=(.ok ((),q.2),q.1.flatten)
  | .error e=>∃F,(dT (ee B g) cx l (.ok ((),n))).1= .error (e,F)
 |[],n,_=>rfl
 |y::l,n,c=>by
  have h:=ih cx y n c;simp only[listE,dT];cases b:cX B g cx y n with
  |error e=>
   rw[b]at h;obtain⟨F,h⟩:=h;rw[h];exact⟨F,HJ g cx l _⟩
  |ok q=>
   rw[b]at h;have h:ee B g cx y (.ok ((),n))=(.ok ((),q.2),q.1):=h;rw[h];have d:=hle _ _ _ _ b;have a:=HK cx l q.2 Uo;simp only[aJ];cases hk:listE (cX B g) cx l q.2 with
   |error e=>
    rw[hk]at a;exact a
   |ok p=>
    rw[hk]at a;have a:dT (ee B g) cx l (.ok ((),q.2))=(.ok ((),p.2),p.1.flatten):=a;rw[a];simp
theorem PP(cx:Ctx)(x:Tr)(n:Nat)(j:n<=100000):pF (lr B (cX B g) cx x n) (tJ B (ee B g) cx x (.ok ((),n))):=by
 have one:∀(c:Ctx) (y:Tr) (m:Nat) (k:m<=100000) (f:List Nd ->List Nd),pF (aJ (cX B g c y m) λr n=>.ok (f r,n)) ((ee B g c y (.ok ((),m))).1,f (ee B g c y (.ok ((),m))).2):=λc y m k f=>by
  have h:=ih c y m k;cases a:cX B g c y m with
  |error e=>
   rw[a]at h;exact h
  |ok q=>
   rw[a]at h;have h:ee B g c y (.ok ((),m))=(.ok ((),q.2),q.1):=h;rw[h]
   rfl
 have i:∀(c d:Ctx) (y z:Tr) (o:Nd),pF (aJ (cX B g c y n) λr n=>aJ (cX B g d z n) λs n=>.ok (o::(r++s),n)) ((ee B g d z (ee B g c y (.ok ((),n))).1).1,o::((ee B g c y (.ok ((),n))).2++(ee B g d z (ee B g c y (.ok ((),n))).1).2)):=λc d y z o=>by
  have h:=ih c y n j;cases a:cX B g c y n with
  |error e=>
   rw[a]at h;obtain⟨F,h⟩:=h;rw[h,HI];exact⟨F,rfl⟩
  |ok q=>
   rw[a]at h;have h:ee B g c y (.ok ((),n))=(.ok ((),q.2),q.1):=h;rw[h];have p:=hle _ _ _ _ a;exact one d z q.2 Uo λs=>o::(q.1++s)
 have b:∀(c:Ctx) (l:List Tr) (o:Nd),pF (aJ (listE (cX B g) c l n) λl n=>.ok (o::l.flatten,n)) ((dT (ee B g) c l (.ok ((),n))).1,o::(dT (ee B g) c l (.ok ((),n))).2):=λc l o=>by
  have h:=HK hB ih hle c l n j;cases a:listE (cX B g) c l n with
  |error e=>
   rw[a]at h;exact h
  |ok q=>
   rw[a]at h;have h:dT (ee B g) c l (.ok ((),n))=(.ok ((),q.2),q.1.flatten):=h;rw[h]
   rfl
 unfold lr tJ;split
 ·rfl
 split
 ·rfl
 split
 ·rfl
 split
 ·exact one _ _ _ j _
 split
 ·exact i _ _ _ _ _
 split
 ·exact i _ _ _ _ _
 split
 ·unfold nH
  split
  ·split
   ·rfl
   ·exact one _ _ _ j _
  ·exact b _ _ _
 split
 ·exact b _ _ _
 ·rfl
end
theorem HL{B:ak}(hB:GoodB B):∀(g:Nat) (cx:Ctx) (x:Tr) (n:Nat) q,cX B g cx x n= .ok q ->q.2<=n
 |0,cx,x,n,q,h=>by cases h
 |g+1,cx,x,n,q,h=>by
  have ih:=HL hB g;have j:∀(c:Ctx) (l:List Tr) (n:Nat) q,listE (cX B g) c l n= .ok q ->q.2<=n:=λc l=>by
   induction l with
   |nil=>
    intro n q h;simp only[listE]at h;injection h with h
    subst h;exact KJ _
   |cons y l s=>
    intro n q h;simp only[listE]at h;obtain⟨a,u,h⟩:=aN h;obtain⟨b,i,h⟩:=aN h;injection h with h
    subst h;have k:=ih _ _ _ _ u;have o:=s _ _ i;simp only;omega
  simp only[cX]at h;obtain⟨t,ht,h⟩:=aN h;obtain⟨b,i,h⟩:=aN h;have k:=(eN hB GJ).le _ _ _ _ ht;have o:=tD hB i;have v:=BM n;have f:b.2<=n:=Uo
  clear k o v ht i
  have fin:∀{y:List Nd} {m:Nat},(Except.ok (y,m):Except Int (List Nd×Nat))= .ok q ->m<=n ->q.2<=n:=λh z=>by
   injection h with h
   subst h;exact z
  split at h
  ·exact fin h f
  unfold lr at h;split at h
  ·exact fin h f
  split at h
  ·exact fin h f
  split at h
  ·exact fin h f
  split at h
  ·obtain⟨p,d,h⟩:=aN h
   have:=ih _ _ _ _ d;exact fin h Uo
  split at h
  ·obtain⟨p,d,h⟩:=aN h
   obtain⟨A,e,h⟩:=aN h;have:=ih _ _ _ _ d;have:=ih _ _ _ _ e;exact fin h Uo
  split at h
  ·obtain⟨p,d,h⟩:=aN h
   obtain⟨A,e,h⟩:=aN h;have:=ih _ _ _ _ d;have:=ih _ _ _ _ e;exact fin h Uo
  split at h
  ·unfold nH at h
   split at h
   ·split at h
    ·exact fin h f
    ·obtain⟨p,d,h⟩:=aN h
     have:=ih _ _ _ _ d;exact fin h Uo
   ·obtain⟨p,d,h⟩:=aN h
    have:=j _ _ _ _ d;exact fin h Uo
  split at h
  ·unfold oN at h
   obtain⟨p,d,h⟩:=aN h;have:=j _ _ _ _ d;exact fin h Uo
  ·exact fin h f
theorem HM{B:ak}(hB:GoodB B):∀(g:Nat) (cx:Ctx) (x:Tr) (n:Nat),n<=100000 ->pF (cX B g cx x n) (ee B g cx x (.ok ((),n)))
 |0,cx,x,n,_=>⟨n,rfl⟩
 |g+1,cx,x,n,j=>by
  show pF (qY B (cX B g) cx x n) (ms B (ee B g) cx x (.ok ((),n)));unfold qY ms;have hi:=dt' (B:=B) GJ cx x n;have ht:gR B cx x (n:Int)=gb B GJ cx x n:=by
   unfold gR;rw[BO j]
  rw[ht];cases b:lj B GJ cx x n with
  |error e=>
   rw[dL hi b];simp only[aY,b];exact⟨e.2,rfl⟩
  |ok t=>
   have c:=eb hi b;have hle:=(eN hB GJ).le _ _ _ _ c;have d:=BV (B:=B) cx t.1 (n:=t.2) Uo;rw[c];simp only[aY,b,aJ];cases f:jU B cx t.1 t.2 with
   |error e=>
    rw[dL d f];exact⟨e.2,rfl⟩
   |ok p=>
    have a:=eb d f;have i:=tD hB a;rw[a];simp only;split
    ·rfl
    ·exact PP hB (HM hB g) (HL hB g) cx x p.2 Uo
theorem mu(op a b:Int):VC prog 54 [pI op,pI a,pI b,.sl []] (ah [⟨op,a,b⟩]):=(tI (L:=[]) Ud Ud).vc
theorem PQ{op:Int}{r:List Nd}(h1:r.length<=1000000):VC prog 54 [pI op,pI 0,pI 0,.sl [[ah r]]] (ah (⟨op,0,0⟩::r)):=by
 have h:=(tI (op:=op) (a:=0) (b:=0) (L:=[r]) Ud (by simpa using h1)).vc;rw[show [r].flatten=r by simp]at h;exact h
theorem BX{op:Int}{r s:List Nd}(h1:(r++s).length<=1000000):VC prog 54 [pI op,pI 0,pI 0,.sl [[ah r],[ah s]]] (ah (⟨op,0,0⟩::(r++s))):=by
 have h:=(tI (op:=op) (a:=0) (b:=0) (L:=[r,s]) Ud (by simpa using h1)).vc;rw[show [r,s].flatten=r++s by simp]at h;exact h
theorem PR{B:ak}(F:Nat){e:Int}(he:e≠0)(a b:PV):VP prog 52 103 (cC B F e) (cC B F e) [a,b] (.bool true):=by
 refine aP (r:=.ok (_,_)) 34 [.tmp 6] τok func52 ?_;exact aj<|vE he<|eP9
structure HN(B:ak)(rc:RcR)(R:Nat):Prop where
 go:∀(cx:Ctx) (y:Tr) (r:RS Unit),iq r ->CxOk B cx ->cx.length<=260 ->Ft (QB B) (cx.length:Int) y ->(row y).length<R ->VP prog 25 103 (dS B r) (dS B (rc cx y r).1) [aH (cx.map aA),ah (row y)] (ah (rc cx y r).2)
 ok:∀(M:Int) (cx:Ctx) (y:Tr) (r:RS Unit),iq r ->Ft (QB B) M y ->iq (rc cx y r).1/\(rc cx y r).2.length<=34*(row y).length
section
variable{B:ak}(hS:dG B)(hR:cT B=0)(hB:GoodB B){cx:Ctx}{rc:RcR}{R:Nat}{x:Tr}{r:RS Unit}
variable(hrc:HN B rc R)(hr:iq r)(hcx:CxOk B cx)(hcl:cx.length<=260)(hx:Ft (QB B) (cx.length:Int) x)(hxR:(row x).length<=R)
include hS hR hB hrc hr hcx hcl hx hxR
theorem CE':VP prog 25 103 (dS B r) (dS B (ms B rc cx x r).1) [aH (cx.map aA),ah (row x)] (ah (ms B rc cx x r).2):=by
 have W:=aC hx;have c9:=hx.len;generalize d:ms B rc cx x r=F;unfold ms at d;refine aP (r:=.ok (_,_)) 209 [.tmp 6] τok func25 ?_;refine aj ?_;rcases r with e|q
 ·have d:(.error e,boxR)=F:=d
  subst d;refine vE hr<|ae (mu 22 0 0) ?_;exact eP9
 obtain⟨u,n⟩:=q;have hn:n<=100000:=hr;refine v0 ?_;have ht:=HA hS hR hB hcx hcl hx hn;unfold ec at ht;have hi:=dt' (B:=B) GJ cx x n;simp only at d;cases e1:lj B GJ cx x n with
 |error e=>
  have he:e.1≠0:=(eN hB GJ).er _ _ _ _ (dL hi e1);rw[e1]at ht d;obtain rfl:(.error e,boxR)=F:=d;refine ax ht ?_;refine ax (PR e.2 he _ _) ?_;refine ae (mu 22 0 0) ?_;exact eP9
 |ok t=>
 obtain⟨ty,n1⟩:=t;have hj:=eb hi e1;have hle:=(eN hB GJ).le _ _ _ _ hj;have a8:=(eN hB GJ).ft _ _ _ _ hcx hcl hx hj;have P:gR B cx x (n:Int)= .ok (ty,n1):=by
  unfold gR;rw[BO hn];exact hj
 have a9:n1<=100000:=by simp only at hle;omega
 have ha:=PO hS hR hB hcx hcl a8 a9;rw[e1]at ht d;simp only[aY]at d;refine ax ht ?_;have hf:=BV (B:=B) cx ty a9;cases e2:jU B cx ty n1 with
 |error e=>
  rw[e2]at ha d;obtain rfl:(.error e,boxR)=F:=d;refine ax ha ?_;refine ae (mu 22 0 0) ?_;exact eP9
 |ok p=>
 obtain⟨b,m⟩:=p;have b5:=eb hf e2;have a':=tD hB b5;rw[e2]at ha d;simp only at d;refine ax ha ?_;cases b with
 |true=>
  rw[KX rfl]at d;subst d;refine ae (mu 22 0 0) ?_;exact eP9
 |false=>
 rw[KY UO]at d;have hm:m<=100000:=by simp only at a';omega
 refine ae (iH W) ?_;refine aI 0 (aL W) ?_;unfold tJ at d;obtain⟨X,A⟩:∃r:RS Unit,r= .ok ((),m):=⟨_,rfl⟩
 have E:iq X:=by subst A;exact hm
 rw[<- A]at d;have kd:∀i,i<(kidsT x).length ->(row (kidD x i)).length<R:=λi hi=>by
  have:=fN hx.ok (cq W hi).1;omega
 refine af (λg1=>?_) (λg1=>?_);rotate_left;have g1:¬ x.n.op=1:=g1;rw[KY g1]at d;rotate_left;have g1:x.n.op=1:=g1;rw[KX g1]at d
 ·subst d A
  refine ae (mu 21 x.n.a 0) ?_;exact eP9
 refine af (λg8=>?_) (λg8=>?_);rotate_left;have g8:¬ x.n.op=8:=g8;rw[KY g8]at d;rotate_left;have g8:x.n.op=8:=g8;rw[KX g8]at d
 ·subst d A
  refine ae (mu 26 x.n.a 0) ?_;exact eP9
 refine af (λM=>?_) (λM=>?_);rotate_left;have M:¬ x.n.op=10:=M;rw[KY M]at d;rotate_left;have M:x.n.op=10:=M;rw[KX M]at d
 ·subst d A
  refine ae (mu 27 x.n.a x.n.b) ?_;exact eP9
 refine af (λg5=>?_) (λg5=>?_);rotate_left;have g5:¬ x.n.op=5:=g5;rw[KY g5]at d;rotate_left;have g5:x.n.op=5:=g5;rw[KX g5]at d
 ·obtain⟨k1,Y,T⟩:=dq hx (.inr g5)
  have b0:=ra hB hx.ok P (.inl g5);have a4:CxOk B (cx++[(kidD x 0,none)]):=hcx.snoc Y λx hx=>by cases hx
  have T:Ft (QB B) ((cx++[(kidD x 0,none)]).length:Int) (kidD x 1):=by rw[bB];exact T.mono Uo
  have eI:cy cx x 1=cx++[(kidD x 0,none)]:=by unfold cy;rw[KX ⟨.inr g5,rfl⟩]
  have hI:=wP (cx:=cx) (qk B) hx Uo Uo Uo 1 Uo;rw[eI]at hI;have I:=hrc.go _ (kidD x 1) X E a4 (by rw[bB];omega) T (kd 1 Uo);have f:=hrc.ok _ (cx++[(kidD x 0,none)]) (kidD x 1) X E T;have a5:=T.len
  generalize rc (cx++[(kidD x 0,none)]) (kidD x 1) X=p at I f d
  obtain⟨S,l⟩:=p;simp only at I f d;subst d A;refine ae hI ?_;refine az 1 (aF W) ?_;rcases S with e|q
  all_goals
   refine ax I ?_;refine ae (PQ (op:=23) (r:=l) Uo) ?_;exact kP9
 refine af (λg6=>?_) (λg6=>?_);rotate_left;have g6:¬ x.n.op=6:=g6;rw[KY g6]at d;rotate_left;have g6:x.n.op=6:=g6;rw[KX g6]at d
 ·obtain⟨k1,Y,T⟩:=nc hx g6
  have I:=hrc.go _ (kidD x 0) X E hcx hcl Y (kd 0 Uo);have f:=hrc.ok _ cx (kidD x 0) X E Y;have a5:=Y.len;have b6:=T.len
  generalize rc cx (kidD x 0) X=p at I f d
  obtain⟨S,l⟩:=p;simp only at I f d;have N:=hrc.go _ (kidD x 1) S f.1 hcx hcl T (kd 1 Uo);have Z:=hrc.ok _ cx (kidD x 1) S f.1 T
  generalize rc cx (kidD x 1) S=p at N Z d
  obtain⟨S2,l2⟩:=p;simp only at N Z d;subst d A;refine az 0 (aF W) ?_;rcases S with e|q<;>rcases S2 with e2|q2
  all_goals
   refine ax I ?_;refine az 1 (aF W) ?_;refine ax N ?_;refine ae (BX (op:=24) (r:=l) (s:=l2) Uk) ?_;exact eP9
 refine af (λg7=>?_) (λg7=>?_);rotate_left;have g7:¬ x.n.op=7:=g7;rw[KY g7]at d;rotate_left;have g7:x.n.op=7:=g7;rw[KX g7]at d
 ·obtain⟨k1,Y,T,k4⟩:=kU hx g7
  have b0:=ra hB hx.ok P (.inr (.inl g7));have a4:CxOk B (cx++[(kidD x 0,some (kidD x 1))]):=hcx.snoc Y λx hx=>by
   injection hx with hx
   exact hx▸T
  have k4:Ft (QB B) ((cx++[(kidD x 0,some (kidD x 1))]).length:Int) (kidD x 2):=by rw[bB];exact k4.mono Uo
  have I:=hrc.go _ (kidD x 1) X E hcx hcl T (kd 1 Uo);have f:=hrc.ok _ cx (kidD x 1) X E T;have a5:=T.len;have b6:=k4.len
  generalize rc cx (kidD x 1) X=p at I f d
  obtain⟨S,l⟩:=p;simp only at I f d;have N:=hrc.go _ (kidD x 2) S f.1 a4 (by rw[bB];omega) k4 (kd 2 Uo);have Z:=hrc.ok _ (cx++[(kidD x 0,some (kidD x 1))]) (kidD x 2) S f.1 k4
  generalize rc (cx++[(kidD x 0,some (kidD x 1))]) (kidD x 2) S=p at N Z d
  obtain⟨S2,l2⟩:=p;simp only at N Z d;subst d A;refine az 1 (aF W) ?_;rcases S with e|q<;>rcases S2 with e2|q2
  all_goals
   refine ax I ?_;refine az 0 (aF W) ?_;refine az 1 (aF W) ?_;refine ae (ln (cx:=cx) (kidD x 0) (some (kidD x 1)) Uo) ?_;refine az 2 (aF W) ?_;refine ax N ?_;refine vk ?_;refine ae (BX (op:=25) (r:=l) (s:=l2) Uk) ?_;exact eP9
 refine af (λK=>?_) (λK=>?_);rotate_left;have K:¬ x.n.op=11:=K;rw[KY K]at d;rotate_left;have K:x.n.op=11:=K;rw[KX K]at d
 ·have b7:=Hu P K
  obtain⟨lk,c',c6,kf⟩:=mc hx K;have b8:=iS hx.node' (.inr K);obtain⟨i0,y,s,ps,qi,ei,_,a6,b1,hF⟩:=hB.fam b8 (KJ _);obtain⟨b9,b',e3⟩:=hF.ps_eq a6;rw[<- ei]at b9 b' e3;rw[e3]at d;have c0:Ft (QB B) 0 s:=hF.fs.wk λm hm=>mZ (Nat.le_of_lt (aM a6)) hm;have eK:=au rP ((kidsT x).map row);have d':=au row (kidsT x);refine de i0 a6 ?_ (hi:=ei);refine vk ?_;refine aI 0 (x:=s.n) (by rw[hF.sort];exact aL (aC c0)) ?_;refine af (λU=>?_) (λU=>?_)
  ·have U:s.n.a=0:=U
   rw[KX U]at d;refine af (λV=>?_) (λV=>?_)
   ·have V:x.n.b=0:=V
    rw[KX V]at d;subst d A;refine ae (mu 22 0 0) ?_;exact eP9
   have V:¬ x.n.b=0:=V;rw[KY V]at d;have c2:=(cq W (k:=2)).1;have Y:=kf _ (JQ c2);have I:=hrc.go cx (kidD x 2) X E hcx hcl Y (kd 2 Uo);have f:=hrc.ok _ cx (kidD x 2) X E Y;have a5:=Y.len
   generalize rc cx (kidD x 2) X=p at I f d
   obtain⟨S,l⟩:=p;simp only at I f d;subst d A;have b4:y.ctors[0]?=some (cS B x.n.a 0):=by
    rw[b1,VK]at b7;unfold cS;rw[b1,QK,show ((0:Int)).toNat=0 from rfl,gE]
    rfl
   obtain⟨ga,go,hC⟩:=hF.ct 0 _ b4;have la:=KG List.length hC.args;have e4:=hC.la;rw[KF]at la;have eA:=au rP (cS B x.n.a 0).args;refine az 2 (aF W) ?_;generalize e5:(cS B x.n.a 0).args.length=na;rcases S with e|q
   all_goals
    refine ax I ?_;refine aB τok (σ:=Nat×List Nd) [(0,_),(13,_)] [(0,_),(13,_)] (λq=>[(14,.c (.p (ah q.2))),(15,vI q.1)]) (λ_=>[]) (λq=>q.1<=na/\bS' (na-q.1) q.2=bS' na l/\q.2.length<=l.length+2*q.1) (λq=>na-q.1) (0,l) ⟨KV _,rfl,Ud⟩ ?_;rintro⟨i,t⟩ ⟨U,V,h3⟩;simp only at U V h3;refine aj<|gI 0 b4 ?_;refine af (λg=>?_) (λg=>?_)
    ·have g:(i:Int)<(((cS B x.n.a 0).args.map rP).length:Int):=g
     refine ae (mu 22 0 0) ?_;refine ae (BX (op:=24) (r:=t) (s:=boxR) (by simp[boxR];omega)) ?_;refine vi ?_;exact aw (i+1,⟨24,0,0⟩::(t++boxR)) ⟨Us,by
      rw[<- V,show na-i=(na-(i+1))+1 by omega];simp[bS'],by simp[boxR];omega⟩
    ·have g:¬ (i:Int)<(((cS B x.n.a 0).args.map rP).length:Int):=g
     rw[show na-i=0 by omega]at V;have V:t=bS' na l:=V;rw[<- V];exact eP9
  have U:¬ s.n.a=0:=U;rw[KY U]at d;refine gm (tI (op:=28) (a:=x.n.a) (b:=x.n.b) (L:=[]) Ud Ud) ?_;have c7:34*(rows ((kidsT x).drop 1)).length<=139264:=by
   have U:=kids_rows x;have:=KG (λl=>(rows l).length) (List.take_append_drop 1 (kidsT x));simp only[bF',JK]at this;omega
  subst A;refine aB τok (σ:=Nat×RS Unit×List Nd) [(0,_),(1,_),(7,_)] [] (λq=>[(16,.c (.row 161)),(17,vI q.1)]) (λq=>stM B q.2.1++[(161,.rw 46 3 (q.2.2.map ndP))])
   (λq=>q.1<=(kidsT x).length/\iq q.2.1/\q.2.2.length+34*(rows ((kidsT x).drop q.1)).length<=139300/\(dT rc cx ((kidsT x).drop q.1) q.2.1).1=F.1/\q.2.2++(dT rc cx ((kidsT x).drop q.1) q.2.1).2=F.2) (λq=>(kidsT x).length-q.1) (1,.ok ((),m),[⟨28,x.n.a,x.n.b⟩]) ⟨Us,hm,by show 1+34*(rows ((kidsT x).drop 1)).length<=139300;omega,by rw[<- d],by rw[<- d];rfl⟩ ?_
  clear d
  rintro⟨i,S,a0⟩ ⟨U,O,h3,v,o⟩;simp only at U O h3 v o;refine aj<|af (λg=>?_) (λg=>?_)
  ·have g:(i:Int)<(((kidsT x).map row).map rP).length:=g
   obtain⟨z,hz,hd⟩:=ay (l:=kidsT x) (k:=i);have a1:=kf z (JQ hz);have e6:=fN hx.ok hz;rw[hd]at v o h3;simp only[dT]at v o;simp only[rows,JK]at h3;have I:=hrc.go cx z S O hcx hcl a1 Uo;have f:=hrc.ok _ cx z S O a1;refine az i (x:=row z) (by rw[JX,hz];rfl) ?_
   generalize rc cx z S=p at I f v o
   obtain⟨S2,l2⟩:=p;simp only at I f v o;rcases S with e0|q0<;>rcases S2 with e2|q2
   all_goals
    refine Hy I ?_;refine va ?_ (fM l2) (hb:=by simp only[KF];omega);refine vi ?_;exact aw (i+1,_,a0++l2) ⟨Us,f.1,by simp only[JK];omega,v,by
     rw[<- o,List.append_assoc]⟩ (sw 161 176) (y':=⟨tE B _,KG (λl=>some (SE.rw _ _ l)) (by rw[KB]),trivial⟩)
  ·have g:¬ (i:Int)<(((kidsT x).map row).map rP).length:=g
   rw[JY Uo]at v o;have v:S=F.1:=v;have o:a0++[]=F.2:=o;rw[JD]at o;rw[<- v,<- o];rcases S with e|q
   all_goals
    exact eP9
 refine af (λD=>?_) (λD=>?_);rotate_left;have D:¬ x.n.op=12:=D;rw[KY D]at d;rotate_left;have D:x.n.op=12:=D;rw[KX D]at d
 ·have hl:=dp hx.ok D
  have hk:=fA hx.ok D;have b0:=ra hB hx.ok P (.inr (.inr D));obtain⟨nb,e7⟩:∃b:Nat,x.n.b=b:=⟨x.n.b.toNat,Uo⟩
  have a2:x.n.b.toNat=nb:=Uo
  have e8:=oq x;have c3:(bodiesT x).length=nb:=by simp[bodiesT,a2]
  have a3:∀j,j<nb ->(bodiesT x)[j]?=some (kidD x (2*j+1)):=λj hj=>by
   unfold bodiesT;rw[a2,JX,List.getElem?_range hj]
   rfl
  have c4:(rows (bodiesT x)).length<=(rows (kidsT x)).length:=id' x.n.b.toNat (kidsT x) Uo;have e9:=kids_rows x;obtain⟨ks,c5⟩:∃l,bodiesT x=l:=⟨_,rfl⟩
  rw[c5]at d c3 a3 c4;have c8:(cx++aQ x).length=cx.length+nb:=by rw[JK];omega
  have a7:CxOk B (cx++aQ x):=ng hcx Uo hx D;refine gm (tI (op:=29) (a:=x.n.a) (b:=x.n.b) (L:=[]) Ud Ud) ?_;subst A;refine aB τok (σ:=Nat×RS Unit×List Nd) [(0,_),(1,_),(2,_),(7,_),(8,_)] [(8,_)] (λq=>[(18,.c (.row 184)),(19,vI q.1)]) (λq=>stM B q.2.1++[(184,.rw 46 3 (q.2.2.map ndP))])
   (λq=>q.1<=nb/\iq q.2.1/\q.2.2.length+34*(rows (ks.drop q.1)).length<=139300/\(dT rc (cx++aQ x) (ks.drop q.1) q.2.1).1=F.1/\q.2.2++(dT rc (cx++aQ x) (ks.drop q.1) q.2.1).2=F.2) (λq=>nb-q.1) (0,.ok ((),m),[⟨29,x.n.a,x.n.b⟩]) ⟨KV _,hm,by show 1+_<=139300;rw[List.drop_zero];omega,by rw[<- d];rfl,by rw[<- d];rfl⟩ ?_
  clear d
  rintro⟨j,S,a0⟩ ⟨U,O,h3,v,o⟩;simp only at U O h3 v o;refine aj<|af (λg=>?_) (λg=>?_)
  ·have g:(j:Int)<x.n.b:=g
   obtain⟨k0,k1,f0,f1⟩:=gM hx D (i:=j) Uo;obtain⟨z,hz,hd⟩:=ay (l:=ks) (k:=j);obtain rfl:kidD x (2*j+1)=z:=by
    have:=a3 j Uo;rw[hz]at this;exact(JB this).symm
   have a1:Ft (QB B) ((cx++aQ x).length:Int) (kidD x (2*j+1)):=f1.mono Uo;have eI:cy cx x (2*j+1)=cx++aQ x:=by unfold cy;rw[KY Uo,KX ⟨D,Uo⟩]
   have hI:=wP (cx:=cx) (qk B) hx Uo Uo Uo (2*j+1) Uo;rw[eI,show ((2*j+1:Nat):Int)=2*(j:Int)+1 by omega]at hI;rw[hd]at v o h3;simp only[dT]at v o;simp only[rows,JK]at h3;have I:=hrc.go (cx++aQ x) (kidD x (2*j+1)) S O a7 Uo a1 (kd _ Uo);have f:=hrc.ok _ (cx++aQ x) (kidD x (2*j+1)) S O a1;refine vi ?_;refine vi ?_;refine ae hI ?_;refine vi ?_;refine vi ?_;refine az (2*j+1) (aF W) ?_
   generalize rc (cx++aQ x) (kidD x (2*j+1)) S=p at I f v o
   obtain⟨S2,l2⟩:=p;simp only at I f v o;rcases S with e0|q0<;>rcases S2 with e2|q2
   all_goals
    refine Hy I ?_;refine va ?_ (fM l2) (hb:=by simp only[KF];omega);refine vk ?_;refine vi ?_;exact aw (j+1,_,a0++l2) ⟨Us,f.1,by simp only[JK];omega,v,by
     rw[<- o,List.append_assoc]⟩ (sw 184 206) (y':=⟨tE B _,KG (λl=>some (SE.rw _ _ l)) (by rw[KB]),trivial⟩)
  ·have g:¬ (j:Int)<x.n.b:=g
   rw[JY Uo]at v o;have v:S=F.1:=v;have o:a0++[]=F.2:=o;rw[JD]at o;rw[<- v,<- o];rcases S with e|q
   all_goals
    exact eP9
 ·subst d A
  refine ae (mu 22 0 0) ?_;exact eP9
end
theorem HO{B:ak}{rc:RcR}(hr:∀(M:Int) (cx:Ctx) (y:Tr) (r:RS Unit),iq r ->Ft (QB B) M y ->iq (rc cx y r).1/\(rc cx y r).2.length<=34*(row y).length)(M:Int)(cx:Ctx):∀(l:List Tr) (r:RS Unit),iq r ->(∀y∈l,Ft (QB B) M y) ->iq (dT rc cx l r).1/\(dT rc cx l r).2.length<=34*(rows l).length
 |[],r,h,_=>⟨h,KV _⟩
 |y::l,r,h,hl=>by
  obtain⟨h1,h2⟩:=hr M cx y r h (hl y Ud);obtain⟨a,c⟩:=HO hr M cx l _ h1 λz b=>hl z (by simp[b]);refine⟨a,?_⟩;simp only[dT,rows,JK];omega
theorem PS{B:ak}(hB:GoodB B){rc:RcR}(hrc:∀(M:Int) (cx:Ctx) (y:Tr) (r:RS Unit),iq r ->Ft (QB B) M y ->iq (rc cx y r).1/\(rc cx y r).2.length<=34*(row y).length)(M:Int)(cx:Ctx)(x:Tr)(r:RS Unit)(hr:iq r)(hx:Ft (QB B) M x):iq (ms B rc cx x r).1/\(ms B rc cx x r).2.length<=34*(row x).length:=by
 have L:=aZ x;have a:=kids_rows x;have b:boxR.length<=34*(row x).length:=by show 1<=_;omega
 unfold ms;rcases r with e|⟨u,n⟩
 ·exact⟨hr,b⟩
 have X:n<=100000:=hr;have v:=dt' (B:=B) GJ cx x n;simp only;cases O:lj B GJ cx x n with
 |error e=>exact⟨(eN hB GJ).er _ _ _ _ (dL v O),b⟩
 |ok t=>
 have hle:=(eN hB GJ).le _ _ _ _ (eb v O);have P:=BV (B:=B) cx t.1 (n:=t.2) Uo;simp only[aY];cases S:jU B cx t.1 t.2 with
 |error e=>exact⟨Ht hB (dL P S),b⟩
 |ok p=>
 have T:=tD hB (eb P S);simp only;obtain⟨f,k⟩:∃r:RS Unit,r= .ok ((),p.2):=⟨_,rfl⟩
 have hk:iq f:=by subst k;show p.2<=100000;omega
 rw[<- k]
 clear k
 split
 ·exact⟨hk,b⟩
 have j:∀(c:Ctx) (N:Int) (l:List Tr) (o:Nd),(∀y∈l,Ft (QB B) N y) ->(rows l).length<=(rows (kidsT x)).length ->iq (dT rc c l f).1/\(o::(dT rc c l f).2).length<=34*(row x).length:=λc N l o d D=>by
  obtain⟨z,U⟩:=HO hrc N c l f hk d;exact⟨z,by simp only[JV];omega⟩
 unfold tJ;split
 ·exact⟨hk,b⟩
 split
 ·exact⟨hk,b⟩
 split
 ·exact⟨hk,b⟩
 split
 ·rename_i g
  obtain⟨m,E,s⟩:=dq hx (.inr g);have e:=wY m;rw[e]at a;simp only[rows,JK,<- nI]at a;obtain⟨d,D⟩:=hrc _ (cx++[(kidD x 0,none)]) (kidD x 1) f hk s;exact⟨d,by simp only[JV];omega⟩
 split
 ·rename_i g
  obtain⟨m,E,s⟩:=nc hx g;have e:=wY m;rw[e]at a;simp only[rows,JK,<- nI]at a;obtain⟨d,D⟩:=hrc _ cx (kidD x 0) f hk E;obtain⟨z,U⟩:=hrc _ cx (kidD x 1) _ d s;exact⟨z,by simp only[JV,JK];omega⟩
 split
 ·rename_i g
  obtain⟨m,E,s,F⟩:=kU hx g;have e:=Hv m;rw[e]at a;simp only[rows,JK,<- nI]at a;obtain⟨d,D⟩:=hrc _ cx (kidD x 1) f hk s;obtain⟨z,U⟩:=hrc _ (cx++[(kidD x 0,some (kidD x 1))]) (kidD x 2) _ d F;exact⟨z,by simp only[JV,JK];omega⟩
 split
 ·rename_i g
  obtain⟨m,E,s,F⟩:=mc hx g;split
  ·split
   ·exact⟨hk,b⟩
   ·have A:(kidsT x)[2]?=some (kidD x 2):=by
     rw[nI,QK,gE]
     rfl
    have Y:=mH' A;obtain⟨d,D⟩:=hrc _ cx (kidD x 2) f hk (F _ (JQ A));have Z:=Hw hB (iS hx.node' (.inr g));exact⟨d,by simp only[ic'];omega⟩
  ·refine j _ _ _ _ (λy I=>F y (List.drop_subset _ _ I)) ?_
   have:=KG (λl=>(rows l).length) (List.take_append_drop 1 (kidsT x));simp only[bF',JK]at this;omega
 split
 ·rename_i g
  have V:=fA hx.ok g;have W:=dp hx.ok g;have K:=id' x.n.b.toNat (kidsT x) Uo;refine j _ (M+x.n.b) _ _ (λy I=>?_) K;obtain⟨i,v,rfl⟩:=List.mem_map.1 I;have v:=List.mem_range.1 v;exact hx.kidN (2*i+1) Uo (by simp[kb,bh,g])
 ·exact⟨hk,b⟩
theorem BY{B:ak}(hS:dG B)(hR:cT B=0)(hB:GoodB B):∀g,HN B (ee B g) g
 |0=>⟨λcx y r _ _ _ _ h=>absurd h (Nat.not_lt_zero _),λM cx y r hr a=>by
  have b:=aZ y;have hb:boxR.length<=34*(row y).length:=by show 1<=_;omega
  rcases r with e|q
  ·exact⟨hr,hb⟩
  ·exact⟨by show (5:Int)≠0;decide,hb⟩⟩
 |g+1=>⟨λcx y r hr hcx hcl a h=>CE' hS hR hB (BY hS hR hB g) hr hcx hcl a (Nat.le_of_lt_succ h),λM cx y r hr a=>PS hB (BY hS hR hB g).ok M cx y r hr a⟩
theorem PT(n:Nat)(a:0<n)(b:n<=1000000):VO prog 143 [.raw (.slice none 0 0),pI n] 46 3 []:=zY (R:=rNd) ⟨_,func143,rfl,UO⟩ λw=>by
 refine oF func143 ?_;refine cO (args:=[_,_]) 27 [.tmp 4] τok func143 ?_;refine mX rfl<|i6 ?_;refine i6 ?_;refine dm (λg=>?_) (λg=>?_);rotate_left
 ·exact absurd Uo g
 refine mX rfl<|nL τok rfl 0 (.slice none 0 0) rfl (KJ _) rfl ?_;have e:((n:Int)-((0:Nat)-(0:Nat):Int))=(n:Int):=Uo
 rw[e];refine uK (R:=rNd) rfl rfl UO rfl UO n a b λB G d hB f c hk=>?_;exact nL τok rfl 0 _ rfl (KV _) oP<|⟨_,rfl,c,hk⟩
theorem PU{L:List (List Nd)}(hl:L.length<=1000000)(b:0<L.flatten.length)(h1:L.flatten.length<=1000000):VO prog 80 [.sl (L.map rP)] 46 3 (L.flatten.map ndP):=by
 have m:=au rP L;refine mS 36 [.tmp 2] τok func80 ?_;refine aj<|aB τok (σ:=Nat) [(0,_),(9,_),(10,_)] [] (λi=>[(11,vI i),(3,vI ((L.take i).flatten.length:Nat))]) (λ_=>[]) (λi=>i<=L.length) (λi=>L.length-i) 0 (KV _) ?_;intro i d;have e:=jo L i;refine aj<|af (λg=>?_) (λg=>?_)
 ·have g:(i:Int)<((L.map rP).length:Int):=g
  obtain⟨x,hx,_⟩:=ay (l:=L) (k:=i);have j:=pg hx;have a:=jo L (i+1);have o:=au ndP x;refine az i hx ?_;refine vi ?_;refine vn ?_;refine vi ?_;exact aw (i+1) (show i+1<=_ by omega) (x:=⟨rfl,KG (λz=>some (vI z)) (by show ((L.take i).flatten.length:Int)+(x.map ndP).length=_;omega),trivial⟩)
 have g:¬ (i:Int)<((L.map rP).length:Int):=g;obtain rfl:i=L.length:=Uo
 rw[List.take_length];refine aT (λ_=>100) (λ_=>0) (PT L.flatten.length b h1) ?_;refine aB τok (σ:=Nat) [(25,_),(26,_)] [] (λi=>[(27,vI i),(6,.c (.row 100))]) (λi=>[(100,.rw 46 3 ((L.take i).flatten.map ndP))]) (λi=>i<=L.length) (λi=>L.length-i) 0 (KV _) ?_;intro i d;have e:=jo L i;refine aj<|af (λg=>?_) (λg=>?_)
 ·have g:(i:Int)<((L.map rP).length:Int):=g
  obtain⟨x,hx,_⟩:=ay (l:=L) (k:=i);have j:=pg hx;have a:=jo L (i+1);refine az i hx ?_;refine va ?_ (fM x) (hb:=by rw[KF];omega);refine vi ?_;exact aw (i+1) (show i+1<=_ by omega) (f:=λk=>sw 100 33 k) (y':=⟨KG (λl=>some (SE.rw _ _ l)) (by show _++_=((L.take (i+1)).flatten).map ndP;rw[QQ,hx];simp),trivial⟩)
 have g:¬ (i:Int)<((L.map rP).length:Int):=g;obtain rfl:i=L.length:=Uo
 rw[List.take_length];exact⟨100,rfl,rfl⟩
theorem PW{n:Nat}(e:n=0):VC prog 143 [.raw (.slice none 0 0),pI n] (.sl []):=.of ⟨⟨_,func143,rfl,UO⟩,λw C f hS a=>by
 obtain⟨v,z,rfl,c,d⟩:=uZ a;cases c;cases d;refine cO (args:=[_,_]) 27 [.tmp 4] τok func143 ?_;refine mX rfl<|i6 ?_;refine i6 ?_;refine dm (λg=>?_) (λg=>?_)
 ·exact absurd g Uo
 exact⟨_,C,rfl,.nil _ _,⟨hS,λ_ _ _ h=>h,λb o v h=>.inl ⟨o,v,h⟩,Kp.refl _ _⟩⟩⟩
theorem GD':VC prog 80 [.sl []] (.sl []):=by
 refine vf 36 [.tmp 2] τok func80 ?_;refine aB τok (σ:=Unit) [(0,_),(9,_),(10,_)] [] (λ_=>[(11,vI 0),(3,vI 0)]) (λ_=>[]) (λ_=>True) (λ_=>0) () trivial ?_;rintro⟨⟩ -
 refine aj<|vn (p:=(0:Int)<0) ?_ UO;refine aT (λk=>k) (λ_=>0) (PW (n:=0) rfl) ?_;refine aB τok (σ:=Unit) [(6,_),(25,_),(26,_)] [] (λ_=>[(27,vI 0)]) (λ_=>[]) (λ_=>True) (λ_=>0) () trivial ?_;rintro⟨⟩ -
 refine aj<|vn (p:=(0:Int)<0) ?_ UO;exact aE
theorem pG{op a b:Int}{L:List (List Nd)}(hl:L.length<=1000)(h1:L.flatten.length<=1000000)(c:L=[] \/0<L.flatten.length):VC prog 45 [pI op,pI a,pI b,.sl (L.map rP)] (ah (⟨op,a,b⟩::L.flatten)):=by
 refine vf 17 [.tmp 8] τok func45 ?_;have d:VC prog 80 [.sl (L.map rP)] (ah L.flatten):=by
  rcases c with rfl|c
  ·exact GD'
  ·exact(PU Uo c h1).vc
 refine ae d ?_;refine va (p:=ndP) ?_ (fM _) (hb:=by show 1+L.flatten.length<=_;omega);exact aE
structure xb(B:ak)(aq:PV)(rc:RcE)(R:Nat):Prop where
 go:∀(cx:Ctx) (y:Tr) (n:Nat),CxOk B cx ->cx.length<=260 ->Ft (QB B) (cx.length:Int) y ->(row y).length<R ->eW prog 22 93 (cH B n aq) [aH (cx.map aA),ah (row y)] (gz B aq ah (rc cx y n))
 ok:∀(M:Int) cx y n q,Ft (QB B) M y ->rc cx y n= .ok q ->qZ q y n/\0<q.1.length
theorem IY':VC prog 45 [pI 22,pI 0,pI 0,.sl []] (ah boxR):=pG (L:=[]) Ud Ud (.inl rfl)
theorem HP{L:List (List Nd)}(h:∀l∈L,0<l.length):L=[] \/0<L.flatten.length:=by
 match L,h with
 |[],_=>exact .inl rfl
 |l::r,h=>
  have:=h l Ud;exact .inr Uk
section
variable{B:ak}(hI:BoI B)(hB:GoodB B){aq:PV}{cx:Ctx}{rc:RcE}{R n:Nat}{x:Tr}
variable(hrc:xb B aq rc R)(hcx:CxOk B cx)(hcl:cx.length<=260)(hx:Ft (QB B) (cx.length:Int) x)(hR:(row x).length<=R)
include hI hB hrc hcx hcl hx hR
theorem PX(V:x.n.op=11)(hm:((kidsT x).drop 2).length=(aR B x.n.a).ctors.length):eW prog 48 93 (cH B n aq) [aH (cx.map aA),.agg (ndP x.n),bD ((kidsT x).map row)] (gz B aq ah (nH B rc cx x n)):=by
 obtain⟨lk,a6,a5,kf⟩:=mc hx V;have wx:=aC hx;have hf:=iS hx.node' (.inr V);obtain⟨i0,y,s,ps,qi,ei,_,hi,W,hF⟩:=hB.fam hf (KJ _);obtain⟨e1,e2,e3⟩:=hF.ps_eq hi;rw[<- ei]at e1 e2 e3;have a0:Ft (QB B) 0 s:=hF.fs.wk λm hm=>mZ (Nat.le_of_lt (aM hi)) hm;have eK:=au rP ((kidsT x).map row);have a7:=au row (kidsT x);generalize d:nH B rc cx x n=v;unfold nH at d;rw[e3]at d;refine aP (r:=gz B aq ah v) 74 [.tmp 8] τok func48 ?_;refine aD<|aD<|de i0 hi ?_ (hi:=ei);refine vk ?_;refine aD<|aI 0 (x:=s.n) (by rw[hF.sort];exact aL (aC a0)) ?_;refine af (λK=>?_) (λK=>?_)
 ·have K:s.n.a=0:=K
  rw[KX K]at d;refine af (λM=>?_) (λM=>?_)
  ·have M:x.n.b=0:=M
   rw[KX M]at d;subst d;refine ae IY' ?_;exact eP9
  have M:¬ x.n.b=0:=M;rw[KY M]at d;have N:=(cq wx (k:=2)).1;have k2:=kf _ (JQ N);have f:=hrc.go cx (kidD x 2) n hcx hcl k2 (by have:=fN hx.ok N;omega);refine az 2 (x:=row (kidD x 2)) (by rw[JX,N];rfl) ?_;cases O:rc cx (kidD x 2) n with
  |error e=>
   rw[O]at f d;obtain rfl:.error e=v:=d;refine bG f ?_;exact rfl
  |ok q=>
   obtain⟨r,m⟩:=q;obtain⟨P,o⟩:=hrc.ok _ _ _ _ _ k2 O;have S:=P.1;have a1:=k2.len;simp only at S o;rw[O]at f d;obtain rfl:.ok (bS' (cS B x.n.a 0).args.length r,m)=v:=d;refine ax f ?_;have X:y.ctors[0]?=some (cS B x.n.a 0):=by
    rw[W,VK]at hm;unfold cS;rw[W,QK,show ((0:Int)).toNat=0 from rfl,gE]
    rfl
   obtain⟨ga,go,hC⟩:=hF.ct 0 _ X;have la:=KG List.length hC.args;have a8:=hC.la;rw[KF]at la;have eA:=au rP (cS B x.n.a 0).args;refine gI 0 X ?_;obtain⟨I,a2⟩:∃k,(cS B x.n.a 0).args.length=k:=⟨_,rfl⟩
   refine aB τok (σ:=Nat×List Nd) [(44,_)] [(0,_)] (λq=>[(10,.c (.p (ah q.2))),(45,vI q.1)]) (λ_=>[]) (λq=>q.1<=I/\bS' (I-q.1) q.2=bS' I r/\q.2.length<=r.length+2*q.1/\0<q.2.length) (λq=>I-q.1) (0,r) ⟨KV _,rfl,Ud,o⟩ ?_;rintro⟨i,t⟩ ⟨h1,D,T,h4⟩;simp only at h1 D T h4;refine aj<|af (λg=>?_) (λg=>?_)
   ·have g:(i:Int)<(((cS B x.n.a 0).args.map rP).length:Int):=g
    refine ae IY' ?_;refine ae (pG (op:=24) (a:=0) (b:=0) (L:=[t,boxR]) Ud (by simp[boxR];omega) (.inr Uk)) ?_;refine vi ?_;exact aw (i+1,⟨24,0,0⟩::[t,boxR].flatten) ⟨Us,by
     rw[<- D,show I-i=(I-(i+1))+1 by omega];simp[bS'],by simp[boxR];omega,Ud⟩
   ·have g:¬ (i:Int)<(((cS B x.n.a 0).args.map rP).length:Int):=g
    rw[show I-i=0 by omega]at D;have D:t=bS' I r:=D;rw[a2,<- D];exact eP9
 ·have K:¬ s.n.a=0:=K
  rw[KY K]at d;refine aD<|dC 11 1000 34 1 rfl rfl<|aj<|bH 1 (((kidsT x).map row).map rP).length ?_ (λz A=>by
   obtain⟨_,_,rfl⟩:=List.mem_map.1 A
   rfl) (h2:=rfl) (h3:=Uo) (h4:=KJ _)
  rw[show ((((kidsT x).map row).map λt:List Nd=>[ah t]).take (((kidsT x).map row).map rP).length).drop 1=(((kidsT x).drop 1).map row).map rP by rw[JG Ud,<- List.map_drop,<- List.map_drop];rfl];obtain⟨u,E⟩:∃l,(kidsT x).drop 1=l:=⟨_,rfl⟩
  rw[E]at d ⊢;have a3:∀z∈u,Ft (QB B) (cx.length:Int) z/\(row z).length<R:=λz A=>by
   rw[<- E]at A;have A:=List.drop_subset _ _ A;obtain⟨j,hj⟩:=JH A;exact⟨kf z A,by have:=fN hx.ok hj;omega⟩
  have a9:u.length<=17:=by rw[<- E,VK];omega
  have Y:34*(rows u).length<=139264:=by
   have h1:=kids_rows x;have D:=hx.len;have:=KG (λl=>(rows l).length) (List.take_append_drop 1 (kidsT x));simp only[bF',JK,E]at this;omega
  have eS:=au rP (u.map row);have a':=au row u;refine aB τok (σ:=Nat×Nat×List (List Nd)) [(0,_),(1,_),(6,_),(54,_),(55,_)] [(6,_)] (λq=>[(11,.c (.row 1000)),(56,vI q.1)]) (λq=>[(0,.st 1 93 ((cH B q.2.1 aq).map .p)),(1000,.rw 34 1 (q.2.2.map rP))])
   (λq=>q.1<=u.length/\q.2.2.length=q.1/\((∀l∈q.2.2,0<l.length)/\q.2.2.flatten.length+34*(rows (u.drop q.1)).length<=139264)/\aJ (aJ (listE rc cx (u.drop q.1) q.2.1) λl n=>.ok (q.2.2++l,n)) (λl n=>.ok (⟨28,x.n.a,x.n.b⟩::l.flatten,n))=v) (λq=>u.length-q.1) (0,n,[]) ⟨KV _,rfl,⟨Ud,by simpa using Y⟩,by
    rw[<- d,List.drop_zero];cases listE rc cx u n<;>rfl⟩ ?_
  clear d
  rintro⟨i,m,F⟩ ⟨h1,D,T,hr⟩;simp only at h1 D T hr;refine aj<|af (λg=>?_) (λg=>?_)
  ·have g:(i:Int)<(((u.map row).map rP).length:Int):=g
   obtain⟨z,A,hd⟩:=ay (l:=u) (k:=i);obtain⟨U,a4⟩:=a3 z (JQ A);rw[hd]at hr;simp only[listE]at hr;have f:=hrc.go cx z m hcx hcl U a4;refine az i (x:=row z) (by rw[JX,A];rfl) ?_;cases O:rc cx z m with
   |error e=>
    rw[O]at f hr;obtain rfl:.error e=v:=hr;refine bG f ?_;exact rfl
   |ok q=>
    obtain⟨r,m2⟩:=q;obtain⟨P,o⟩:=hrc.ok _ _ _ _ _ U O;have S:=P.1;have a1:=U.len;simp only at S o;rw[O]at f hr;refine ax f ?_;refine bi ?_ (hb:=Uk);refine vi ?_;exact aw (i+1,m2,F++[r]) ⟨Us,Uk,⟨λl Z=>by
     rcases List.mem_append.1 Z with Z|Z
     ·exact T.1 l Z
     ·obtain rfl:l=r:=by simpa using Z
      exact o,by
     have:=T.2;rw[hd]at this;simp only[rows,JK]at this;show (F++[r]).flatten.length+34*(rows (u.drop (i+1))).length<=139264;rw[List.flatten_append,JK,show [r].flatten=r by simp];omega⟩,by
     rw[<- hr];simp only[aJ];cases listE rc cx (u.drop (i+1)) m2<;>simp⟩ (sw 1000 66) (y':=⟨rfl,KG (λl=>some (SE.rw _ _ l)) (by rw[KB];rfl),trivial⟩)
  ·have g:¬ (i:Int)<(((u.map row).map rP).length:Int):=g
   rw[JY Uo]at hr;have hr:.ok (⟨28,x.n.a,x.n.b⟩::(F++[]).flatten,m)=v:=hr;rw[JD]at hr;subst hr;refine ae (pG (op:=28) (a:=x.n.a) (b:=x.n.b) (L:=F) Uo (by have:=T.2;omega) (HP T.1)) ?_;exact eP9
end
section
variable{B:ak}(hI:BoI B)(hB:GoodB B){aq:PV}{cx:Ctx}{rc:RcE}{R n:Nat}{x:Tr}
variable(hrc:xb B aq rc R)(hcx:CxOk B cx)(hcl:cx.length<=256)(hx:Ft (QB B) (cx.length:Int) x)(hR:(row x).length<=R)
include hI hB hrc hcx hcl hx hR
theorem PY(s:x.n.op=12):eW prog 49 93 (cH B n aq) [aH (cx.map aA),.agg (ndP x.n),bD ((kidsT x).map row)] (gz B aq ah (oN rc cx x n)):=by
 have wx:=aC hx;have M:=dp hx.ok s;have hk:=fA hx.ok s;obtain⟨T,a1⟩:∃b:Nat,x.n.b=b:=⟨x.n.b.toNat,Uo⟩
 have D:x.n.b.toNat=T:=Uo
 have a2:=oq x;have a3:=au aA cx;generalize d:oN rc cx x n=u;unfold oN at d;refine aP (r:=gz B aq ah u) 63 [.tmp 8] τok func49 ?_;refine aD<|aD<|aD<|aB τok (σ:=Nat) [(0,_),(3,_),(6,_),(17,_)] [(0,_),(6,_)] (λi=>[(9,.c (.p (aH ((cx++(aQ x).take i).map aA)))),(18,vI i)]) (λ_=>[]) (λi=>i<=T) (λi=>T-i) 0 (KV _) ?_ (x1:=⟨by rw[List.take_zero,JD];rfl,rfl,trivial⟩);intro i hi;refine aj<|af (λg=>?_) (λg=>?_)
 ·have g:(i:Int)<x.n.b:=g
  obtain⟨k0,k1,f0,f1⟩:=gM hx s (i:=i) Uo;refine vi ?_;refine az (2*i) (aF wx) ?_;refine ae (E4 f0.ok (f0.small Uo) f0.len (by_:=(i:Int)) (fr:=0) Uo Uo) ?_;refine ae oG' ?_;refine ae (pE (cx:=cx++(aQ x).take i) (o:=none) Uk) ?_;refine vi ?_;exact aw (i+1) Uo (x:=⟨KG (λc:Ctx=>some (vP (aH (c.map aA)))) (by rw[List.append_assoc,GV (f:=x) (i:=i) Uo]),rfl,trivial⟩)
 have g:¬ (i:Int)<x.n.b:=g;obtain rfl:i=T:=Uo
 have O:cx++(aQ x).take i=cx++aQ x:=by rw[JG Uo]
 rw[O];obtain⟨E,v⟩:∃c,c=cx++aQ x:=⟨_,rfl⟩
 have a0:E.length=cx.length+i:=by rw[v,JK];omega
 have K:CxOk B E:=by rw[v];exact ng hcx Uo hx s
 rw[<- v]at d ⊢
 clear O v
 have U:(bodiesT x).length=i:=by simp[bodiesT,D]
 have F:∀j,j<i ->(bodiesT x)[j]?=some (kidD x (2*j+1)):=λj hj=>by
  unfold bodiesT;rw[D,JX,List.getElem?_range hj]
  rfl
 have V:(rows (bodiesT x)).length<=(rows (kidsT x)).length:=id' x.n.b.toNat (kidsT x) Uo;have a4:=kids_rows x;have a5:=hx.len;obtain⟨N,W⟩:∃l,bodiesT x=l:=⟨_,rfl⟩
 rw[W]at d U F V;refine aD<|dC 13 1000 34 1 rfl rfl<|aD<|aB τok (σ:=Nat×Nat×List (List Nd)) [(0,_),(3,_),(6,_),(9,_),(40,_)] [(6,_)] (λq=>[(13,.c (.row 1000)),(41,vI q.1)]) (λq=>[(0,.st 1 93 ((cH B q.2.1 aq).map .p)),(1000,.rw 34 1 (q.2.2.map rP))])
  (λq=>q.1<=i/\q.2.2.length=q.1/\((∀l∈q.2.2,0<l.length)/\q.2.2.flatten.length+34*(rows (N.drop q.1)).length<=139264)/\aJ (aJ (listE rc E (N.drop q.1) q.2.1) λl n=>.ok (q.2.2++l,n)) (λl n=>.ok (⟨29,x.n.a,x.n.b⟩::l.flatten,n))=u) (λq=>i-q.1) (0,n,[]) ⟨KV _,rfl,⟨Ud,Uk⟩,by
   rw[<- d,List.drop_zero];cases listE rc E N n<;>rfl⟩ ?_
 clear d
 rintro⟨j,m,y⟩ ⟨h1,h2,P,hr⟩;simp only at h1 h2 P hr;refine aj<|af (λg=>?_) (λg=>?_)
 ·have g:(j:Int)<x.n.b:=g
  obtain⟨k0,k1,f0,f1⟩:=gM hx s (i:=j) Uo;obtain⟨z,hz,hd⟩:=ay (l:=N) (k:=j);obtain rfl:kidD x (2*j+1)=z:=by
   have:=F j Uo;rw[hz]at this;exact(JB this).symm
  have S:Ft (QB B) (E.length:Int) (kidD x (2*j+1)):=f1.mono Uo;rw[hd]at hr;simp only[listE]at hr;have A:=hrc.go E (kidD x (2*j+1)) m K Uo S (by have:=fN hx.ok k1;omega);refine vi ?_;refine vi ?_;refine az (2*j+1) (aF wx) ?_;cases X:rc E (kidD x (2*j+1)) m with
  |error e=>
   rw[X]at A hr;obtain rfl:.error e=u:=hr;refine bG A ?_;exact rfl
  |ok q=>
   obtain⟨r,m2⟩:=q;obtain⟨Y,I⟩:=hrc.ok _ _ _ _ _ S X;have Z:=Y.1;simp only at Z I;rw[X]at A hr;refine ax A ?_;refine bi ?_ (hb:=Uk);refine vi ?_;exact aw (j+1,m2,y++[r]) ⟨Us,Uk,⟨λl M=>by
    rcases List.mem_append.1 M with M|M
    ·exact P.1 l M
    ·obtain rfl:l=r:=by simpa using M
     exact I,by
    have:=P.2;rw[hd]at this;simp only[rows,JK]at this;show (y++[r]).flatten.length+34*(rows (N.drop (j+1))).length<=139264;rw[List.flatten_append,JK,show [r].flatten=r by simp];omega⟩,by
    rw[<- hr];simp only[aJ];cases listE rc E (N.drop (j+1)) m2<;>simp⟩ (sw 1000 55) (y':=⟨rfl,KG (λl=>some (SE.rw _ _ l)) (by rw[KB];rfl),trivial⟩)
 ·have g:¬ (j:Int)<x.n.b:=g
  rw[JY Uo]at hr;have hr:.ok (⟨29,x.n.a,x.n.b⟩::(y++[]).flatten,m)=u:=hr;rw[JD]at hr;subst hr;refine aD<|ae (pG (op:=29) (a:=x.n.a) (b:=x.n.b) (L:=y) Uo (by have:=P.2;omega) (HP P.1)) ?_;exact aj<|eP9
end
theorem PZ{op:Int}{r:List Nd}(h1:r.length<=1000000)(c:0<r.length):VC prog 45 [pI op,pI 0,pI 0,.sl [[ah r]]] (ah (⟨op,0,0⟩::r)):=by
 have h:=pG (op:=op) (a:=0) (b:=0) (L:=[r]) Ud (by simpa using h1) (.inr (by simpa using c));rw[show [r].flatten=r by simp]at h;exact h
theorem HQ{op:Int}{r s:List Nd}(h1:(r++s).length<=1000000)(c:0<r.length):VC prog 45 [pI op,pI 0,pI 0,.sl [[ah r],[ah s]]] (ah (⟨op,0,0⟩::(r++s))):=by
 have h:=pG (op:=op) (a:=0) (b:=0) (L:=[r,s]) Ud (by simpa using h1) (.inr Uk);rw[show [r,s].flatten=r++s by simp]at h;exact h
theorem xc(op a b:Int):VC prog 45 [pI op,pI a,pI b,.sl []] (ah [⟨op,a,b⟩]):=pG (L:=[]) Ud Ud (.inl rfl)
section
variable{B:ak}(hI:BoI B)(hB:GoodB B){aq:PV}{cx:Ctx}{rc:RcE}{R n:Nat}{x:Tr}
variable(hrc:xb B aq rc R)(hcx:CxOk B cx)(hcl:cx.length<=260)(hx:Ft (QB B) (cx.length:Int) x)(hR:(row x).length<=R)
include hI hB hrc hcx hcl hx hR
theorem GF':eW prog 22 93 (cH B n aq) [aH (cx.map aA),ah (row x)] (gz B aq ah (qY B rc cx x n)):=by
 have L:=aC hx;generalize a:qY B rc cx x n=l;unfold qY at a;have ht:=Px hI hB (aq:=aq) hcx hcl hx n;refine aP (r:=gz B aq ah l) 117 [.tmp 6] τok func22 ?_;refine aj ?_;cases d:gR B cx x (n:Int)with
 |error e=>
  rw[d]at ht a;obtain rfl:.error e=l:=a;refine bG ht ?_;exact rfl
 |ok q=>
 obtain⟨ty,n1⟩:=q;have Z:=(eN hB GJ).ft _ _ _ _ hcx hcl hx d;have M:=d;rw[d]at ht a;refine ax ht ?_;simp only[aJ]at a;have ha:=HC hI hB (aq:=aq) hcx hcl Z n1;cases d:lq B cx ty n1 with
 |error e=>
  rw[d]at ha a;obtain rfl:.error e=l:=a;refine bG ha ?_;exact rfl
 |ok q=>
 obtain⟨b,S⟩:=q;rw[d]at ha a;refine ax ha ?_;simp only at a;cases b with
 |true=>
  rw[KX rfl]at a;subst a;refine ae IY' ?_;exact eP9
 |false=>
 rw[KY UO]at a;refine ae (iY hx) ?_;refine aI 0 (aL L) ?_;unfold lr at a;have kd:∀i,i<(kidsT x).length ->(row (kidD x i)).length<R:=λi hi=>by
  have:=fN hx.ok (cq L hi).1;omega
 refine af (λU=>?_) (λU=>?_);rotate_left;have U:¬ x.n.op=1:=U;rw[KY U]at a;rotate_left;have U:x.n.op=1:=U;rw[KX U]at a
 ·subst a
  refine ae (xc 21 x.n.a 0) ?_;exact eP9
 refine af (λV=>?_) (λV=>?_);rotate_left;have V:¬ x.n.op=8:=V;rw[KY V]at a;rotate_left;have V:x.n.op=8:=V;rw[KX V]at a
 ·subst a
  refine ae (xc 26 x.n.a 0) ?_;exact eP9
 refine af (λz=>?_) (λz=>?_);rotate_left;have z:¬ x.n.op=10:=z;rw[KY z]at a;rotate_left;have z:x.n.op=10:=z;rw[KX z]at a
 ·subst a
  refine ae (xc 27 x.n.a x.n.b) ?_;exact eP9
 refine af (λN=>?_) (λN=>?_);rotate_left;have N:¬ x.n.op=5:=N;rw[KY N]at a;rotate_left;have N:x.n.op=5:=N;rw[KX N]at a
 ·obtain⟨k1,W,A⟩:=dq hx (.inr N)
  have a1:=ra hB hx.ok M (.inl N);have X:CxOk B (cx++[(kidD x 0,none)]):=hcx.snoc W λx hx=>by cases hx
  have A:Ft (QB B) ((cx++[(kidD x 0,none)]).length:Int) (kidD x 1):=by rw[bB];exact A.mono Uo
  have D:=hrc.go _ (kidD x 1) S X (by rw[bB];omega) A (kd 1 Uo);refine az 0 (aF L) ?_;refine ae (pE (cx:=cx) Uo (t:=kidD x 0) (o:=none)) ?_;refine az 1 (aF L) ?_;cases d:rc (cx++[(kidD x 0,none)]) (kidD x 1) S with
  |error e=>
   rw[d]at D a;obtain rfl:.error e=l:=a;refine bG D ?_;refine gq ?_;refine vk ?_;exact rfl
  |ok q=>
  obtain⟨F,E⟩:=q;obtain⟨f,c⟩:=hrc.ok _ _ _ _ _ A d;have j:=f.1;have I:=A.len;simp only at j c;rw[d]at D a;refine ax D ?_;simp only[aJ]at a;subst a;refine ae (PZ (op:=23) (r:=F) Uo c) ?_;exact kP9
 refine af (λT=>?_) (λT=>?_);rotate_left;have T:¬ x.n.op=6:=T;rw[KY T]at a;rotate_left;have T:x.n.op=6:=T;rw[KX T]at a
 ·obtain⟨k1,W,A⟩:=nc hx T
  have D:=hrc.go _ (kidD x 0) S hcx hcl W (kd 0 Uo);refine az 0 (aF L) ?_;cases d:rc cx (kidD x 0) S with
  |error e=>
   rw[d]at D a;obtain rfl:.error e=l:=a;refine bG D ?_;exact rfl
  |ok q=>
  obtain⟨F,E⟩:=q;obtain⟨f,c⟩:=hrc.ok _ _ _ _ _ W d;have j:=f.1;have I:=W.len;simp only at j c;rw[d]at D a;refine ax D ?_;simp only[aJ]at a;have m:=hrc.go _ (kidD x 1) E hcx hcl A (kd 1 Uo);refine az 1 (aF L) ?_;cases d:rc cx (kidD x 1) E with
  |error e=>
   rw[d]at m a;obtain rfl:.error e=l:=a;refine bG m ?_;exact rfl
  |ok q=>
  obtain⟨K,a0⟩:=q;obtain⟨p,k⟩:=hrc.ok _ _ _ _ _ A d;have u:=p.1;have O:=A.len;simp only at u k;rw[d]at m a;refine ax m ?_;simp only[aJ]at a;subst a;refine ae (HQ (op:=24) (r:=F) (s:=K) Uk c) ?_;exact eP9
 refine af (λP=>?_) (λP=>?_);rotate_left;have P:¬ x.n.op=7:=P;rw[KY P]at a;rotate_left;have P:x.n.op=7:=P;rw[KX P]at a
 ·obtain⟨k1,W,A,k4⟩:=kU hx P
  have a1:=ra hB hx.ok M (.inr (.inl P));have D:=hrc.go _ (kidD x 1) S hcx hcl A (kd 1 Uo);refine az 1 (aF L) ?_;cases d:rc cx (kidD x 1) S with
  |error e=>
   rw[d]at D a;obtain rfl:.error e=l:=a;refine bG D ?_;exact rfl
  |ok q=>
  obtain⟨F,E⟩:=q;obtain⟨f,c⟩:=hrc.ok _ _ _ _ _ A d;have j:=f.1;have I:=A.len;simp only at j c;rw[d]at D a;refine ax D ?_;simp only[aJ]at a;have X:CxOk B (cx++[(kidD x 0,some (kidD x 1))]):=hcx.snoc W λx hx=>by
   injection hx with hx
   exact hx▸A
  have k4:Ft (QB B) ((cx++[(kidD x 0,some (kidD x 1))]).length:Int) (kidD x 2):=by rw[bB];exact k4.mono Uo
  have m:=hrc.go _ (kidD x 2) E X (by rw[bB];omega) k4 (kd 2 Uo);refine az 0 (aF L) ?_;refine az 1 (aF L) ?_;refine ae (pE (cx:=cx) Uo (t:=kidD x 0) (o:=some (kidD x 1))) ?_;refine az 2 (aF L) ?_;cases d:rc (cx++[(kidD x 0,some (kidD x 1))]) (kidD x 2) E with
  |error e=>
   rw[d]at m a;obtain rfl:.error e=l:=a;refine bG m ?_;refine gq ?_;refine vk ?_;exact rfl
  |ok q=>
  obtain⟨K,a0⟩:=q;obtain⟨p,k⟩:=hrc.ok _ _ _ _ _ k4 d;have u:=p.1;have O:=k4.len;simp only at u k;rw[d]at m a;refine ax m ?_;simp only[aJ]at a;subst a;refine ae (HQ (op:=25) (r:=F) (s:=K) Uk c) ?_;exact kP9
 refine af (λv=>?_) (λv=>?_);rotate_left;have v:¬ x.n.op=11:=v;rw[KY v]at a;rotate_left;have v:x.n.op=11:=v;rw[KX v]at a
 ·have Y:=PX hI hB hrc hcx hcl hx hR v (Hu M v) (n:=S)
  rw[a]at Y;cases l with
  |error e=>
   refine bG Y ?_;exact rfl
  |ok q=>
   refine ax Y ?_;exact eP9
 refine af (λy=>?_) (λy=>?_);rotate_left;have y:¬ x.n.op=12:=y;rw[KY y]at a;rotate_left;have y:x.n.op=12:=y;rw[KX y]at a
 ·have Y:=PY hI hB hrc hcx (ra hB hx.ok M (.inr (.inr y))) hx hR y (n:=S)
  rw[a]at Y;cases l with
  |error e=>
   refine bG Y ?_;exact rfl
  |ok q=>
   refine ax Y ?_;exact eP9
 ·subst a
  refine ae (xc 22 0 0) ?_;exact eP9
end
theorem P0{B:ak}{rc:RcE}{N:Int}{cx:Ctx}{x:Tr}{n:Nat}{q:List Nd×Nat}(hx:Ft (QB B) N x)(hr:∀(M:Int) cx y n q,Ft (QB B) M y ->rc cx y n= .ok q ->0<q.1.length)(h:lr B rc cx x n= .ok q):0<q.1.length:=by
 unfold lr at h;have a:∀m:Nd,Except.ok ([m],n)=(Except.ok q:Except Int (List Nd×Nat)) ->0<q.1.length:=λm h=>by
  injection h with h
  subst h;exact Nat.one_pos
 split at h
 ·exact a _ h
 split at h
 ·exact a _ h
 split at h
 ·exact a _ h
 split at h
 ·obtain⟨p,b,h⟩:=aN h
  injection h with h
  subst h;simp
 split at h
 ·obtain⟨p,b,h⟩:=aN h
  obtain⟨r,c,h⟩:=aN h;injection h with h
  subst h;simp
 split at h
 ·obtain⟨p,b,h⟩:=aN h
  obtain⟨r,c,h⟩:=aN h;injection h with h
  subst h;simp
 split at h
 ·rename_i g
  obtain⟨f,i,j,e⟩:=mc hx g;unfold nH at h;split at h
  ·split at h
   ·exact a _ h
   ·obtain⟨p,b,h⟩:=aN h
    injection h with h
    subst h;have d:(kidsT x)[2]?=some (kidD x 2):=by
     rw[nI,QK,gE]
     rfl
    have:=hr _ _ _ _ _ (e _ (JQ d)) b;simp only[ic'];omega
  ·obtain⟨p,b,h⟩:=aN h
   injection h with h
   subst h;simp
 split at h
 ·unfold oN at h
  obtain⟨p,b,h⟩:=aN h;injection h with h
  subst h;simp
 ·exact a _ h
theorem HR{B:ak}:∀(g:Nat) (N:Int) cx x n q,Ft (QB B) N x ->cX B g cx x n= .ok q ->0<q.1.length
 |0,N,cx,x,n,q,hx,h=>by cases h
 |g+1,N,cx,x,n,q,hx,h=>by
  simp only[cX]at h;obtain⟨t,ht,h⟩:=aN h;obtain⟨b,a,h⟩:=aN h;split at h
  ·injection h with h
   subst h;exact Nat.one_pos
  ·exact P0 hx (HR g) h
theorem HS{B:ak}(hI:BoI B)(hB:GoodB B)(aq:PV):∀g,xb B aq (cX B g) g
 |0=>⟨λcx y n _ _ _ h=>absurd h (Nat.not_lt_zero _),λM cx y n q _ h=>by cases h⟩
 |g+1=>⟨λcx y n hcx hcl a h=>GF' hI hB (HS hI hB aq g) hcx hcl a (Nat.le_of_lt_succ h),λM cx y n q a h=>⟨BN hB (g+1) M cx y n q a h,HR (g+1) M cx y n q a h⟩⟩
@[irreducible] def GE:Nat:=4097
theorem GG':4097<=GE:=by unfold GE;decide
def xd(B:ak)(cx:Ctx)(x:Tr)(fuel:Int):Except Int (List Nd×Nat):=cX B GE cx x (bA fuel)
def lw(B:ak)(c:CxR)(t:List Nd)(fuel:Int):Except Int (List Nd×Nat):=if dX B c t≠0 then .error (dX B c t)else xd B (eQ c) (tr t) fuel
def rj(g:Nat)(cx:Ctx)(t:Tr)(y:PV):List (Nat×SE):=[(100,.st g 27 [.p (aH (cx.map aA))]),(101,.st (g+1) 29 [.p (ah (row t))]),(102,.st (g+2) 34 [.p y])]
def HT(r:Except Int (List Nd×Nat)):PV:=match r with
 | .ok q=>.tup [ah q.1,pI q.2,pI 0]
 | .error e=>.tup [.sl [],pI 0,pI e]
section
variable{B:ak}{cx:Ctx}(hI:BoI B)(hB:GoodB B)(hcx:CxOk B cx)(hcl:cx.length<=260){t:Tr}(ht:Ft (QB B) (cx.length:Int) t)
include hI hB hcx hcl ht
theorem P1(n:Nat){y:PV}:match cX B GE cx t n with
  | .ok q=>VG prog 21 [.c (.ptr 0 0),.c (.ptr 100 0),.c (.ptr 101 0),.c (.ptr 102 0)] ((0,.st 1 93 ((cH B n mK').map .p))::rj 2 cx t y) (.ok (.c (.p (.tup [])),(0,.st 1 93 ((cH B q.2 mK').map .p))::rj 2 cx t (ah q.1)))
  | .error e=>VG prog 21 [.c (.ptr 0 0),.c (.ptr 100 0),.c (.ptr 101 0),.c (.ptr 102 0)] ((0,.st 1 93 ((cH B n mK').map .p))::(rj 2 cx t y).take 2) (.error (tF e)):=by
 have b:=GG';have d:=ht.len;have a:=(HS hI hB mK' GE).go cx t n hcx hcl ht Uo;cases hr:cX B GE cx t n with
 |error e=>
  rw[hr]at a;refine cJ 9 [] τok func21 ?_;refine aj<|bG a ?_;exact rfl
 |ok q=>
  rw[hr]at a;refine cJ 9 [] τok func21 ?_;refine aj<|ax a ?_;exact dD
theorem P2(fuel:Int){y:PV}:VG prog 20 [.c (.p (bw B)),.c (.p (pI fuel)),.c (.fn 21 [100,101,102])] (rj 1 cx t y) (.ok (match xd B cx t fuel with
  | .ok q=>(.c (.p (.tup [pI q.2,pI 0])),rj 1 cx t (ah q.1))
  | .error e=>(.c (.p (.tup [pI 0,pI e])),[(102,.st 3 34 [.p y])]))):=by
 have b:min (max fuel 0) 100000=((bA fuel:Nat):Int):=by unfold bA;omega
 have a:=P1 hI hB hcx hcl ht (bA fuel) (y:=y);unfold xd
 generalize cX B GE cx t (bA fuel)=r at a ⊢
 rcases r with e|q
 all_goals
  refine pf 23 [.cell 6 3,.cell 7 35] τok func20 ?_;refine aj<|⟨⟨rfl,rfl,rfl⟩,rfl,λd=>?_⟩;refine aj ?_
  first
   |refine mL (λk=>sw 0 15 k) a ?_ (he:=by rw[b];repeat first|exact VQ|refine And.intro rfl ?_)
    refine jn (λk=>k+6) (λ_=>0) (PM e) ?_;exact dD
   |refine aT (λk=>sw 0 15 k) (λk=>k-99) a ?_ (he:=by rw[b];repeat first|exact VQ|refine And.intro rfl ?_)
    refine jn (λk=>k+6) (λ_=>0) wi' ?_;exact dD
end
theorem BZ{B:ak}(hI:BoI B)(hB:dG B){c:CxR}(hc:c.length<=1000000)(j:∀q∈c,q.1.length<=1000000000/\q.2.length<=1000000000){t:List Nd}(ht:t.length<=1000000000)(fuel:Int):VC prog 7 [bw B,aH c,ah t,pI fuel] (HT (lw B c t fuel)):=by
 generalize a:lw B c t fuel=b;unfold lw at a;refine vf 32 [.tmp 8,.tmp 9,.tmp 10] τok func7 ?_;refine ae (PL hB hc j ht) ?_;refine af (λg=>?_) (λg=>?_)
 ·rw[KX g]at a
  subst a;exact aE
 rw[KY g]at a;obtain⟨l,m,o,d,hcx,f,i⟩:=oC (Decidable.not_not.1 g);have h:=P2 hI l hcx (by rw[pB];omega) (by rw[pB];exact i) fuel (y:=mK');rw[a]at h;unfold rj at h;rw[<- d,<- f]at h;rcases b with e|q
 all_goals
  refine aT (λk=>sw 100 5 (sw 101 6 (sw 102 12 k))) (λ_=>0) h ?_;exact aE
theorem P3{B:ak}(hS:dG B){c:CxR}(hc:Bo c){t:List Nd}(ht:t.length<=1000000)(fuel:Int):VC prog 8 [bw B,aH c,ah t,pI fuel] (HT (lw B c t fuel)):=by
 have d:=OI hS hc ht;generalize a:lw B c t fuel=m;unfold lw at a;refine vf 39 [.tmp 8,.tmp 9,.tmp 10] τok func8 ?_;refine ae d ?_;refine af (λk=>?_) (λk=>?_)
 ·rw[KX k]at a
  subst a;exact aE
 rw[KY k]at a;obtain⟨hB,hR,A,o,hcx,s,f⟩:=oC (Decidable.not_not.1 k);refine I3 (BH fuel) ?_;have u:=(BY hS hR hB GE).go (eQ c) (tr t) (.ok ((),bA fuel)) (wF fuel) hcx (by rw[pB];omega) (by rw[pB];exact f) (by have:=GG';have:=f.len;omega);have b:=HM hB GE (eQ c) (tr t) (bA fuel) (wF fuel);have i:∀e,cX B GE (eQ c) (tr t) (bA fuel)= .error e ->e≠0:=λe h=>Hx hB _ _ _ _ _ h;unfold xd at a;rw[a]at b i;rw[<- s,<- o]at u
 generalize ee B GE (eQ c) (tr t) (.ok ((),bA fuel))=q at *
 obtain⟨r,l⟩:=q;cases m with
 |error e=>
  obtain⟨F,d⟩:=b;have d:r= .error (e,F):=d;subst d;have v:=i e rfl;refine ax u ?_;have j:=leftV (B:=B) F e;rw[KY v]at j;refine ax j ?_;exact vE v<|aE
 |ok p=>
  injection b with y z
  subst y z;refine ax u ?_;have j:=leftV (B:=B) p.2 0;rw[KX rfl]at j;refine ax j ?_;exact v0<|aE
theorem P4{B:ak}{c:CxR}{t:List Nd}{fuel:Int}{q:List Nd×Nat}(h:lw B c t fuel= .ok q):q.1.length<=139264:=by
 unfold lw at h;split at h
 ·cases h
 ·rename_i b
  obtain⟨hB,hR,f,d,hcx,e,a⟩:=oC (Decidable.not_not.1 b);have i:=(BN hB GE _ _ _ _ _ a h).1;have j:=a.len;omega
def du(lim:Int):List (List Nd) ->Int ->Int
 |[],a=>a
 |l::r,a=>if a<lim then du lim r (a+1+(l.length:Int))else a
def ku(lim:Int):List gZ ->Int ->Int
 |[],a=>a
 |c::r,a=>if a<lim then ku lim r (a+1+du lim c.args 0+du lim c.out 0)else a
def kw(lim:Int):List bY ->Int ->Int
 |[],a=>a
 |x::r,a=>if a<lim then kw lim r (ku lim x.ctors (a+1+(x.sort.length:Int)+(x.type.length:Int)+(x.body.length:Int)+du lim x.params 0+du lim x.indices 0))else a
def rl(B:ak)(lim:Int):Int:=kw lim B.ents ((B.orders.length:Int)+(B.prims.length:Int))
theorem P5{lim a:Int}(h:¬ a<lim):∀(l:List (List Nd)),du lim l a=a
 |[]=>rfl
 |l::r=>by simp only[du];rw[KY h]
theorem P6{lim a:Int}(h:¬ a<lim):∀(l:List gZ),ku lim l a=a
 |[]=>rfl
 |l::r=>by simp only[ku];rw[KY h]
theorem P7{lim a:Int}(h:¬ a<lim):∀(l:List bY),kw lim l a=a
 |[]=>rfl
 |l::r=>by simp only[kw];rw[KY h]
def jz(lim:Int):CxR ->Int ->Int
 |[],a=>a
 |q::r,a=>if a<lim then jz lim r (a+1+(q.1.length:Int)+(q.2.length:Int))else a
theorem HU{lim a:Int}(h:¬ a<lim):∀(l:CxR),jz lim l a=a
 |[]=>rfl
 |l::r=>by simp only[jz];rw[KY h]
structure xe where
 book:ak
 ctx:CxR
 term:List Nd
 type:List Nd
 fuel:Int
def CaV(C:Mem)(x:xe)(v:Value):Prop:=
 ∃v1 v2 v3 vc vt vy,v= .agg #[.int .i64 x.book.vars,v1,v2,.int .i64 x.book.nat,v3,vc,vt,vy,.int .i64 x.fuel]/\SV rOr C x.book.orders v1/\SV rEn C x.book.ents v2/\SV rPr C x.book.prims v3/\SV rBd C x.ctx vc/\SV rNd C x.term vt/\SV rNd C x.type vy/\I64 x.fuel
def B1(x:xe):Bool:=decide (2500<=rl x.book 2500)||(decide (1500<=jz 1500 x.ctx 0)||(decide (300<x.ctx.length)||(decide (1500<x.term.length+x.type.length)||decide (300<x.fuel))))
def B0:ak:=⟨0,[],[],-1,[]⟩
def r1:List Nd:=[⟨2,1,1⟩,⟨3,0,0⟩]
def r2:List Nd:=[⟨6,0,0⟩,⟨2,0,1⟩,⟨3,0,0⟩,⟨2,1,1⟩,⟨3,0,0⟩]
def x1:Tr:=.mk ⟨2,1,1⟩ [.mk ⟨3,0,0⟩ []]
def x0:Tr:=.mk ⟨2,0,1⟩ [.mk ⟨3,0,0⟩ []]
def x2:Tr:=.mk ⟨6,0,0⟩ [x0,x1]
def HV{α:Type}(F:Nat ->Except Int (α×Nat)):Prop:=∀n a n',n<=100000 ->F n= .ok (a,n') ->n'<=n/\∀m,m<=100000 ->(n-n'<=m ->F m= .ok (a,m-(n-n')))/\(m<n-n' ->F m= .error 10)
section
variable{B:ak}
abbrev P8(rc:RcC):Prop:=∀cx x y u,HV (rc cx x y u)
abbrev B2(rc:RcJ):Prop:=∀cx t,HV (rc cx t)
variable{rc:RcJ}(hr:B2 rc)
include hr
end
end Go.Q
namespace Go.Wx
open Go.ChangeShapes Go.WideShapes Go.ChangeAt Go.RowKit
theorem HW{H:Type}{enc:TypeId×Value ->H}{P:Program}(hl:laidOutB P=true){W i:World}(hb:Below W.heap.size W i):
  ∀(b:List TypeId) (vs:List Value) (ds:List (DataW H)) (ps:List MemPlace),(b.all λt=>P.readableRec t && Nat.blt t P.types.size)=true ->DataW.TrodAll enc P W 0 (λ_=>true) true b vs ds ps ->
   (∀x∈ps,x.block<W.heap.size) ->∀c:Nat ->Bool,(∀p∈ps,c p.block=true) ->DataW.TrodAll enc P i 0 c true b vs ds ps
 |[],vs,ds,ps,_,h,_,c,_=>by
  obtain⟨rfl,rfl,rfl⟩:=trodAll_nil h
  rfl
 |t::b,vs,ds,ps,a,h,e,c,f=>by
  obtain⟨v,j,d,k,p,q,rfl,rfl,rfl,l,m⟩:=trodAll_cons h;simp only[List.all_cons,Bool.and_eq_true]at a;refine⟨p,q,?_,HW hl hb b _ _ _ a.2 m (λx hx=>e x (by simp[hx])) c (λx hx=>f x (by simp[hx])),rfl⟩;exact WideElems.Trod_stays hl a.1.1 (by simpa[Nat.blt_eq]using a.1.2) l (λx hx=>hb.same (e x (by simp[hx]))) (λx hx=>f x (by simp[hx]))
theorem P9{H:Type}{enc:TypeId×Value ->H}{P:Program}{f:Func}{s:ChangeSpec}{a d b:Bool}{W v:World}{args:Array Value}{ds gs:List (DataW H)}{c:List MemPlace}{y:TypeId}
  (hl:laidOutB P=true) (o:(f.params.toList.all λt=>P.readableRec t && Nat.blt t P.types.size)=true) (u:f.resultTypes= #[y]) (hb:P.underlying y=some .bool)
  (hW:DataW.Whole enc P f.params.toList s.vars a W args.toList ds gs c) (z:s.vars=[]) (j:(s.fn H ds).results=[.lit (.bool true)]) (e:(s.fn H ds).args=ds) (i:(s.fn H ds).vars=[])
  (hk:Kp [] W v):s.post enc P f a d b false W args (.bool true) v:=by
 have k:=hW;obtain⟨p,q,D,A,rfl,E,F⟩:=hW;rw[z]at A;obtain⟨rfl,rfl⟩:=trodVars_none A;have l:=hk.below;have m:∀x∈p,x.block<W.heap.size:=λx hx=>k.lt x (by simp[hx]);refine⟨ds,[],p++[],[],p,[],k,?_,?_,?_,?_,λh=>by cases h⟩
 ·rw[JD,j,u]
  exact trodAll_mk1 (shut_bool hb true)
 ·rw[JD,e]
  exact HW hl l _ _ _ _ o D m _ λx hx=>by simpa using m x hx
 ·rw[JD,i,z]
  rfl
 ·exact l.frame _
end Go.Wx
namespace Go.Q
open Go.ChangeShapes Go.WideShapes Go.ChangeAt Go.RowKit
theorem Qa{H:Type}(d:DataW H):1<=Rows.uptoBulk d:=by
 cases d with
 |lit l=>cases l<;>simp[Rows.uptoBulk]
 |nil=>simp[Rows.uptoBulk]
 |ptr d=>simp[Rows.uptoBulk]
 |slice b spare=>simp[Rows.uptoBulk]
 |agg parts=>simp[Rows.uptoBulk]
 |iface t d=>simp[Rows.uptoBulk]
 |map a=>simp[Rows.uptoBulk]
 |held h=>simp[Rows.uptoBulk]
theorem B3{H:Type}{d:DataW H}{l:List (DataW H)}(h:d∈l):Rows.uptoBulk d<=Rows.uptoBulkAll l:=by
 induction l with
 |nil=>cases h
 |cons x r ih=>
  simp only[Rows.uptoBulkAll];cases List.mem_cons.1 h with
  |inl e=>subst e;omega
  |inr e=>have:=ih e;omega
theorem Qb{H:Type}(l:List (DataW H)):l.length<=Rows.uptoBulkAll l:=by
 induction l with
 |nil=>simp[Rows.uptoBulkAll]
 |cons x r ih=>have:=Qa x;simp only[Rows.uptoBulkAll,JV];omega
theorem Qc{H:Type}{l:List (DataW H)}(hk:Rows.uptoSmall H l=true):Rows.uptoBulkAll l<=1048576:=of_decide_eq_true hk
theorem Qd{H:Type}(l r:List (DataW H)):Rows.uptoBulkAll (l++r)=Rows.uptoBulkAll l+Rows.uptoBulkAll r:=by
 induction l with
 |nil=>simp[Rows.uptoBulkAll]
 |cons x l ih=>simp only[List.cons_append,Rows.uptoBulkAll,ih];omega
theorem iM{H:Type}{xs:List (DataW H×List MemPlace)}{x:DataW H×List MemPlace}(hx:x∈xs)(hB:Rows.uptoBulk (.agg (xs.map (·.1)))<=1048576):Rows.uptoBulk x.1<=1048576:=by
 have:=B3 (QD (f:=(·.1)) hx);simp only[Rows.uptoBulk]at hB;omega
section
variable{H:Type}{enc:TypeId×Value ->H}{w:World}{spare:Nat ->Bool}{held:Bool}
theorem Qe{a:Addr}{v:Value}(h:w.cell? a=some v):∃b o,a=⟨b,o,none⟩:=by
 obtain⟨b,o,s⟩:=a;unfold World.cell? at h;split at h
 ·rename_i c T d e
  cases s with
  |none=>exact⟨b,o,rfl⟩
  |some _=>simp at h
 ·cases h
theorem Qf{α:Type} [Inhabited α]{t e:TypeId}(R:Rd α)(hk:0<R.sz)(ht:prog.underlying t=some (.slice e))(hc:prog.cellsOf e=R.sz)(ok:DataW H ->Prop)
  (one:∀(cs:List Value) (n:Nat) (y:DataW H×List MemPlace),cs.length=R.sz ->DataW.trod enc prog w 0 spare held n e cs=some y ->ok y.1 ->∃x:α,R.den (Old w) cs x)
  {fuel:Nat} {v:Value} {x:DataW H×List MemPlace} (h:DataW.trod enc prog w 0 spare held fuel t [v]=some x) (I:∀es K,x.1= .slice es K ->∀d∈es,ok d):
  ∃(a:Option Addr) (l:List α) (cap:Nat),v= .slice a l.length cap/\(l.length<=1099511627776 ->Sl R (Old w) a l)/\(l.length=0 \/∃es K,x.1= .slice es K/\es.length=l.length):=by
 rcases Go.Deep.open_slice ht h with ⟨k,rfl⟩|⟨a,len,cap,m,n,D,Pl,k,hb,hl,hm,L,rfl,hx⟩
 ·simp only[List.cons.injEq,and_true]at k
  subst k;exact⟨none,[],0,rfl,λ_=>Sl.nil _ _ _,.inl rfl⟩
 simp only[List.cons.injEq,and_true]at k;subst k;have X:len<=m:=by rw[L];split<;>omega
 rw[hc]at hx;have s:∀i,i<len ->∃q:α×List Value,R.den (Old w) q.2 q.1/\∀j u,q.2[j]?=some u ->w.cell? (a.add (i*R.sz+j))=some u:=by
  intro i c;obtain⟨z,k,Y⟩:=hx i Uo;obtain⟨_,f,p⟩:=World.cells?_some k;obtain⟨x,hx⟩:=one z n _ f Y (I _ _ rfl _ (List.mem_map.2 ⟨i,by simpa using c,rfl⟩));refine⟨(x,z),hx,λj u U=>?_⟩;have M:j<R.sz:=by rw[<- f];exact aM U
  rw[<- Go.Deep.add_add,p j M];exact U
 obtain⟨q,V⟩:=Go.Deep.choose_lt s;refine⟨some a,(List.range len).map λi=>(q i).1,cap,Ud,λA=>⟨A,?_⟩,.inr ⟨_,_,rfl,Ud⟩⟩
 by_cases Z:len=0
 ·exact .inl (by simp[Z])
 obtain⟨N,hz⟩:=V 0 Uo;have a0:=R.len N;obtain⟨W,O⟩:∃u,(q 0).2[0]?=some u:=⟨(q 0).2[0]' Uo,Ud⟩
 have E:=hz 0 W O;rw[Nat.zero_mul,Nat.add_zero]at E;have P:w.cell? a=some W:=by simpa[Addr.add]using E
 obtain⟨b,o,rfl⟩:=Qe P;refine .inr ⟨b,o,rfl,λi x c=>?_⟩;rw[JX]at c;have F:i<len:=by
  rcases Nat.lt_or_ge i len with h|h
  ·exact h
  ·rw[QF (by simpa using h)]at c;cases c
 rw[List.getElem?_range F]at c;have c:=JB c;subst c;obtain⟨S,T⟩:=V i F;refine⟨(q i).2,S,λj u M=>Cl.of ?_⟩;have:=T j u M;rw[pN]at this;rw[Nat.add_assoc];exact this
theorem Qg{α:Type} [Inhabited α]{t e:TypeId}(R:Rd α)(hk:0<R.sz)(ht:prog.underlying t=some (.slice e))(hc:prog.cellsOf e=R.sz)
  (one:∀(cs:List Value) (n:Nat) (y:DataW H×List MemPlace),cs.length=R.sz ->DataW.trod enc prog w 0 spare held n e cs=some y ->Rows.uptoBulk y.1<=1048576 ->∃x:α,R.den (Old w) cs x)
  {fuel:Nat} {v:Value} {x:DataW H×List MemPlace} (h:DataW.trod enc prog w 0 spare held fuel t [v]=some x) (hB:Rows.uptoBulk x.1<=1048576):∃l,(tT R).den (Old w) [v] l:=by
 obtain⟨a,l,b,f,i,c⟩:=Qf R hk ht hc (λd=>Rows.uptoBulk d<=1048576) one h (λes j e d k=>by
  rw[e]at hB;have:=B3 k;simp only[Rows.uptoBulk]at hB;omega)
 refine⟨l,a,b,by rw[f],i ?_⟩;rcases c with c|⟨es,j,e,m⟩
 ·omega
 ·rw[e]at hB
  have:=Qb es;simp only[Rows.uptoBulk]at hB;omega
end
end Go.Q
namespace Go.Q
instance:Inhabited Nd:=⟨⟨0,0,0⟩⟩
instance:Inhabited be:=⟨⟨0,0,0⟩⟩
instance:Inhabited ak:=⟨⟨0,[],[],-1,[]⟩⟩
section
variable{H:Type}{enc:TypeId×Value ->H}{w:World}{spare:Nat ->Bool}{held:Bool}
theorem Qh{z:Int}(h:(Lit.int .i64 z).wf=true):I64 z:=by
 simpa[I64,Lit.wf,IntKind.min,IntKind.max,IntKind.signed,IntKind.bits]using h
theorem pH{α:Type} [Inhabited α]{t e:TypeId}(R:Rd α)(hk:0<R.sz)(ht:prog.underlying t=some (.slice e))(hc:prog.cellsOf e=R.sz)
  (one:∀(cs:List Value) (n:Nat) (y:DataW H×List MemPlace),cs.length=R.sz ->DataW.trod enc prog w 0 spare held n e cs=some y ->Rows.uptoBulk y.1<=1048576 ->∃x:α,R.den (Old w) cs x)
  {fuel:Nat} {v:Value} {x:DataW H×List MemPlace} (h:DataW.trod enc prog w 0 spare held fuel t [v]=some x) (hB:Rows.uptoBulk x.1<=1048576):∃l,SV R (Old w) l v:=by
 obtain⟨l,a,c,e,d⟩:=Qg R hk ht hc one h hB;have e:v= .slice a l.length c:=by simpa using e
 refine⟨l,a,c,e,d,?_⟩;rcases Go.Deep.open_slice ht h with ⟨b,rfl⟩|⟨o,len,f,m,k,D,p,b,s,u,_⟩
 ·rw[e]at b
  have b:=(List.cons.inj b).1;injection b with q1 i j
  omega
 ·rw[e]at b
  have b:=(List.cons.inj b).1;injection b with q1 i j
  omega
theorem kx{n:Nat}{cs:List Value}{y:DataW H×List MemPlace}(a:DataW.trod enc prog w 0 spare held n 3 cs=some y):∃z,cs=[.int .i64 z]/\I64 z:=by
 obtain⟨z,rfl,rfl,b⟩:=DataW.trod_int underlying3 a;exact⟨z,rfl,Qh b⟩
theorem Qi{n:Nat}{cs:List Value}{y:DataW H×List MemPlace}(hl:cs.length=3)(k:DataW.trod enc prog w 0 spare held n 46 cs=some y):∃x,rNd.den (Old w) cs x:=by
 obtain⟨l,m,rfl,rfl,_,a,b⟩:=DataW.trod_struct underlying46 k
 match cs,hl,l,a with
 |[A,c1,D],_,[x0,x1,x2],_=>
  have c:=b 0 _ rfl;have d:=b 1 _ rfl;have e:=b 2 _ rfl;simp[show prog.cellsOf 3=1 by kernel_rfl]at c d e;obtain⟨o,f,p⟩:=kx c;obtain⟨s,i,u⟩:=kx d;obtain⟨v,j,z⟩:=kx e;simp at f i j;subst f i j;exact⟨⟨o,s,v⟩,rfl,p,u,z⟩
theorem Qj{n:Nat}{cs:List Value}{y:DataW H×List MemPlace}(hl:cs.length=3)(k:DataW.trod enc prog w 0 spare held n 178 cs=some y):∃x,rOr.den (Old w) cs x:=by
 obtain⟨l,m,rfl,rfl,_,a,b⟩:=DataW.trod_struct underlying178 k
 match cs,hl,l,a with
 |[A,c1,D],_,[x0,x1,x2],_=>
  have c:=b 0 _ rfl;have d:=b 1 _ rfl;have e:=b 2 _ rfl;simp[show prog.cellsOf 3=1 by kernel_rfl]at c d e;obtain⟨o,f,p⟩:=kx c;obtain⟨s,i,u⟩:=kx d;obtain⟨v,j,z⟩:=kx e;simp at f i j;subst f i j;exact⟨⟨o,s,v⟩,rfl,p,u,z⟩
theorem Ql{n:Nat}{cs:List Value}{y:DataW H×List MemPlace}(hl:cs.length=2)(i:DataW.trod enc prog w 0 spare held n 117 cs=some y):∃x,rPr.den (Old w) cs x:=by
 obtain⟨j,m,rfl,rfl,_,a,b⟩:=DataW.trod_struct underlying117 i
 match cs,hl,j,a with
 |[s,c1],_,[x0,x1],_=>
  have c:=b 0 _ rfl;have d:=b 1 _ rfl;simp[show prog.cellsOf 3=1 by kernel_rfl]at c d;obtain⟨k,e,l⟩:=kx c;obtain⟨o,f,p⟩:=kx d;simp at e f;subst e f;exact⟨(k,o),rfl,l,p⟩
theorem pJ{n:Nat}{v:Value}{y:DataW H×List MemPlace}(a:DataW.trod enc prog w 0 spare held n 29 [v]=some y)(hB:Rows.uptoBulk y.1<=1048576):∃l,SV rNd (Old w) l v:=
 pH rNd UO underlying29 UD (λc n y b a d=>Qi b a) a hB
theorem xf{n:Nat}{v:Value}{y:DataW H×List MemPlace}(d:DataW.trod enc prog w 0 spare held n 67 [v]=some y)(hB:Rows.uptoBulk y.1<=1048576):∃l,SV (iv rNd) (Old w) l v:=
 pH (iv rNd) Nat.one_pos underlying67 UD (λe n y f d i=>by
  match e,f with
  |[c],_=>
   obtain⟨l,a,j,rfl,k,b⟩:=pJ d i;exact⟨l,a,j,rfl,b,k⟩) d hB
theorem Qm{n:Nat}{cs:List Value}{y:DataW H×List MemPlace}(hl:cs.length=2)(e:DataW.trod enc prog w 0 spare held n 75 cs=some y)(hB:Rows.uptoBulk y.1<=1048576):∃x,rCt.den (Old w) cs x:=by
 obtain⟨f,m,rfl,rfl,_,a,b⟩:=DataW.trod_struct underlying75 e
 match cs,hl,f,a with
 |[o,c1],_,[x0,x1],_=>
  have c:=b 0 _ rfl;have d:=b 1 _ rfl;simp[show prog.cellsOf 67=1 by kernel_rfl]at c d;obtain⟨i,j⟩:=xf c (iM (x:=x0) Ud hB);obtain⟨k,l⟩:=xf d (iM (x:=x1) Ud hB);exact⟨⟨i,k⟩,_,_,rfl,j,l⟩
theorem Qn{n:Nat}{cs:List Value}{y:DataW H×List MemPlace}(hl:cs.length=7)(b:DataW.trod enc prog w 0 spare held n 70 cs=some y)(hB:Rows.uptoBulk y.1<=1048576):∃x,rEn.den (Old w) cs x:=by
 obtain⟨p,m,rfl,rfl,_,c,a⟩:=DataW.trod_struct underlying70 b
 match cs,hl,p,c with
 |[W,c1,X,Y,Z,c5,c6],_,[x0,x1,x2,s,u,v,z],_=>
  have d:=a 0 _ rfl;have e:=a 1 _ rfl;have f:=a 2 _ rfl;have i:=a 3 _ rfl;have j:=a 4 _ rfl;have k:=a 5 _ rfl;have l:=a 6 _ rfl;simp[show prog.cellsOf 3=1 by kernel_rfl,show prog.cellsOf 67=1 by kernel_rfl,show prog.cellsOf 29=1 by kernel_rfl,show prog.cellsOf 68=1 by kernel_rfl]at d e f i j k l;obtain⟨A,o,D⟩:=kx d;obtain⟨E,F⟩:=pJ e (iM (x:=x1) Ud hB);obtain⟨I,K⟩:=xf f (iM (x:=x2) Ud hB);obtain⟨L,M⟩:=xf i (iM (x:=s) Ud hB);obtain⟨N,O⟩:=pH rCt UO underlying68 UD (λcs n y hl b P=>Qm hl b P) j (iM (x:=u) Ud hB);obtain⟨S,T⟩:=pJ k (iM (x:=v) Ud hB);obtain⟨U,V⟩:=pJ l (iM (x:=z) Ud hB);simp at o;subst o;exact⟨⟨A,E,I,L,N,S,U⟩,_,_,_,_,_,_,rfl,D,F,K,M,O,T,V⟩
theorem Qo{n:Nat}{cs:List Value}{y:DataW H×List MemPlace}(hl:cs.length=5)(a:DataW.trod enc prog w 0 spare held n 26 cs=some y)(hB:Rows.uptoBulk y.1<=1048576):∃x,rBo.den (Old w) cs x:=by
 obtain⟨p,m,rfl,rfl,_,c,b⟩:=DataW.trod_struct underlying26 a
 match cs,hl,p,c with
 |[M,c1,N,O,P],_,[x0,x1,x2,S,s],_=>
  have e:=b 0 _ rfl;have f:=b 1 _ rfl;have i:=b 2 _ rfl;have j:=b 3 _ rfl;have k:=b 4 _ rfl;simp[show prog.cellsOf 3=1 by kernel_rfl,show prog.cellsOf 22=1 by kernel_rfl,show prog.cellsOf 23=1 by kernel_rfl,show prog.cellsOf 24=1 by kernel_rfl]at e f i j k;obtain⟨u,l,v⟩:=kx e;obtain⟨z,A⟩:=pH rOr UO underlying22 UD (λcs n y hl a d=>Qj hl a) f (iM (x:=x1) Ud hB);obtain⟨D,E⟩:=pH rEn UO underlying23 UD (λcs n y hl a d=>Qn hl a d) i (iM (x:=x2) Ud hB);obtain⟨F,o,I⟩:=kx j;obtain⟨K,L⟩:=pH rPr UO underlying24 UD (λcs n y hl a d=>Ql hl a) k (iM (x:=s) Ud hB);simp at l o;subst l o;exact⟨⟨u,z,D,F,K⟩,_,_,_,rfl,v,I,A,E,L⟩
end
theorem rm{lim:Int}:∀(l:List (List Nd)) (a:Int),a<=du lim l a/\(du lim l a<lim ->(l.length:Int)+a<=du lim l a/\∀t∈l,(t.length:Int)+a<=du lim l a)
 |[],a=>by simp[du]
 |t::r,a=>by
  by_cases h:a<lim
  ·simp only[du]
   rw[KX h];obtain⟨h1,h2⟩:=rm (lim:=lim) r (a+1+(t.length:Int));refine⟨Uo,λg=>?_⟩;obtain⟨d,c⟩:=h2 g;refine⟨by simp only[JV];omega,λu b=>?_⟩;rcases List.mem_cons.1 b with rfl|b
   ·omega
   ·have:=c u b
    omega
  ·rw[P5 h]
   exact⟨Int.le_refl _,λg=>absurd g h⟩
theorem xg{lim:Int}(b:lim<=100000){l:List (List Nd)}(h:du lim l 0<lim):j9 l:=by
 obtain⟨c,a⟩:=(rm l 0).2 h;exact⟨Uo,λt ht=>by have:=a t ht;omega⟩
theorem HX{lim:Int}(b:lim<=100000):∀(l:List gZ) (a:Int),a<=ku lim l a/\(0<=a ->ku lim l a<lim ->(l.length:Int)+a<=ku lim l a/\∀c∈l,j9 c.args/\j9 c.out)
 |[],a=>by simp[ku]
 |c::r,a=>by
  by_cases h:a<lim
  ·simp only[ku]
   rw[KX h];have i:=(rm (lim:=lim) c.args 0).1;have j:=(rm (lim:=lim) c.out 0).1;obtain⟨k,e⟩:=HX (lim:=lim) b r (a+1+du lim c.args 0+du lim c.out 0);refine⟨Uo,λm g=>?_⟩;obtain⟨o,f⟩:=e Uo g;refine⟨by simp only[JV];omega,λu d=>?_⟩;rcases List.mem_cons.1 d with rfl|d
   ·exact⟨xg b Uo,xg b Uo⟩
   ·exact f u d
  ·rw[P6 h]
   exact⟨Int.le_refl _,λ_ g=>absurd g h⟩
theorem HY{lim:Int}(b:lim<=100000):∀(l:List bY) (a:Int),a<=kw lim l a/\(0<=a ->kw lim l a<lim ->(l.length:Int)+a<=kw lim l a/\∀x∈l,sC x)
 |[],a=>by simp[kw]
 |x::r,a=>by
  by_cases h:a<lim
  ·simp only[kw]
   rw[KX h];have j:=(rm (lim:=lim) x.params 0).1;have k:=(rm (lim:=lim) x.indices 0).1;have d:=HX b x.ctors (a+1+(x.sort.length:Int)+(x.type.length:Int)+(x.body.length:Int)+du lim x.params 0+du lim x.indices 0);obtain⟨m,e⟩:=HY (lim:=lim) b r (ku lim x.ctors (a+1+(x.sort.length:Int)+(x.type.length:Int)+(x.body.length:Int)+du lim x.params 0+du lim x.indices 0));refine⟨Uo,λo g=>?_⟩;obtain⟨p,f⟩:=e Uo g;obtain⟨s,i⟩:=d.2 Uo Uo;refine⟨by simp only[JV];omega,λu c=>?_⟩;rcases List.mem_cons.1 c with rfl|c
   ·exact⟨Uo,Uo,Uo,xg b Uo,xg b Uo,Uo,i⟩
   ·exact f u c
  ·rw[P7 h]
   exact⟨Int.le_refl _,λ_ g=>absurd g h⟩
theorem HZ{lim:Int}(c:lim<=100000):∀(l:CxR) (a:Int),a<=jz lim l a/\(0<=a ->jz lim l a<lim ->∀q∈l,q.1.length<=1000000/\q.2.length<=1000000)
 |[],a=>by simp[jz]
 |q::r,a=>by
  by_cases h:a<lim
  ·simp only[jz]
   rw[KX h];obtain⟨h1,h2⟩:=HZ (lim:=lim) c r (a+1+(q.1.length:Int)+(q.2.length:Int));refine⟨Uo,λd g u b=>?_⟩;rcases List.mem_cons.1 b with rfl|b
   ·omega
   ·exact h2 Uo g u b
  ·rw[HU h]
   exact⟨Int.le_refl _,λ_ g=>absurd g h⟩
def Lm{α:Type}(l:List α):Prop:=l.length<=1099511627776
def rn(l:List (List Nd)):Prop:=Lm l/\∀t∈l,Lm t
theorem xh{d:List (List Nd)}{lid:Int}(hl:rn d)(E:0<=lid/\lid<=100000):VC prog 41 [bD d,.int .i64 lid] (.int .i64 (du lid d 0))/\0<=du lid d 0/\du lid d 0<=1200000000000:=by
 obtain⟨o,e⟩:=hl;unfold Lm at o;have v:∀(l:List (List Nd)) (a:Int),(∀t∈l,Lm t) ->0<=a ->a<=1200000000000 ->0<=du lid l a/\du lid l a<=1200000000000:=by
  intro l
  induction l with
  |nil=>intro a _ f b;exact⟨f,b⟩
  |cons t r ih=>
   intro a ht f b;simp only[du];split
   ·have:=ht t Ud
    unfold Lm at this;exact ih _ (λt h=>ht t (by simp[h])) Uo Uo
   ·exact⟨f,b⟩
 refine⟨?_,v d 0 e (Int.le_refl _) UO⟩;refine sf 27 [.tmp 4] τok func41 rfl rfl rfl (QX rfl) UO<|yM τok (σ:=Nat×Int) (λq=>⟨[(0,.c (.p (bD d))),(1,.c (.p (.int .i64 lid))),(5,.c (.p (.int .i64 q.2))),(6,.c (.p (.int .i64 (q.1:Int))))],[]⟩) (λq=>q.1<=d.length/\du lid (d.drop q.1) q.2=du lid d 0/\0<=q.2/\q.2<=1200000000000) (λq=>d.length-q.1) (0,0) id (iu ⟨rfl,rfl,rfl,rfl,trivial⟩ trivial rfl) ⟨KV _,rfl,Ud,Ud⟩ ?_;rintro⟨i,m⟩ ⟨f,b,y,z⟩;simp only at f b y z;refine af (λg=>?_) (λg=>?_)
 ·rw[KF]at g
  obtain⟨t,j,A⟩:=ay (l:=d) (k:=i);have s:=e t (JQ j);unfold Lm at s;rw[A]at b;simp only[du]at b;refine af (λu=>?_) (λu=>?_)
  ·rw[KX u]at b
   refine gC Uo Uo<|oR i [ah t] rfl (by rw[JX,j];rfl) rfl ?_;have D:(t.map ndP).length=t.length:=KF _;refine gC Uo Uo<|gC Uo Uo<|⟨(i+1,m+1+((t.map ndP).length:Nat)),id,Us,⟨Us,by simp only[D];exact b,Us,Us⟩,iu ⟨rfl,rfl,rfl,rfl,trivial⟩ trivial rfl⟩
  ·rw[KY u]at b
   exact⟨_,_,rfl,rfl,KG (PV.int .i64) b⟩
 ·rw[KF]at g
  rw[JY Uo]at b;exact⟨_,_,rfl,rfl,KG (PV.int .i64) b⟩
structure Qp(x:bY):Prop where
 s:Lm x.sort
 t:Lm x.type
 b:Lm x.body
 p:rn x.params
 i:rn x.indices
 c:Lm x.ctors
 a:∀c∈x.ctors,rn c.args/\rn c.out
structure xi(B:ak):Prop where
 o:Lm B.orders
 p:Lm B.prims
 e:Lm B.ents
 x:∀x∈B.ents,Qp x
theorem Qq{B:ak}(hB:xi B){lid:Int}(s:0<=lid/\lid<=100000):VC prog 17 [bw B,.int .i64 lid] (.int .i64 (rl B lid)):=by
 have F:=hB.o;have I:=hB.p;have K:=hB.e;unfold Lm at F I K;have L:=au eZ B.orders;have M:=au iU B.prims;have l3:=au cj B.ents;refine sf 90 [.tmp 4] τok func17 rfl rfl rfl (QX rfl) UO<|gC Uo Uo<|yM τok (σ:=Nat×Int) (λq=>⟨[(1,.c (.p (.int .i64 lid))),(2,.c (.ptr 2 0)),(5,.c (.p (.int .i64 q.2))),(6,.c (.p (.int .i64 (q.1:Int))))],[(2,.st 0 26 ((jK B).map .p))]⟩) (λq=>q.1<=B.ents.length/\kw lid (B.ents.drop q.1) q.2=rl B lid/\0<=q.2/\q.2<=10000000000000) (λq=>B.ents.length-q.1) (0,((B.orders.map eZ).length:Int)+((B.prims.map iU).length:Int)) id (iu ⟨rfl,rfl,rfl,rfl,trivial⟩ ⟨rfl,trivial⟩ rfl) ⟨KV _,by simp only[L,M];rfl,Us,Us⟩ ?_;rintro⟨i,m⟩ ⟨N,b,O,P⟩;simp only at N b O P;refine af (λg=>?_) (λg=>?_)
 ·obtain⟨x,e,S⟩:=ay (l:=B.ents) (k:=i)
  have hx:=hB.x x (JQ e);have q1:=hx.s;have T:=hx.t;have U:=hx.b;have V:=hx.c;unfold Lm at q1 T U V;rw[S]at b;simp only[kw]at b;refine af (λu=>?_) (λu=>?_)
  ·rw[KX u]at b
   refine oR i (cj x) rfl (by rw[JX,e];rfl) rfl ?_;have W:=au ndP x.sort;have X:=au ndP x.type;have Y:=au ndP x.body;have e4:=au cd x.ctors;obtain⟨Z,b1,c1⟩:=xh hx.p s;obtain⟨v2,b2,c2⟩:=xh hx.i s;refine gC Uo Uo<|gC Uo Uo<|gC Uo Uo<|gC Uo Uo<|ae Z ?_;refine gC Uo Uo<|ae v2 ?_;refine gC Uo Uo<|qa UD<|yM τok (σ:=Nat×Int) (λq=>⟨[(1,.c (.p (.int .i64 lid))),(2,.c (.ptr 2 0)),(5,.c (.p (.int .i64 q.2))),(6,.c (.p (.int .i64 (i:Int)))),(7,.c (.ptr 7 0)),(8,.c (.p (.int .i64 (q.1:Int))))],[(2,.st 0 26 ((jK B).map .p)),(7,.st 0 70 ((cj x).map .p))]⟩) (λq=>q.1<=x.ctors.length/\kw lid (B.ents.drop (i+1)) (ku lid (x.ctors.drop q.1) q.2)=rl B lid/\0<=q.2/\q.2<=10000000000000) (λq=>x.ctors.length-q.1) (0,_) id (iu ⟨rfl,rfl,rfl,rfl,rfl,rfl,trivial⟩ ⟨rfl,rfl,trivial⟩ rfl) ⟨KV _,by simp only[W,X,Y];exact b,Us,Us⟩ ?_;rintro⟨j,a⟩ ⟨k1,d,v,y⟩;simp only at k1 d v y;refine af (λg3=>?_) (λg3=>?_)
   ·obtain⟨c,f,z⟩:=ay (l:=x.ctors) (k:=j)
    obtain⟨A,D⟩:=hx.a c (JQ f);rw[z]at d;simp only[ku]at d;refine af (λE=>?_) (λE=>?_)
    ·rw[KX E]at d
     obtain⟨v3,b3,c3⟩:=xh A s;obtain⟨v4,b4,c4⟩:=xh D s;have o:(x.ctors.map cd)[j]?=some (cd c):=by rw[JX,f];rfl
     refine gC Uo Uo<|oR j (cd c) rfl o rfl<|ae v3 ?_;refine gC Uo Uo<|oR j (cd c) rfl o rfl<|ae v4 ?_;exact gC Uo Uo<|qa UD<|gC Uo Uo<|⟨(j+1,_),id,Us,⟨Us,d,Us,Us⟩,iu ⟨rfl,rfl,rfl,rfl,rfl,rfl,trivial⟩ ⟨rfl,rfl,trivial⟩ rfl⟩
    ·rw[KY E]at d
     exact gC Uo Uo<|⟨(i+1,a),id,Us,⟨Us,d,v,y⟩,iu ⟨rfl,rfl,rfl,rfl,trivial⟩ ⟨rfl,trivial⟩ rfl⟩
   ·have e5:x.ctors.drop j=[]:=JY Uo
    rw[e5]at d;exact gC Uo Uo<|⟨(i+1,a),id,Us,⟨Us,d,v,y⟩,iu ⟨rfl,rfl,rfl,rfl,trivial⟩ ⟨rfl,trivial⟩ rfl⟩
  ·rw[KY u]at b
   exact⟨_,_,rfl,rfl,KG (PV.int .i64) b⟩
 ·rw[JY Uo]at b
  exact⟨_,_,rfl,rfl,KG (PV.int .i64) b⟩
theorem B4{c:CxR}(hc:Lm c)(m:∀q∈c,Lm q.1/\Lm q.2){lim:Int}(z:0<=lim/\lim<=100000):VC prog 18 [aH c,pI lim] (pI (jz lim c 0)):=by
 have eC:=au bdP c;unfold Lm at hc;generalize b:jz lim c 0=d;refine vf 35 [.tmp 4] τok func18 ?_;refine vl τok (σ:=Nat×Int) [(0,_),(1,_)] (λq=>[(5,vI q.2),(6,vI q.1)]) (λq=>q.1<=c.length/\0<=q.2/\q.2<=4000000000000/\jz lim (c.drop q.1) q.2=d) (λq=>c.length-q.1) (0,0) ⟨KV _,Int.le_refl _,UO,b⟩ ?_
 clear b
 rintro⟨i,a⟩ ⟨o,f,j,hr⟩;simp only at o f j hr;have fin:jz lim (c.drop i) a=a ->ge' [PV.nz (pI a)]=pI d:=λh=>by rw[<- hr,h];rfl
 refine af (λg=>?_) (λg=>?_);rotate_left
 ·exact⟨_,_,rfl,rfl,fin (by rw[JY (by have g:¬ (i:Int)<((c.map bdP).length:Int):=g;omega)];rfl)⟩
 have g:(i:Int)<((c.map bdP).length:Int):=g;refine af (λe=>?_) (λe=>?_);rotate_left
 ·exact⟨_,_,rfl,rfl,fin (HU e _)⟩
 have e:a<lim:=e;obtain⟨q,hx,s⟩:=ay (l:=c) (k:=i);obtain⟨q1,u⟩:=m q (JQ hx);unfold Lm at q1 u;have v:=au ndP q.1;have y:=au ndP q.2;rw[s]at hr;simp only[jz]at hr;rw[KX e]at hr;refine vi ?_;refine vm (p:=bdP) i hx ?_;refine vi ?_;refine vm (p:=bdP) i hx ?_;refine vi ?_;refine vk ?_;refine vi ?_;exact aw (i+1,a+1+((q.1.map ndP).length:Int)+((q.2.map ndP).length:Int)) ⟨by show i+1<=_;omega,Us,Us,by simp only[v,y];exact hr⟩
def caP(x:xe):PV:=.agg (jK x.book++[aH x.ctx,ah x.term,ah x.type,pI x.fuel])
structure LmX(x:xe):Prop where
 b:xi x.book
 c:Lm x.ctx
 q:∀q∈x.ctx,Lm q.1/\Lm q.2
 t:Lm x.term
 y:Lm x.type
end Go.Q
