import Derived.Test.YtdfeclpphaccnaaGreatMk10
set_option linter.all false
set_option maxRecDepth 100000
set_option maxHeartbeats 4000000
open Go.Proofs Go.Proofs.Tryz Cd Go.Wx Lv Tm
namespace Go.Q
theorem ng(a b c:Int):bv (bv a b) c=bv a (bv b c):=by
 unfold bv
 by_cases h:a≠0
 ·rw[KX h,KX h,KX h]
 ·rw[KY h,KY h]
theorem lZ{a b:Int}(h:a≠0):bv a b=a:=KX h
theorem ke{a b:Int}(h:¬ a≠0):bv a b=b:=KY h
theorem MS{B:ak}{known:Nat}{self:Int}:∀(ls:List (List Nd)) (b:Int) (i:Nat) (t:List Nd),ls[i]?=some t ->bW B known self 0 (ls.drop i) b=bv (cZ B known self t b) (bW B known self 0 (ls.drop (i+1)) b):=λls b i t h=>by
 rw[AI ls b i t h,Int.add_zero]
 rfl
theorem MT{B:ak}(hB:dy B){i:Nat}{x:cf}(C:B.ents[i]?=some x):VC prog 63 [bw B,pI i] (pI (fJ B i x)):=by
 have a0:=aL C;have s:i<=B.ents.length:=Uo
 have d:=hB.x x (JQ C);have e1:=au ndP x.sort;have e2:=au (λt=>[ah t]) x.params;have e3:=au (λt=>[ah t]) x.indices;have e4:=au bM x.ctors;have e5:=au ndP x.type;have e6:=au ndP x.body;have s1:=d.s;have s2:=d.p.1;have s3:=d.i.1;have s4:=d.c;refine cR 179 [.tmp 4] τok func63 ?_;refine aD<|aD<|vm i C ?_;refine aD<|af (λu=>?_) (λu=>?_)
 ·have D:fJ B i x=if 0<x.sort.length+x.params.length+x.indices.length+x.ctors.length then 8 else bv (cZ B i (-1) x.type 0) (cZ B i (-1) x.body 0):=by
   unfold fJ;rw[KY Uo,KX u]
   congr 1
   simp only[bW,bv,Int.add_zero];split
   ·rfl
   ·split
    ·rfl
    ·omega
  rw[D];have o:0<x.sort.length+x.params.length+x.indices.length+x.ctors.length ->pI 8=pI (if 0<x.sort.length+x.params.length+x.indices.length+x.ctors.length then 8 else bv (cZ B i (-1) x.type 0) (cZ B i (-1) x.body 0)):=λh=>by rw[KX h]
  refine af (λq1=>?_) (λq1=>?_)
  ·exact⟨_,_,rfl,rfl,o Uo⟩
  refine af (λE=>?_) (λE=>?_)
  ·exact⟨_,_,rfl,rfl,o Uo⟩
  refine af (λF=>?_) (λF=>?_)
  ·exact⟨_,_,rfl,rfl,o Uo⟩
  refine af (λH=>?_) (λH=>?_)
  ·exact⟨_,_,rfl,rfl,o Uo⟩
  rw[KY Uo];refine ae (sS s x.type d.t 0) ?_;refine af (λI=>?_) (λI=>?_)
  ·refine ae (sS s x.body d.b 0) ?_
   exact aE (h3:=by rw[ke Uo];rfl)
  ·exact aE (h3:=by rw[lZ Uo];rfl)
 refine aD ?_;have L:(x.kind≠1 \/0<x.type.length+x.body.length) ->pI 8=pI (fJ B i x):=λh=>by
  unfold fJ
  by_cases W:x.kind=1
  ·rw[KX W,KX (h.resolve_left Uo)]
  ·rw[KY W,KY u]
 refine af (λq1=>?_) (λq1=>?_)
 ·exact⟨_,_,rfl,rfl,L (.inl q1)⟩
 refine af (λE=>?_) (λE=>?_)
 ·exact⟨_,_,rfl,rfl,L Uo⟩
 refine af (λF=>?_) (λF=>?_)
 ·exact⟨_,_,rfl,rfl,L Uo⟩
 have D:fJ B i x=if 16<x.params.length \/16<x.indices.length \/16<x.ctors.length then 5 else bv (cZ B i (-1) x.sort 0) (bv (iB x.sort) (bv (bW B i (-1) 1 x.params 0) (bv (bW B i (-1) 1 x.indices (x.params.length:Int)) (gJ B i x x.ctors)))):=by
  unfold fJ;rw[KX Uo,KY Uo]
 rw[D];have M:(16<x.params.length \/16<x.indices.length \/16<x.ctors.length) ->pI 5=pI (if 16<x.params.length \/16<x.indices.length \/16<x.ctors.length then 5 else bv (cZ B i (-1) x.sort 0) (bv (iB x.sort) (bv (bW B i (-1) 1 x.params 0) (bv (bW B i (-1) 1 x.indices (x.params.length:Int)) (gJ B i x x.ctors))))):=λh=>by rw[KX h]
 refine aD<|af (λH=>?_) (λH=>?_)
 ·exact⟨_,_,rfl,rfl,M Uo⟩
 refine af (λI=>?_) (λI=>?_)
 ·exact⟨_,_,rfl,rfl,M Uo⟩
 refine af (λq6=>?_) (λq6=>?_)
 ·exact⟨_,_,rfl,rfl,M Uo⟩
 rw[KY Uo];refine aD<|aD<|ae (sS s x.sort s1 0) ?_;refine dY τok (σ:=Unit) [(1,_),(2,_),(4,_),(5,_),(7,_)] [(2,_),(5,_)] (λ_=>[(8,vI (bv (cZ B i (-1) x.sort 0) (iB x.sort)))]) (λ_=>[]) (λ_=>True) ?_ ?_
 ·refine af (λb=>?_) (λb=>?_)
  ·have hs:fx x.sort=0:=by
    unfold cZ at b;split at b
    ·exact absurd b (by assumption)
    ·rename_i h;exact QY h
   obtain⟨y,hy,hr⟩:=vR hs;have O:=bg y;obtain⟨m,X⟩:∃m,x.sort[0]?=some m:=⟨_,List.getElem?_eq_getElem (by rw[hr];exact O)⟩
   have Y:iB x.sort=if m.op≠2 then 8 else 0:=by unfold iB;rw[QK,X];rfl
   refine vm 0 X ?_;refine af (λr=>?_) (λr=>?_)
   ·exact aw () trivial (x:=⟨by rw[ke Uo,Y,KX r];rfl,trivial⟩)
   ·exact aw () trivial (x:=⟨by rw[ke Uo,Y,KY r,b];rfl,trivial⟩)
  ·exact aw () trivial (x:=⟨KG (λz=>some (vI z)) (lZ Uo).symm,trivial⟩)
 rintro _ _;refine dY τok (σ:=Unit) [(1,_),(2,_),(4,_),(5,_),(7,_)] [(2,_),(5,_)] (λ_=>[(8,vI (bv (bv (cZ B i (-1) x.sort 0) (iB x.sort)) (bW B i (-1) 1 x.params 0)))]) (λ_=>[]) (λ_=>True) ?_ ?_
 ·refine af (λb=>?_) (λb=>?_)
  ·refine ae (AJ s d.p Uo) ?_
   exact aw () trivial (x:=⟨KG (λz=>some (vI z)) (ke Uo).symm,trivial⟩)
  ·exact aw () trivial (x:=⟨KG (λz=>some (vI z)) (lZ Uo).symm,trivial⟩)
 rintro _ _;have S:((x.params.map λt=>[ah t]).length:Int)=(x.params.length:Int):=by rw[e2]
 refine dY τok (σ:=Unit) [(1,_),(2,_),(4,_),(5,_),(7,_)] [(2,_),(5,_)] (λ_=>[(8,vI (bv (bv (bv (cZ B i (-1) x.sort 0) (iB x.sort)) (bW B i (-1) 1 x.params 0)) (bW B i (-1) 1 x.indices (x.params.length:Int))))]) (λ_=>[]) (λ_=>True) ?_ ?_
 ·refine af (λb=>?_) (λb=>?_)
  ·refine ae (show VC prog _ [bw B,pI i,pI (-1),pI ((x.params.map λt=>[ah t]).length:Int),bD x.indices] _ by rw[S];exact AJ s d.i Uo) ?_
   exact aw () trivial (x:=⟨KG (λz=>some (vI z)) (ke Uo).symm,trivial⟩)
  ·exact aw () trivial (x:=⟨KG (λz=>some (vI z)) (lZ Uo).symm,trivial⟩)
 rintro _ _;rw[<- ng,<- ng,<- ng];refine aj<|aB τok (σ:=Nat×Int) [(1,_),(2,_),(4,_),(5,_),(7,_)] [(2,_),(5,_)] (λq=>[(8,vI q.2),(9,vI q.1)]) (λ_=>[]) (λq=>q.1<=x.ctors.length/\bv (bv (bv (bv (cZ B i (-1) x.sort 0) (iB x.sort)) (bW B i (-1) 1 x.params 0)) (bW B i (-1) 1 x.indices (x.params.length:Int))) (gJ B i x x.ctors)=bv q.2 (gJ B i x (x.ctors.drop q.1))) (λq=>x.ctors.length-q.1) (0,_) ⟨KV _,rfl⟩ ?_;rintro⟨k,e⟩ ⟨b,r⟩;simp only at b r;refine aD<|af (λZ=>?_) (λZ=>?_)
 ·refine af (λu=>?_) (λu=>?_)
  ·simp only at u
   obtain⟨c,hc,hd⟩:=ay (l:=x.ctors) (k:=k);obtain⟨ca,co⟩:=d.a c (JQ hc);have f1:=au (λt=>[ah t]) c.args;have f2:=au (λt=>[ah t]) c.out;have a1:=ca.1;rw[hd,ke (a:=e) Uo]at r;rw[r];have eC:gJ B i x (c::x.ctors.drop (k+1))=if 16<c.args.length then 5 else if c.out.length≠x.indices.length then 8 else bv (bv (bW B i i 1 c.args (x.params.length:Int)) (bW B i i 0 c.out ((x.params.length:Int)+(c.args.length:Int)))) (gJ B i x (x.ctors.drop (k+1))):=by
    rw[ng]
    rfl
   rw[eC];refine VCode.seq (VCode.blk<|aD<|vm k hc ?_);refine aD<|af (λk3=>?_) (λk3=>?_)
   ·exact aE (h3:=by rw[KX Uo];rfl)
   refine aD<|af (λk4=>?_) (λk4=>?_)
   ·exact aE (h3:=by rw[KY Uo,KX Uo];rfl)
   rw[KY Uo,KY Uo];refine aj<|ae (show VC prog _ [bw B,pI i,pI i,pI ((x.params.map λt=>[ah t]).length:Int),bD c.args] _ by rw[S];exact AJ s ca Uo) ?_;refine aB τok (σ:=Nat×Int) [(1,_),(2,_),(4,_),(5,_),(7,_),(9,_),(10,_)] [(2,_),(5,_),(10,_)] (λq=>[(8,vI q.2),(11,vI q.1)]) (λ_=>[]) (λq=>q.1<=c.out.length/\bv (bW B i i 1 c.args (x.params.length:Int)) (bW B i i 0 c.out ((x.params.length:Int)+(c.args.length:Int)))=bv q.2 (bW B i i 0 (c.out.drop q.1) ((x.params.length:Int)+(c.args.length:Int)))) (λq=>c.out.length-q.1) (0,_) ⟨KV _,rfl⟩ ?_;rintro⟨j,v⟩ ⟨j1,w⟩;simp only at j1 w;refine aj ?_;have done:(v≠0 \/c.out.length<=j) ->bv (bW B i i 1 c.args (x.params.length:Int)) (bW B i i 0 c.out ((x.params.length:Int)+(c.args.length:Int)))=v:=λh=>by
    rw[w];rcases h with h|h
    ·exact lZ h
    ·rw[JY h]
     unfold bv;split
     ·rfl
     ·rename_i h;simp only[bW];omega
   refine af (λk5=>?_) (λk5=>?_)
   ·refine af (λU=>?_) (λU=>?_)
    ·simp only at U
     obtain⟨t,V,a2⟩:=ay (l:=c.out) (k:=j);rw[MS _ _ j t V,ke (a:=v) Uo]at w;refine vi ?_;refine vm j V ?_;refine ae (show VC prog _ [bw B,pI i,pI i,pI (((x.params.map λt=>[ah t]).length:Int)+((c.args.map λt=>[ah t]).length:Int)),ah t] _ by rw[S,f1];exact sS s t (co.2 t (JQ V)) _) ?_;refine vk ?_;refine vi ?_;exact aw (j+1,_) ⟨Us,w⟩
    ·refine aj ?_
     refine vi ?_;exact aw (k+1,v) ⟨Us,by rw[done (.inl U)]⟩
   ·refine aj ?_
    refine vi ?_;exact aw (k+1,v) ⟨Us,by rw[done (.inr (by simp only at k5;omega))]⟩
  ·exact aE (h3:=by rw[r,lZ u];rfl)
 ·exact aE (h3:=by
   rw[r,JY (by simp only at Z;omega)];refine KG pI ?_;simp only;unfold bv;split
   ·rfl
   ·rename_i h;simp only[gJ];omega)
theorem MU(vars:Int)(os:List aZ):iM vars os=p9 vars os:=by
 rw[El]
 rfl
def gF(l:List (Int×Int)):G:=l.foldl (λg p=>putG (putG g p.1 (-1) 1) (-1) p.2 1) λ_ _=>none
theorem FW(l:List (Int×Int))(p:Int×Int):gF (l++[p])=putG (putG (gF l) p.1 (-1) 1) (-1) p.2 1:=by
 unfold gF;rw[List.foldl_append]
 rfl
theorem MW{l:List (Int×Int)}(h:∀p∈l,0<=p.1/\1<=p.2){e d:Int}(he:0<=e)(z:1<=d):(0<(gF l e (-1)).getD 0+(gF l (-1) d).getD 0↔∃p∈l,p.1=e \/p.2=d)/\0<=(gF l e (-1)).getD 0/\0<=(gF l (-1) d).getD 0:=by
 have j:∀r:List (Int×Int),(∀p∈r,0<=p.1/\1<=p.2) ->((0<(gF r.reverse e (-1)).getD 0+(gF r.reverse (-1) d).getD 0↔∃p∈r,p.1=e \/p.2=d)/\0<=(gF r.reverse e (-1)).getD 0/\0<=(gF r.reverse (-1) d).getD 0):=by
  intro r
  induction r with
  |nil=>intro _;simp[gF]
  |cons p r t=>
   intro hr;obtain⟨u,k,o⟩:=t λq a=>hr q (by simp[a]);have s:=hr p Ud;rw[List.reverse_cons,FW];have v:putG (putG (gF r.reverse) p.1 (-1) 1) (-1) p.2 1 e (-1)=if e=p.1 then some 1 else gF r.reverse e (-1):=by
    simp only[putG];rw[KY Uo]
    by_cases h:e=p.1
    ·rw[KX ⟨h,trivial⟩,KX h]
    ·rw[KY λq=>h q.1,KY h]
   have w:putG (putG (gF r.reverse) p.1 (-1) 1) (-1) p.2 1 (-1) d=if d=p.2 then some 1 else gF r.reverse (-1) d:=by
    simp only[putG]
    by_cases h:d=p.2
    ·rw[KX ⟨trivial,h⟩,KX h]
    ·rw[KY λq=>h q.2,KY h,KY Uo]
   rw[v,w]
   by_cases i:e=p.1
   ·rw[KX i]
    by_cases b:d=p.2
    ·rw[KX b]
     exact⟨⟨λ_=>⟨p,Ud,.inl i.symm⟩,λ_=>Ud⟩,Ud,Ud⟩
    ·rw[KY b]
     exact⟨⟨λ_=>⟨p,Ud,.inl i.symm⟩,λ_=>by simp only[Option.getD_some];omega⟩,Ud,o⟩
   ·rw[KY i]
    by_cases b:d=p.2
    ·rw[KX b]
     exact⟨⟨λ_=>⟨p,Ud,.inr b.symm⟩,λ_=>by simp only[Option.getD_some];omega⟩,k,Ud⟩
    ·rw[KY b]
     refine⟨?_,k,o⟩;rw[u];constructor
     ·rintro⟨q,a,h⟩;exact⟨q,by simp[a],h⟩
     ·rintro⟨q,a,h⟩
      rcases List.mem_cons.1 a with rfl|a
      ·rcases h with h|h
       ·exact absurd h.symm i
       ·exact absurd h.symm b
      ·exact⟨q,a,h⟩
 have:=j l.reverse λp s=>h p (by simpa using s)
 simpa using this
theorem FX{B:ak}:∀(l:List cf) (k i:Nat) (x:cf),l[i]?=some x ->kT B (l.drop i) (k+i)=bv (fJ B (k+i) x) (kT B (l.drop (i+1)) (k+i+1))
 |y::r,k,0,x,h=>by
  obtain rfl:=JB h
  rfl
 |y::r,k,i+1,x,h=>by
  have:=FX (B:=B) r (k+1) i x h;rw[show k+1+i=k+(i+1) by omega]at this;exact this
theorem MX{B:ak}{i:Nat}{x:cf}(h1:x.kind=1)(he:fJ B i x=0):x.sort=[⟨2,1,1⟩,⟨3,0,0⟩]↔¬ (x.sort.length≠2 \/(x.sort.getD 0 ⟨0,0,0⟩).a≠1 \/x.sort.getD 1 ⟨0,0,0⟩≠⟨3,0,0⟩):=by
 constructor
 ·intro h
  rw[h]
  decide
 ·intro h
  unfold fJ at he;rw[KX h1]at he;split at he
  ·cases he
  split at he
  ·cases he
  obtain⟨f1,f2⟩:=ot.1 he;obtain⟨f2,_⟩:=ot.1 f2;have v:fx x.sort=0:=by
   unfold cZ at f1;split at f1
   ·exact absurd f1 (by assumption)
   ·rename_i h;exact QY h
  obtain⟨y,t,hr⟩:=vR v
  match s:x.sort with
  |[]=>rw[s]at h;simp at h
  |[a]=>rw[s]at h;simp at h
  |a::b::c::r=>rw[s]at h;simp at h
  |[a,b]=>
   rw[s]at h f2 hr;have w:b=⟨3,0,0⟩:=by
    have:¬ ([a,b].getD 1 ⟨0,0,0⟩≠⟨3,0,0⟩):=λq=>h (.inr (.inr q))
    simpa using this
   have u:a.a=1:=by
    have:¬ (([a,b].getD 0 ⟨0,0,0⟩).a≠1):=λq=>h (.inr (.inl q))
    simpa using this
   have j:a.op=2:=by
    unfold iB at f2;split at f2
    ·cases f2
    ·rename_i q;simpa using q
   have l:a.b=1:=by
    obtain⟨n,z⟩:=y;simp only[row,List.cons.injEq]at hr;obtain⟨rfl,hr⟩:=hr;obtain⟨C,D,H⟩:=t.ok.kids;obtain⟨E,_,_,e⟩:=eZ C;rw[KX j]at e;have d:=vQ t.ok j
    match z,hr,d,e with
    |[],hr,_,_=>simp[rows]at hr
    |[k],hr,_,e=>
     have:=dn E;simp at e;omega
    |k::F::r,hr,d,e=>
     obtain⟨m,rfl,_⟩:=d k Ud;obtain⟨I,rfl,_⟩:=d F Ud;simp[rows,row]at hr
   obtain⟨o,p,q⟩:=a;simp only at u j l;subst u j l;rw[w]
theorem wa{B:ak}(hB:dy B):VC prog 30 [bw B] (pI (dh B)):=by
 have eE:=au cj B.ents;have eP:=au iO B.prims;have a7:=hB.e;have a8:=hB.p;have I:=FI (vars:=B.vars) hB.o;rw[MU]at I;refine cR 176 [.tmp 2] τok func30 ?_;refine aD<|aD<|ae I ?_;refine aD<|af (λV=>?_) (λV=>?_)
 ·exact aE (h3:=by unfold dh;rw[KX V];rfl)
 refine aD<|af (λk2=>?_) (λk2=>?_)
 ·exact aE (h3:=by unfold dh;rw[KY V,KX Uo];rfl)
 have eF:dh B=bv (kT B B.ents 0) (if iC B=true then 0 else 22):=by unfold dh;rw[KY V,KY Uo]
 rw[eF];refine dY τok (σ:=Unit) [(1,_),(2,_)] [(1,_)] (λ_=>[]) (λ_=>[]) (λ_=>kT B B.ents 0=0/\∀(i:Nat) x,B.ents[i]?=some x ->fJ B i x=0) ?_ ?_
 ·refine aB τok (σ:=Nat) [(1,_),(2,_)] [(1,_)] (λi=>[(4,vI i)]) (λ_=>[]) (λi=>i<=B.ents.length/\kT B B.ents 0=kT B (B.ents.drop i) i/\∀(j:Nat) x,j<i ->B.ents[j]?=some x ->fJ B j x=0) (λi=>B.ents.length-i) 0 ⟨KV _,rfl,λj x hj=>absurd hj Uo⟩ ?_
  rintro i ⟨g1,w,L⟩;refine aj<|af (λg=>?_) (λg=>?_)
  ·obtain⟨x,o,hd⟩:=ay (l:=B.ents) (k:=i)
   have M:=FX (B:=B) B.ents 0 i x o;rw[KW]at M;rw[M]at w;refine ae (MT hB o) ?_;refine af (λr=>?_) (λr=>?_)
   ·exact aE (h3:=by rw[w,ng,lZ r];rfl)
   ·refine vi ?_
    refine aw (i+1) ⟨Uo,by rw[w,ke r],λj y hj Z=>?_⟩
    by_cases e:j=i
    ·subst e
     rw[o]at Z;obtain rfl:=JB Z;omega
    ·exact L j y Uo Z
  ·rw[JY Uo]at w
   exact aw () ⟨w,λj x o=>L j x (by have:=aL o;omega) o⟩
 rintro _ ⟨m1,m2⟩;rw[ke (by rw[m1];decide)];have C:iC B=false ->pI 22=pI (if iC B=true then 0 else 22):=λh=>by rw[h];rfl
 refine dY τok (σ:=Unit) [(1,_),(2,_)] [(1,_)] (λ_=>[]) (λ_=>[]) (λ_=>B.nat≠ -1 ->m8 B B.nat=true) ?_ ?_
 ·refine af (λn1=>?_) (λn1=>?_)
  ·have D:m8 B B.nat=false ->pI 22=pI (if iC B=true then 0 else 22):=λh=>C (by unfold iC;rw[KX (.inl ⟨n1,h⟩)])
   have v:=qx (known:=B.ents.length) (KJ _) B.nat;rw[show ((B.ents.length:Nat):Int)=((B.ents.map cj).length:Int) by rw[eE]]at v;refine bX v (λf=>?_) (λf=>?_)
   ·have ff:(0<=B.nat/\B.nat<B.ents.length/\(aN B B.nat).kind=1):=by simpa[bk]using f
    have o:=kc (B:=B) ff.1;obtain⟨x,O⟩:∃x,aN B B.nat=x:=⟨_,rfl⟩
    rw[O]at o ff;have a0:=m2 _ x o;have W:=hB.x x (JQ o);have st:=MX ff.2.2 a0;have f1:=au (λt=>[ah t]) x.params;have f2:=au (λt=>[ah t]) x.indices;have f3:=au bM x.ctors;have z1:=W.p.1;have z2:=W.i.1;have u:m8 B B.nat=if x.sort.length≠2 \/(x.sort.getD 0 ⟨0,0,0⟩).a≠1 \/x.sort.getD 1 ⟨0,0,0⟩≠⟨3,0,0⟩ \/0<x.params.length+x.indices.length \/x.ctors.length≠2 then false
 else decide ((x.ctors.getD 0 default).args.length=0) && (decide ((x.ctors.getD 1 default).args.length=1) && (decide (((x.ctors.getD 1 default).args.getD 0 []).length=1) && decide (((x.ctors.getD 1 default).args.getD 0 []).getD 0 ⟨0,0,0⟩=⟨9,B.nat,0⟩))):=by
     unfold m8;rw[O,KY Uo]
    refine vm B.nat.toNat o ?_;have hs:=Az (a:=x.sort) (b:=[⟨2,1,1⟩,⟨3,0,0⟩]) (by have:=W.s;omega) Ud;refine bX hs (λs=>?_) (λs=>?_)
    ·have s:=st.1 (of_decide_eq_true s)
     refine vi ?_;refine af (λn2=>?_) (λn2=>?_)
     ·exact⟨_,_,rfl,rfl,D (by rw[u,KX (.inr (.inr (.inr (.inl Uo))))])⟩
     refine af (λn3=>?_) (λn3=>?_)
     ·exact⟨_,_,rfl,rfl,D (by rw[u,KX (.inr (.inr (.inr (.inr Uo))))])⟩
     rw[KY (by
      rintro(h|h|h|h|h)
      ·exact s (.inl h)
      ·exact s (.inr (.inl h))
      ·exact s (.inr (.inr h))
      ·omega
      ·omega)]at u
     obtain⟨X,h0⟩:∃c,x.ctors[0]?=some c:=⟨_,gE⟩
     obtain⟨c1,Y⟩:∃c,x.ctors[1]?=some c:=⟨_,gE⟩
     rw[show x.ctors.getD 0 default=X by rw[QK,h0];rfl,show x.ctors.getD 1 default=c1 by rw[QK,Y];rfl]at u;have e0:=au (λt=>[ah t]) X.args;have e1:=au (λt=>[ah t]) c1.args;refine vm 0 h0 ?_;refine af (λn4=>?_) (λn4=>?_)
     ·refine vk ?_
      exact⟨_,_,rfl,rfl,D (by rw[u,KH Uo];rfl)⟩
     refine vm 1 Y ?_;refine af (λn5=>?_) (λn5=>?_)
     ·refine vk ?_
      exact⟨_,_,rfl,rfl,D (by rw[u,KU (show X.args.length=0 by omega),KH (show ¬ c1.args.length=1 by omega)];rfl)⟩
     obtain⟨t,ht⟩:∃t,c1.args[0]?=some t:=⟨_,gE⟩
     rw[show c1.args.getD 0 []=t by rw[QK,ht];rfl,KU (show X.args.length=0 by omega),KU (show c1.args.length=1 by omega)]at u;have a9:=((W.a c1 (JQ Y)).1.2 t (JQ ht))
     have eT:(decide (t.length=1) && decide (t.getD 0 ⟨0,0,0⟩=⟨9,B.nat,0⟩))=decide (t=[⟨9,B.nat,0⟩]):=by
      rw[Bool.eq_iff_iff];simp only[Bool.and_eq_true,decide_eq_true_eq];constructor
      ·rintro⟨S,E⟩
       match t,S,E with
       |[m],_,E=>rw[show m=⟨9,B.nat,0⟩from E]
      ·rintro rfl
       exact⟨rfl,rfl⟩
     rw[Bool.true_and,Bool.true_and,eT]at u;refine vm 1 Y ?_;refine vm 0 ht ?_;refine bX (Az (a:=t) (b:=[⟨9,B.nat,0⟩]) Uo Ud) (λs2=>?_) (λs2=>?_)
     ·refine vk ?_
      exact aw () λ_=>by rw[u,s2]
     ·refine vk ?_
      exact⟨_,_,rfl,rfl,D (by rw[u,s2])⟩
    ·have s:=λq=>of_decide_eq_false s (st.2 q)
     exact⟨_,_,rfl,rfl,D (by
      rw[u,KX];rcases QY s with h|h|h
      ·exact .inl h
      ·exact .inr (.inl h)
      ·exact .inr (.inr (.inl h)))⟩
   ·exact⟨_,_,rfl,rfl,D (by
     unfold m8;rw[KX];have:¬ (0<=B.nat/\B.nat<B.ents.length/\(aN B B.nat).kind=1):=λq=>by
      have:bk B B.ents.length B.nat=true:=by simpa[bk]using q
      rw[f]at this;cases this
     omega)⟩
  ·exact aw () λh=>absurd h n1
 rintro _ m3;refine aj ?_;have eR:(B.nat= -1 ->B.prims.length=0) ->iC B=m9 B B.prims (gF []):=λh=>by
  unfold iC;rw[KY]
  ·rfl
  ·rintro(⟨S,E⟩|⟨S,E⟩)
   ·rw[m3 S]at E;cases E
   ·have:=h S;omega
 refine aB τok (σ:=Nat) [(1,_),(2,_)] [(1,_)] (λi=>[(6,vI i)]) (λ_=>[]) (λi=>i<=B.prims.length/\(B.nat= -1 ->i=0)/\(∀p∈B.prims.take i,0<=p.1/\1<=p.2)/\m9 B B.prims (gF [])=m9 B (B.prims.drop i) (gF (B.prims.take i))) (λi=>B.prims.length-i) 0 ⟨KV _,λ_=>rfl,Ud,Ud⟩ ?_;rintro i ⟨g1,w,L,r⟩;refine aj<|af (λg=>?_) (λg=>?_)
 ·obtain⟨p,hp,hd⟩:=ay (l:=B.prims) (k:=i)
  rw[hd]at r;simp only[m9]at r;refine vm i hp ?_;refine af (λq1=>?_) (λq1=>?_)
  ·exact⟨_,_,rfl,rfl,C (by unfold iC;rw[KX (.inr ⟨q1,Uo⟩)])⟩
  have a3:=eR λh=>absurd h q1;have F:(p.1<0 \/(B.ents.length:Int)<=p.1 \/(aN B p.1).kind≠2 \/p.2<1 \/3<p.2 \/0<(gF (B.prims.take i) p.1 (-1)).getD 0+(gF (B.prims.take i) (-1) p.2).getD 0) ->pI 22=pI (if iC B=true then 0 else 22):=λh=>C (by rw[a3,r,KX h]);refine af (λq2=>?_) (λq2=>?_)
  ·exact⟨_,_,rfl,rfl,F (.inl q2)⟩
  refine af (λq3=>?_) (λq3=>?_)
  ·exact⟨_,_,rfl,rfl,F (.inr (.inl Uo))⟩
  refine af (λq4=>?_) (λq4=>?_)
  ·exact⟨_,_,rfl,rfl,F (.inr (.inr (.inr (.inl q4))))⟩
  refine af (λq5=>?_) (λq5=>?_)
  ·exact⟨_,_,rfl,rfl,F (.inr (.inr (.inr (.inr (.inl q5)))))⟩
  refine vm p.1.toNat (kc (B:=B) (a:=p.1) Uo) ?_;refine af (λq6=>?_) (λq6=>?_)
  ·exact⟨_,_,rfl,rfl,F (.inr (.inr (.inl q6)))⟩
  obtain⟨r1,r2,r3⟩:=MW L (e:=p.1) (d:=p.2) Uo Uo;refine aB τok (σ:=Nat) [(1,_),(2,_),(6,_),(7,_)] [(1,_),(7,_)] (λj=>[(8,vI j)]) (λ_=>[]) (λj=>j<=i/\∀q∈B.prims.take j,¬ (q.1=p.1 \/q.2=p.2)) (λj=>i-j) 0 ⟨KV _,Ud⟩ ?_;rintro j ⟨j1,j2⟩;refine aj<|af (λq7=>?_) (λq7=>?_)
  ·obtain⟨q,H,a'⟩:=ay (l:=B.prims) (k:=j)
   have a4:q∈B.prims.take i:=by
    refine JQ (i:=j) ?_;rw[List.getElem?_take,KX Uo];exact H
   have b3:(q.1=p.1 \/q.2=p.2) ->pI 22=pI (if iC B=true then 0 else 22):=λh=>F (.inr (.inr (.inr (.inr (.inr (r1.2 ⟨q,a4,h⟩))))));refine vm j H ?_;refine af (λq8=>?_) (λq8=>?_)
   ·refine vk ?_
    exact⟨_,_,rfl,rfl,b3 (.inl q8)⟩
   refine vm j H ?_;refine af (λq9=>?_) (λq9=>?_)
   ·refine vk ?_
    exact⟨_,_,rfl,rfl,b3 (.inr q9)⟩
   refine vk ?_;refine vi ?_;refine aw (j+1) ⟨Uo,λz U=>?_⟩;rw[QQ,H,Option.toList]at U;rcases List.mem_append.1 U with h|h
   ·exact j2 z h
   ·obtain rfl:=List.mem_singleton.1 h
    rintro(h|h)
    ·exact q8 h
    ·exact q9 h
  ·have a5:j=i:=Uo
   subst a5;have a6:¬ 0<(gF (B.prims.take j) p.1 (-1)).getD 0+(gF (B.prims.take j) (-1) p.2).getD 0:=λh=>by
    obtain⟨q,H,hh⟩:=r1.1 h;exact j2 q H hh
   rw[KY (by
    rintro(h|h|h|h|h|h)
    ·exact q2 h
    ·omega
    ·exact q6 h
    ·exact q4 h
    ·exact q5 h
    ·exact a6 h)]at r
   refine vi ?_;have et:B.prims.take (j+1)=B.prims.take j++[p]:=by rw[QQ,hp];rfl
   refine aw (j+1) ⟨Uo,λh=>absurd h q1,λz U=>?_,by rw[r,et,FW]⟩;rw[et]at U;rcases List.mem_append.1 U with h|h
   ·exact L z h
   ·obtain rfl:=List.mem_singleton.1 h
    omega
 ·rw[JY Uo]at r
  exact aE (h3:=by
   rw[eR λh=>by have:=w h;omega,r]
   rfl)
theorem FY(op:Int):∀(a b:List Tr) (x:Tr),eI op (a++b) x=eI op a (eI op b x)
 |[],_,_=>rfl
 |y::r,b,x=>by simp only[List.cons_append,eI,FY op r b x]
theorem FZ(a b:List Tr)(x:Tr):bq (a++b) x=(bq b x).bind (bq a):=by
 unfold bq;rw[FY]
 by_cases h:4096<(row (eI 4 b x)).length
 ·rw[KX h,KX]
  ·rfl
  ·rw[uJ,JK]
   omega
 ·rw[KY h]
  rfl
section
variable{B:ak}(hS:dy B)(hr:dh B=0)(hB:GoodB B)
include hS hr hB
theorem MY{a:Int}(ha:bk B B.ents.length a=true):VC prog 102 [bw B,pI a] (de (gu B a)):=by
 obtain⟨i,x,s,o,q,rfl,_,w,C,b⟩:=hB.fam ha (KJ _);obtain⟨D,E,F⟩:=b.ps_eq w;have j:=wa hS;rw[hr]at j;have H:=au cj B.ents;have d:=qx (known:=B.ents.length) (KJ _) (i:Int);rw[ha,show ((B.ents.length:Nat):Int)=((B.ents.map cj).length:Int) by rw[H]]at d;have r:∀y∈o,Wf y:=λy l=>by
  obtain⟨k,t⟩:=JH l;have:=b.fp k y t;exact⟨this.ok,this.len⟩
 have u:∀y∈q,Wf y:=λy l=>by
  obtain⟨k,t⟩:=JH l;have:=b.fi k y t;exact⟨this.ok,this.len⟩
 have I:=b.lp;have L:=b.li;have M:gu B (i:Int)=bq (o++q) s:=by
  rw[FZ];unfold gu;rw[D,E,F]
 have z:=v7 (x:=s) ⟨b.fs.ok,b.fs.len⟩ (ys:=o++q) (λy l=>by
  rcases List.mem_append.1 l with h|h
  ·exact r y h
  ·exact u y h) Uk
 rw[<- M]at z;have v:VC prog 98 [pI 4,.sl (x.params.map rP++x.indices.map rP),ah x.sort] (de (gu B (i:Int))):=by
  rw[<- KB,b.params,b.indices,b.sort,<- KB];exact z
 have O:=KG List.length b.params;have S:=KG List.length b.indices;rw[KF]at O S;refine vf 39 [.tmp 4,.tmp 5] τok func102 ?_;refine ae j ?_;refine vn ?_;refine ae d ?_;refine vm i w ?_;refine va (p:=rP) ?_ (jG _);refine va (p:=rP) ?_ (jG _);refine vk ?_;refine ae v ?_;cases U:gu B (i:Int)with
 |error e=>exact aE
 |ok y=>exact aE
end
theorem AK{n:Nat}{fr:Int}(hn:n<=100)(hf:0<=fr/\fr<=100):VO prog 158 [pI (fr+n-1),pI fr] 29 1 (((varsM n fr).map row).map rP):=by
 have ev:∀k,k<n ->(varsM n fr)[k]?=some (varX (fr+((n-1-k:Nat):Int))):=λk a=>by
  unfold varsM;rw[JX,List.getElem?_range a]
  rfl
 have el:(varsM n fr).length=n:=by simp[varsM]
 refine nJ 20 [.tmp 4] τok func158 ?_;refine aj<|dm 5 1000 29 1 rfl rfl<|aB τok (σ:=Nat) [(0,_),(1,_)] [] (λk=>[(5,.c (.row 1000)),(6,vI (fr+n-1-k))]) (λk=>[(1000,.rw 29 1 ((((varsM n fr).take k).map row).map rP))]) (λk=>k<=n) (λk=>n-k) 0 (KV _) ?_ (x1:=⟨rfl,by simp;rfl,trivial⟩);rintro k b;refine aj<|af (λg=>?_) (λg=>?_)
 ·refine be ?_ (hb:=Uk)
  refine vi ?_;refine aw (k+1) (by show k+1<=n;omega) (sw 1000 18) (x:=⟨rfl,KG (λz=>some (vI z)) Uo,trivial⟩) (y':=⟨KG (λl=>some (SE.rw _ _ l)) ?_,trivial⟩);rw[QQ,ev k Uo,Option.toList,KB,KB];refine KG (_++ ·) ?_;rw[show fr+((n-1-k:Nat):Int)=fr+n-1-k by omega]
  rfl
 ·exact⟨1000,rfl,KG (λl=>some (SE.rw 29 1 ((List.map row l).map rP))) (JG (l:=varsM n fr) (i:=k) Uo)⟩
theorem MZ{n:Nat}{fr:Int}(hn:n<=100)(hf:0<=fr/\fr<=100):∀y∈varsM n fr,Wf y:=λy a=>by
 unfold varsM at a;obtain⟨k,b,rfl⟩:=List.mem_map.1 a;have:=List.mem_range.1 b;exact⟨oY rfl (by show 0<=fr+((n-1-k:Nat):Int);omega) (by show fr+((n-1-k:Nat):Int)<=(1048576:Int);omega) rfl,by simp[varX,row,rows]⟩
theorem M0{n:Nd}(a:aF n=true)(h:n.op=9 \/n.op=10):Wf (.mk n []):=by
 refine⟨⟨⟨?_,trivial⟩,?_⟩,by simp[row,rows]⟩
 ·simp only[cnt]
  rw[KX ⟨a,Uo,Uo⟩,KY Uo];have:bB n=0:=by unfold bB;rw[KY Uo,KY Uo,KY Uo,KY Uo]
  rw[this]
  rfl
 ·have:¬ n.op=2:=Uo
  simp[gJ',eU',this]
theorem M1{x:Tr}{ys:List Tr}{z:Tr}(a:Wf x)(b:∀y∈ys,Wf y)(h:aP x ys= .ok z):Wf z:=by
 unfold aP at h;split at h
 ·cases h
 ·rename_i d
  injection h with h
  subst h;exact⟨eJ' ys x a.ok λy h=>(b y h).ok,Uo⟩
section
variable{B:ak}(hS:dy B)(hr:dh B=0)(hB:GoodB B)
include hS hr hB
theorem M3{a b:Int}(ha:bk B B.ents.length a=true)(h0:0<=b)(hb:b<(aN B a).ctors.length):VC prog 103 [bw B,pI a,pI b] (de (hY B a b)):=by
 have a2:=kQ hB ha;obtain⟨i,x,s,d,qi,rfl,_,H,M,u⟩:=hB.fam ha (KJ _);rw[M]at hb;obtain⟨k,rfl⟩:∃k:Nat,b=(k:Int):=⟨b.toNat,Uo⟩
 obtain⟨c,O,_⟩:=ay (l:=x.ctors) (k:=k);obtain⟨j,w,r⟩:=u.ct k c O;obtain⟨e1,e2,e3⟩:=u.ps_eq H;obtain⟨e4,e5,e6⟩:=r.ag_eq H O;have C:=wa hS;rw[hr]at C;have eE:=au cj B.ents;have eC:=au bM x.ctors;have v:=qx (known:=B.ents.length) (KJ _) (i:Int);rw[ha,show ((B.ents.length:Nat):Int)=((B.ents.map cj).length:Int) by rw[eE]]at v;have S:∀y∈d,Wf y:=λy q=>by
  obtain⟨k,U⟩:=JH q;have:=u.fp k y U;exact⟨this.ok,this.len⟩
 have V:∀y∈j,Wf y:=λy q=>by
  obtain⟨k,U⟩:=JH q;have:=r.fa k y U;exact⟨this.ok,this.len⟩
 have D:∀y∈w,Wf y:=λy q=>⟨(r.fo y q).ok,(r.fo y q).len⟩
 have a3:=u.lp;have a4:=r.la;have a5:=r.lo;have a6:=u.li;have l1:(x.params.map rP).length=d.length:=by rw[u.params];simp
 have l2:(c.args.map rP).length=j.length:=by rw[r.args];simp
 have l3:=KG List.length u.params;have l4:=KG List.length r.args;have l5:=KG List.length r.out;rw[KF]at l3 l4 l5;have E:=MZ (n:=d.length) (fr:=(j.length:Int)) Uo Uo;have hv:=AK (n:=d.length) (fr:=(j.length:Int)) Uo Uo;have W:VO prog 158 [pI (((x.params.map rP).length:Int)+((c.args.map rP).length:Int)-1),pI ((c.args.map rP).length:Int)] 29 1 (((varsM d.length (j.length:Int)).map row).map rP):=by
  rw[l1,l2,Int.add_comm (d.length:Int)];exact hv
 have X:aF ⟨9,(i:Int),0⟩=true:=by simp[aF,aX];omega
 have F:=M0 X (.inl rfl);have Y:=sR F (ys:=varsM d.length (j.length:Int)++w) (λy q=>by
  rcases List.mem_append.1 q with h|h
  ·exact E y h
  ·exact D y h) (by simp[varsM];omega)
 have o:VC prog 157 [ah (row (.mk ⟨9,(i:Int),0⟩ [])),.sl (((varsM d.length (j.length:Int)).map row).map rP++c.out.map rP)] (de (aP (.mk ⟨9,(i:Int),0⟩ []) (varsM d.length (j.length:Int)++w))):=by
  rw[<- KB,r.out,<- KB];exact Y
 have I:hY B (i:Int) (k:Int)=(aP (.mk ⟨9,(i:Int),0⟩ []) (varsM d.length (j.length:Int)++w)).bind λt=>bq (d++j) t:=by
  unfold hY;rw[e1,e4,e5]
  congr 1
  funext t
  rw[FZ]
 refine vf 87 [.tmp 6,.tmp 7] τok func103 ?_;refine ae C ?_;refine vn ?_;refine ae v ?_;refine vn ?_;refine vm i H ?_;refine vn ?_;refine vm i H ?_;refine vm k O ?_;have f1:=au (λt=>[ah t]) x.params;have f2:=au (λt=>[ah t]) c.args;refine vi ?_;refine vi ?_;refine gQ W ?_;refine va (p:=rP) ?_ (jG _) (hb:=by simp[varsM];omega);cases L:aP (.mk ⟨9,(i:Int),0⟩ []) (varsM d.length (j.length:Int)++w)with
 |error e=>
  rw[L]at o I;rw[I];have h0:=iR L;subst h0;refine ae o ?_;refine vk ?_;refine vy ?_;exact aE
 |ok y=>
  rw[L]at o I;rw[I];have Z:=M1 F (λy q=>by
   rcases List.mem_append.1 q with h|h
   ·exact E y h
   ·exact D y h) L
  have a0:=v7 (x:=y) Z (ys:=d++j) (λy q=>by
   rcases List.mem_append.1 q with h|h
   ·exact S y h
   ·exact V y h) Uk
  have a1:VC prog 98 [pI 4,.sl (x.params.map rP++c.args.map rP),ah (row y)] (de (bq (d++j) y)):=by
   rw[<- KB,u.params,r.args,<- KB];exact a0
  refine ae o ?_;refine vk ?_;refine vn ?_;refine va (p:=rP) ?_ (jG _);refine va (p:=rP) ?_ (jG _);refine ae a1 ?_;rw[show (Except.ok y:Except Int Tr).bind (λt=>bq (d++j) t)=bq (d++j) y from rfl];cases a7:bq (d++j) y with
  |error e=>exact vk ⟨_,_,rfl,rfl,rfl⟩
  |ok z=>exact vk ⟨_,_,rfl,rfl,rfl⟩
end
theorem AL(n m:Nat):varsM (n+m) 0=varsM n (m:Int)++varsM m 0:=by
 unfold varsM;refine List.ext_getElem? λi=>?_;rcases Nat.lt_or_ge i n with h|h
 ·rw[QH (by simpa using h),JX,JX,List.getElem?_range h,List.getElem?_range Uo]
  exact KG (λz=>some (varX z)) Uo
 ·rw[QU (by simpa using h),JX,JX]
  simp only[KF,List.length_range];rcases Nat.lt_or_ge i (n+m)with g|g
  ·rw[List.getElem?_range g,List.getElem?_range Uo]
   exact KG (λz=>some (varX z)) Uo
  ·rw[QF (by simpa using g),QF Uk]
   rfl
theorem M4{x:Tr}{ys:List Tr}{e:Int}(h:bq ys x= .error e):e=9:=by
 unfold bq at h;split at h
 ·injection h with h
  exact h.symm
 ·cases h
section
variable{B:ak}(hS:dy B)(hr:dh B=0)(hB:GoodB B)
include hS hr hB
theorem M5{N:Int}(h0:0<=N)(hN:N<=90000){a b:Int}(ha:bk B B.ents.length a=true)(b5:0<=b)(hb:b<(aN B a).ctors.length){E:List Tr}(hq:∀y∈E,Ft (QB B) N y)(a1:E.length=(eQ B a).length){mo:Tr}(V:Ft (QB B) N mo):VC prog 161 [bw B,pI a,pI b,bD (E.map row),ah (row mo)] (de (jk B a b E mo)):=by
 generalize d:jk B a b E mo=I;have b4:=kQ hB ha;obtain⟨i,x,s,F,qi,rfl,_,hi,a4,W⟩:=hB.fam ha (KJ _);have b6:=hb;rw[a4]at hb;obtain⟨k,rfl⟩:∃k:Nat,b=(k:Int):=⟨b.toNat,Uo⟩
 obtain⟨c,hc,_⟩:=ay (l:=x.ctors) (k:=k);obtain⟨D,go,S⟩:=W.ct k c hc;obtain⟨e1,e2,e3⟩:=W.ps_eq hi;obtain⟨e4,e5,e6⟩:=S.ag_eq hi hc;have a5:=wa hS;rw[hr]at a5;have eE:=au cj B.ents;have eC:=au bM x.ctors;have a0:=qx (known:=B.ents.length) (KJ _) (i:Int);rw[ha,show ((B.ents.length:Nat):Int)=((B.ents.map cj).length:Int) by rw[eE]]at a0;have a':∀y∈D,Wf y:=λy w=>by
  obtain⟨k,hk⟩:=JH w;have:=S.fa k y hk;exact⟨this.ok,this.len⟩
 have b0:∀y∈go,Wf y:=λy w=>⟨(S.fo y w).ok,(S.fo y w).len⟩
 have b7:=W.lp;have b8:=S.la;have b9:=S.lo;have b':=W.lc;have c0:=W.li;unfold jk at d;rw[e1,e4,e5]at d;rw[e1]at a1;have l1:(x.params.map rP).length=F.length:=by rw[W.params];simp
 have l2:(c.args.map rP).length=D.length:=by rw[S.args];simp
 have l3:=KG List.length W.params;have l4:=KG List.length S.args;have l5:=KG List.length S.out;rw[KF]at l3 l4 l5;have f1:=au (λt=>[ah t]) x.params;have f2:=au (λt=>[ah t]) c.args;have f3:=au (λt=>[ah t]) (E.map row);have f4:=au row E;have f5:((E.map row).map rP).length=E.length:=Ud
 have a2:Ft (QB B) ((F.length+D.length:Nat):Int) (.mk ⟨10,(i:Int),(k:Int)⟩ []):=pb (by simp[aF,aX];omega) (.inr rfl) (by
  simp only[QB,cv,bh];simp[ha,a4];omega)
 have a6:∀y∈varsM F.length (D.length:Int)++varsM D.length 0,Ft (QB B) ((F.length+D.length:Nat):Int) y:=λy w=>by
  rcases List.mem_append.1 w with w|w
  ·exact(lS (qk B) Uo Uo y w).mono Uo
  ·exact(lS (qk B) Uo Uo y w).mono Uo
 refine vf 170 [.tmp 10,.tmp 11] τok func161 ?_;refine ae a5 ?_;refine vn ?_;refine ae a0 ?_;refine vn ?_;refine vm i hi ?_;refine vn ?_;refine vm i hi ?_;refine vn ?_;refine aB τok (σ:=Nat) [(1,_),(2,_),(3,_),(4,_),(5,_)] [(5,_)] (λj=>[(13,vI j)]) (λ_=>[]) (λj=>j<=E.length) (λj=>E.length-j) 0 (KV _) ?_;rintro j g1;refine aj<|af (λg=>?_) (λg=>?_)
 ·obtain⟨y,w,_⟩:=ay (l:=E) (k:=j)
  have U:=hq y (JQ w);have a7:=lX (row y) (by have:=U.len;omega);rw[na ⟨U.ok,U.len⟩]at a7;refine az j (x:=row y) (by rw[JX,w];rfl) ?_;refine ae a7 ?_;refine vn ?_;refine vi ?_;exact aw (j+1) (by show j+1<=_;omega)
 clear g g1
 refine vm i hi ?_;refine vm k hc ?_;have b1:=qw ⟨V.ok,V.len⟩ (V.small Uo) (b:=((F.length+D.length:Nat):Int)) (fr:=0) Uo Uo;have hm:=V.lift (qk B) (b:=((F.length+D.length:Nat):Int)) Uo Uo Uo;have hv:=AK (n:=F.length+D.length) (fr:=0) Uo Uo;have O:=sR (x:=.mk ⟨10,(i:Int),(k:Int)⟩ []) ⟨a2.ok,a2.len⟩ (ys:=varsM (F.length+D.length) 0) (λy w=>by
  have:=a6 y (by rw[<- AL];exact w);exact⟨this.ok,this.len⟩) (by simp[varsM];omega)
 refine vi ?_;refine ae (r:=.tup [ah (row (aK mo ((F.length+D.length:Nat):Int) 0)),pI 0]) ?_ ?_
 ·rw[f3,f4,f2,a1,l4,<- Int.natCast_add]
  exact b1
 refine vn ?_;refine vi ?_;refine vi ?_;refine gQ (e:=29) (sz:=1) (l:=((varsM (F.length+D.length) 0).map row).map rP) ?_ ?_
 ·rw[f3,f4,f2,a1,l4,<- Int.natCast_add]
  rw[Int.zero_add]at hv;exact hv
 rw[<- AL]at d;cases h1:aP (.mk ⟨10,(i:Int),(k:Int)⟩ []) (varsM (F.length+D.length) 0)with
 |error er=>
  rw[h1]at O d;have e9:=iR h1;subst e9;obtain rfl:(.error 9:Except Int Tr)=I:=d;refine ae O ?_;refine vy ?_;exact aE
 |ok C=>
 rw[h1]at O d;refine ae O ?_;refine vn ?_;have a3:=gB (qk B) a2 (λy w=>a6 y (by rw[<- AL];exact w)) h1;have a8:=sR (x:=aK mo ((F.length+D.length:Nat):Int) 0) ⟨hm.ok,hm.len⟩ (ys:=go++[C]) (λy w=>by
  rcases List.mem_append.1 w with h|h
  ·exact b0 y h
  ·obtain rfl:y=C:=by simpa using h
   exact⟨a3.ok,a3.len⟩) Uk
 have H:VC prog 157 [ah (row (aK mo ((F.length+D.length:Nat):Int) 0)),.sl (c.out.map rP++[[ah (row C)]])] (de (aP (aK mo ((F.length+D.length:Nat):Int) 0) (go++[C]))):=by
  rw[S.out];have e:(go.map row).map rP++[[ah (row C)]]=((go++[C]).map row).map rP:=by simp[rP]
  rw[e];exact a8
 refine va (p:=rP) ?_ (jG _);refine be ?_;cases h2:aP (aK mo ((F.length+D.length:Nat):Int) 0) (go++[C])with
 |error er=>
  rw[h2]at H;have e9:=iR h2;subst e9;have d:(.error 9:Except Int Tr)=I:=by rw[<- d];exact(KG (λz=>Except.bind z λt=>(bq D t).bind (cQ E 0 F.length)) h2).symm
  subst d;refine ae H ?_;refine vy ?_;exact aE
 |ok t=>
 rw[h2]at H;have d:(bq D t).bind (cQ E 0 F.length)=I:=by rw[<- d];exact(KG (λz=>Except.bind z λt=>(bq D t).bind (cQ E 0 F.length)) h2).symm
 refine ae H ?_;refine vn ?_;have ht:=gB (qk B) hm (λy w=>by
  rcases List.mem_append.1 w with w|w
  ·exact(S.up_o hi W.kind w).mono Uo
  ·obtain rfl:y=C:=by simpa using w
   exact a3.mono Uo) h2
 have a9:=v7 (x:=t) ⟨ht.ok,ht.len⟩ (ys:=D) a' Uo;have L:VC prog 98 [pI 4,.sl (c.args.map rP),ah (row t)] (de (bq D t)):=by
  rw[S.args];exact a9
 cases h3:bq D t with
 |error er=>
  rw[h3]at L d;have e9:=M4 h3;subst e9;obtain rfl:(.error 9:Except Int Tr)=I:=d;refine ae L ?_;refine vy ?_;exact aE
 |ok u=>
 rw[h3]at L d;have d:cQ E 0 F.length u=I:=d;refine ae L ?_;refine vn ?_;have hu:=lR (qk B) (N:=N+F.length) (ht.mono Uo) (λk y w=>(S.up_a hi W.kind w).mono Uo) h3;refine vi ?_;refine aB τok (σ:=Nat×Tr) [(3,_)] [] (λq=>[(19,vP (ah (row q.2))),(20,vI ((q.1:Int)-1))]) (λ_=>[]) (λq=>q.1<=E.length/\Ft (QB B) (N+q.1) q.2/\cQ E 0 q.1 q.2=I) (λq=>q.1) (F.length,u) ⟨Us,hu,d⟩ ?_ (x1:=⟨rfl,KG (λz=>some (vI z)) Us,trivial⟩)
 clear d hu h3 L a9
 rintro⟨j,z⟩ ⟨hj,hz,o⟩;simp only at hj hz o;refine aj<|af (λg=>?_) (λg=>?_)
 ·have g:(0:Int)<=(j:Int)-1:=g
  obtain⟨M,rfl⟩:∃M,j=M+1:=⟨j-1,Uo⟩
  simp only[cQ]at o;obtain⟨p,hp,_⟩:=ay (l:=E) (k:=M);have b2:E.getD M (varX 0)=p:=by rw[QK,hp];rfl
  rw[b2]at o;have X:=hq p (JQ hp);have Y:=X.lift (qk B) (b:=(M:Int)) Uo Uo Uo;have b3:=qw ⟨X.ok,X.len⟩ (X.small Uo) (b:=(M:Int)) (fr:=0) Uo Uo;have Z:=vZ (x:=z) ⟨hz.ok,hz.len⟩ (u:=aK p M 0) ⟨Y.ok,Y.len⟩ (Y.small Uo) (v:=0) Uo;refine az M (x:=row p) (by rw[JX,hp];rfl) ?_ Us;refine ae (r:=.tup [ah (row (aK p M 0)),pI 0]) ?_ ?_
  ·rw[show ((((M+1:Nat),z).1:Nat):Int)-1=(M:Int) by simp only;omega]
   exact b3
  refine vn ?_;cases hs:bA z (aK p M 0) 0 with
  |error er=>
   rw[hs]at Z o;have e9:=jh hs;subst e9;obtain rfl:(.error 9:Except Int Tr)=I:=o;refine ae Z ?_;refine vy ?_;exact aE
  |ok y=>
   rw[hs]at Z o;have o:cQ E 0 M y=I:=o;have U:=je (qk B) (N:=N+M) (v:=0) (hz.mono Uo) Y Uo Uo Uo Uo hs;refine ae Z ?_;refine vn ?_;refine vi ?_;exact aw (M,y) ⟨Us,U.mono Us,o⟩ (x:=⟨rfl,KG (λz=>some (vI z)) Us,trivial⟩)
 ·obtain rfl:j=0:=by simp only at g;omega
  simp only[cQ]at o;subst o;exact aE
end
def iY(z:Int):Int:=if z=0 then -1 else if z=1 then -2 else if z=2 then -3 else z-100
def rM(m:List Int):List Int:=m.reverse.map iY
def nh(m:List Int):PV:=.sl ((rM m).map iP)
theorem wb(m:List Int):(rM m).length=m.length:=by simp[rM]
theorem M6(m:List Int)(z:Int):rM (m++[z])=iY z::rM m:=by simp[rM]
theorem M7(m:List Int)(z:Int)(k:Nat):rM (m++List.replicate k z)=List.replicate k (iY z)++rM m:=by simp[rM]
theorem F0(l:List Int):∀x∈l,(iP x).length=1/\∀q∈iP x,q.one=true:=λx _=>⟨rfl,λq a=>by
 obtain rfl:q=pI x:=by simpa[iP]using a
 rfl⟩
theorem M8{m:List Int}{v:Nat}(h:v<m.length):(rM m)[v]?=some (iY (bU m v)):=by
 unfold rM bU;rw[KY Uo,JX,List.getElem?_reverse h,QK,Int.toNat_natCast,gE]
 rfl
theorem wd(m:List Int)(hm:m.length<=1000000){v:Int}(a:0<=v):VC prog 207 [nh m,pI v] (pI (iY (bU m v))):=by
 obtain⟨j,rfl⟩:∃j:Nat,v=(j:Int):=⟨v.toNat,Uo⟩
 have b:=au iP (rM m);have d:=wb m;refine vf 13 [.tmp 4] τok func207 ?_;refine af (λg=>?_) (λg=>?_)
 ·refine vm j (M8 Uo) ?_
  exact aE
 ·exact aE (h3:=by
   unfold bU;rw[KX Uo]
   rfl)
theorem we(m:List Int)(hm:m.length<=1000000)(k:Nat)(a:k<=1000000)(z:Int):VC prog 164 [nh m,pI k,pI (iY z)] (nh (m++List.replicate k z)):=by
 have b:=wb m;refine cR 21 [.tmp 6] τok func164 ?_;refine aj<|dm 7 1000 3 1 rfl rfl<|aB τok (σ:=Nat) [(0,_),(1,_),(2,_)] [] (λj=>[(7,.c (.row 1000)),(8,vI j)]) (λj=>[(1000,.rw 3 1 ((List.replicate j (iY z)).map iP))]) (λj=>j<=k) (λj=>k-j) 0 (KV _) ?_;rintro j d;refine aj<|af (λg=>?_) (λg=>?_)
 ·refine be ?_ (hb:=Uk)
  refine vi ?_;exact aw (j+1) (by show j+1<=k;omega) (sw 1000 17) (y':=⟨KG (λl=>some (SE.rw _ _ l)) (by rw[List.replicate_succ',KB];rfl),trivial⟩)
 ·obtain rfl:j=k:=Uo
  refine va (p:=iP) ?_ (F0 _) (hb:=Uk);exact aE (h3:=by unfold nh;rw[M7,KB];rfl)
theorem mk_of{pl m:List Int}(h:Mk pl m)(v:Int):bU m v=0 \/bU m v=1 \/bU m v=2 \/∃j:Nat,j<pl.length/\bU m v=100+j:=by
 unfold bU;split
 ·exact .inl rfl
 ·rename_i g
  rcases Nat.lt_or_ge (m.length-1-v.toNat) m.length with a|a
  ·rw[QK,List.getElem?_eq_getElem a]
   exact h _ (List.getElem_mem a)
  ·rw[QK,QF a]
   exact .inl rfl
theorem F1{pl m:List Int}(h:Mk pl m)(v:Int):iY (bU m v)= -3↔bU m v=2:=by
 unfold iY;rcases mk_of h v with e|e|e|⟨j,_,e⟩<;>rw[e]
 ·decide
 ·decide
 ·decide
 ·constructor<;>intro q
  ·rw[KY Uo,KY Uo,KY Uo]at q;omega
  ·omega
theorem F2{pl m:List Int}(h:Mk pl m)(v:Int):iY (bU m v)= -2↔bU m v=1:=by
 unfold iY;rcases mk_of h v with e|e|e|⟨j,_,e⟩<;>rw[e]
 ·decide
 ·decide
 ·decide
 ·constructor<;>intro q
  ·rw[KY Uo,KY Uo,KY Uo]at q;omega
  ·omega
theorem M9{pl m:List Int}(h:Mk pl m)(v:Int):(0<=iY (bU m v)↔100<=bU m v)/\(100<=bU m v ->iY (bU m v)=bU m v-100/\∃j:Nat,j<pl.length/\bU m v=100+j):=by
 unfold iY;rcases mk_of h v with e|e|e|⟨j,a,e⟩<;>rw[e]
 ·exact⟨UO,λh=>Uo⟩
 ·exact⟨UO,λh=>Uo⟩
 ·exact⟨UO,λh=>Uo⟩
 ·rw[KY Uo,KY Uo,KY Uo]
  exact⟨Uo,λ_=>⟨rfl,j,a,rfl⟩⟩
theorem wg{x:Tr}(d:Wf x)(h1:x.n.op=1):0<=x.n.a/\kidsT x=[]:=by
 obtain⟨n,e⟩:=x;have h1:n.op=1:=h1;obtain⟨a,b,c⟩:=d.ft.var_lt h1;exact⟨a,by subst c;simp[kidsT]⟩
theorem F3{x:Tr}(k:Wf x){pl m:List Int}(hM:Mk pl m)(hm:m.length<=1000000):VC prog 208 [bE x,nh m] (.bool (jI x m)):=by
 refine cR 25 [.tmp 4] τok func208 ?_;refine aj<|aB τok (σ:=Tr) [(1,_),(2,_)] [] (λ_=>[]) (λq=>[(2,.st 0 145 ((eN q).map .p))]) (λq=>Wf q/\headT q=headT x) (λq=>(row q).length) x ⟨k,rfl⟩ ?_;rintro z ⟨j,d⟩;refine aj<|af (λg=>?_) (λg=>?_)
 ·obtain⟨f,a,l,hf,s,i,o,r⟩:=nf j g
  refine vt 0 (by rw[l];rfl) ?_;exact aw f ⟨hf,by rw[<- i];exact d⟩
 ·obtain⟨i,o⟩:=ib g
  rw[i]at d;refine af (λe=>?_) (λe=>?_)
  ·refine ae (wd m hm (wg j e).1) ?_
   refine af (λb=>?_) (λb=>?_)
   ·have b:=(F1 hM _).1 b
    exact aE (h3:=by unfold jI;rw[<- d,KU e,KU b];rfl)
   ·have b:¬ bU m z.n.a=2:=λh=>b ((F1 hM _).2 h)
    exact aE (h3:=by unfold jI;rw[<- d,KU e,KH b];rfl)
  ·exact aE (h3:=by unfold jI;rw[<- d,KH e];rfl)
theorem iF{x:Tr}(a:Wf x)(h:x.n.op=4 \/x.n.op=5):kidsT x=[kidD x 0,kidD x 1]/\Wf (kidD x 0)/\Wf (kidD x 1)/\(row (kidD x 0)).length<(row x).length/\(row (kidD x 1)).length<(row x).length:=by
 obtain⟨_,_,e,_⟩:=n8 a.ok h;have b:(kidsT x)[0]?=some (kidD x 0):=by rw[e];rfl
 have d:(kidsT x)[1]?=some (kidD x 1):=by rw[e];rfl
 exact⟨e,a.kid b,a.kid d,gn a.ok b,gn a.ok d⟩
theorem Na{x:Tr}(v:Wf x)(p:Nat)(L:p<=1000):VC prog 162 [bE x,pI p] (.bool (dv' p x)):=by
 refine cR 41 [.tmp 4] τok func162 ?_;refine aj<|aB τok (σ:=Nat×Tr) [(1,_),(2,_)] [] (λq=>[(5,vI q.1)]) (λq=>[(2,.st 0 145 ((eN q.2).map .p))]) (λq=>q.1<=p/\Wf q.2/\dv' (p-q.1) q.2=dv' p x) (λq=>p-q.1) (0,x) ⟨KV _,v,rfl⟩ ?_;rintro⟨j,z⟩ ⟨w,i,d⟩;simp only at w i d;refine aj<|af (λg=>?_) (λg=>?_)
 ·simp only at g
  obtain⟨c,C⟩:∃c,p-j=c+1:=⟨p-j-1,Uo⟩
  rw[C]at d;simp only[dv']at d;refine af (λb=>?_) (λb=>?_)
  ·obtain⟨e,s,t,D,E⟩:=iF i (.inl b)
   rw[KU b,Bool.true_and]at d;refine vt 1 (by rw[e];rfl) ?_;refine vi ?_;exact aw (j+1,kidD z 1) ⟨Us,t,by rw[<- d,show p-(j+1)=c by omega]⟩
  ·refine vy (p:=z.n.op≠4) ?_ b
   exact aE (h3:=by rw[<- d,KH b];rfl)
 ·simp only at g
  obtain rfl:j=p:=Uo
  rw[Nat.sub_self]at d;simp only[dv']at d;refine af (λb=>?_) (λb=>?_)
  ·have b:z.n.op≠4:=b
   exact aE (h3:=by rw[<- d,KH b];rfl)
  have b:z.n.op=4:=Classical.not_not.1 b;obtain⟨e,s,t,D,E⟩:=iF i (.inl b);rw[KU b,Bool.true_and]at d;refine vt 0 (by rw[e];rfl) ?_;refine aB τok (σ:=Tr) [(1,_),(2,_)] [] (λ_=>[]) (λq=>[(2,.st 0 145 ((eN q).map .p))]) (λq=>Wf q/\headT q=headT (kidD z 0)) (λq=>(row q).length) (kidD z 0) ⟨s,rfl⟩ ?_;rintro u ⟨q1,k⟩;refine aj<|af (λl=>?_) (λl=>?_)
  ·obtain⟨f,a,F,hf,M,o,H,I⟩:=nf q1 l
   refine vt 0 (by rw[F];rfl) ?_;exact aw f ⟨hf,by rw[<- o];exact k⟩
  ·obtain⟨o,H⟩:=ib l
   rw[o]at k;rw[<- k]at d;refine af (λr=>?_) (λr=>?_)
   ·exact aE (h3:=by rw[<- d,KU r];rfl)
   ·exact aE (h3:=by rw[<- d,KH r];rfl)
theorem wj{α:Type}{p q:α ->Bool}{l:List α}(h:∀y∈l,p y=q y):l.all p=l.all q:=by
 induction l with
 |nil=>rfl
 |cons y r a=>
  rw[List.all_cons,List.all_cons,h y Ud,a λz b=>h z (by simp[b])]
theorem pg(N:Nat):∀{x:Tr},Wf x ->(row x).length<=N ->(Wf (headT x)/\(headT x).n.op≠6/\(row (headT x)).length<=(row x).length)/\∀y∈argsT x,Wf y/\(row y).length<(row x).length:=by
 induction N with
 |zero=>intro x d h;have:=bg x;omega
 |succ N o=>
  intro x d h
  by_cases e:x.n.op=6
  ·obtain⟨f,a,q,hf,r,i,k,v⟩:=nf d e
   obtain⟨⟨s,t,w⟩,u⟩:=o hf Uo;have l:=gn d.ok (j:=1) (y:=a) (by rw[q];rfl);rw[i,k];refine⟨⟨s,t,Uo⟩,λy b=>?_⟩;rcases List.mem_append.1 b with b|b
   ·have:=u y b
    exact⟨this.1,Uo⟩
   ·obtain rfl:y=a:=by simpa using b
    exact⟨r,l⟩
  ·obtain⟨i,k⟩:=ib e
   rw[i,k];exact⟨⟨d,e,KJ _⟩,Ud⟩
def kg(B:ak)(pl:List Int)(rc:RcF)(x f:Tr)(m:List Int):Bool:=
 if f.n.op=1 then (if bU m f.n.a<100 then true else decide (pl.getD (bU m f.n.a-100).toNat 0<(argsT x).length) && jI (fE x (pl.getD (bU m f.n.a-100).toNat 0)) m)
 else if f.n.op=11 then lN B rc f m
 else if f.n.op=4 \/f.n.op=5 then rc (kidD f 0) m && rc (kidD f 1) (m++[0])
 else if f.n.op=7 then (rc (kidD f 0) m && rc (kidD f 1) m) && rc (kidD f 2) (m++[0])
 else if f.n.op=12 then lO rc m (m++List.replicate f.n.b.toNat 0) (kidsT f)
 else true
theorem AM(B:ak)(pl:List Int)(g:Nat)(x:Tr)(m:List Int):fd B pl (g+1) x m=((argsT x).all (λy=>fd B pl g y m) && kg B pl (fd B pl g) x (headT x) m):=rfl
section
variable{B:ak}{pl:List Int}{rc rc':RcF}{R:Nat}
theorem F4(h:∀y m,Wf y ->(row y).length<R ->rc y m=rc' y m):∀(n:Nat) (t:Tr) (m:List Int),Wf t ->(row t).length<R ->gI rc n t m=gI rc' n t m
 |0,t,m,b,hl=>h t m b hl
 |n+1,t,m,b,hl=>by
  simp only[gI]
  by_cases a:t.n.op=5
  ·obtain⟨_,w0,d,e,i⟩:=iF b (.inr a)
   rw[KX a,KX a,h _ _ w0 Uo,F4 h n _ _ d Uo]
  ·rw[KY a,KY a,h _ _ b hl]
theorem F5(h:∀y m,Wf y ->(row y).length<R ->rc y m=rc' y m)(a:Int)(d:Bool)(m:List Int):∀(l:List Tr) (k:Nat),(∀y∈l,Wf y/\(row y).length<R) ->mW B rc a d m k l=mW B rc' a d m k l
 |[],k,_=>rfl
 |t::r,k,hl=>by
  simp only[mW];rw[F4 h _ t m (hl t Ud).1 (hl t Ud).2,F5 h a d m r (k+1) λy b=>hl y (by simp[b])]
theorem F6(h:∀y m,Wf y ->(row y).length<R ->rc y m=rc' y m)(m m':List Int):∀(l:List Tr),(∀y∈l,Wf y/\(row y).length<R) ->lO rc m m' l=lO rc' m m' l
 |[],_=>rfl
 |[_],_=>rfl
 |t::b::r,hl=>by
  simp only[lO];rw[h t m (hl t Ud).1 (hl t Ud).2,h b m' (hl b Ud).1 (hl b Ud).2,F6 h m m' r λy a=>hl y (by simp[a])]
theorem Nb(h:∀y m,Wf y ->(row y).length<R ->rc y m=rc' y m){f:Tr}(hf:Wf f)(a:f.n.op=11)(hl:(row f).length<=R)(m:List Int):lN B rc f m=lN B rc' f m:=by
 have b:=gW hf.ok a;have d:2<=(kidsT f).length:=by rw[b.1];omega
 obtain⟨_,e,l⟩:=cw hf (k:=0);obtain⟨_,i,o⟩:=cw hf (k:=1);unfold lN;rw[h _ _ e Uo,h _ _ i Uo,F5 h _ _ _ _ _ λy j=>by
  have:=vj hf y (List.mem_of_mem_drop j);exact⟨this.1,Uo⟩]
theorem F7(h:∀y m,Wf y ->(row y).length<R ->rc y m=rc' y m)(x:Tr){f:Tr}(hf:Wf f)(hl:(row f).length<=R)(m:List Int):kg B pl rc x f m=kg B pl rc' x f m:=by
 unfold kg
 by_cases j:f.n.op=1
 ·rw[KX j,KX j]
 rw[KY j,KY j]
 by_cases a:f.n.op=11
 ·rw[KX a,KX a,Nb h hf a hl]
 rw[KY a,KY a]
 by_cases b:f.n.op=4 \/f.n.op=5
 ·obtain⟨_,l,o,q,r⟩:=iF hf b
  rw[KX b,KX b,h _ _ l Uo,h _ _ o Uo]
 rw[KY b,KY b]
 by_cases i:f.n.op=7
 ·obtain⟨e,_⟩:=qj hf.ok i
  have s:(kidsT f).length=3:=by rw[e];rfl
  obtain⟨_,l,q⟩:=cw hf (k:=0);obtain⟨_,o,r⟩:=cw hf (k:=1);obtain⟨_,t,v⟩:=cw hf (k:=2);rw[KX i,KX i,h _ _ l Uo,h _ _ o Uo,h _ _ t Uo]
 rw[KY i,KY i]
 by_cases d:f.n.op=12
 ·rw[KX d,KX d,F6 h _ _ _ λy u=>by
   have:=vj hf y u;exact⟨this.1,Uo⟩]
 rw[KY d,KY d]
end
theorem AN(B:ak)(pl:List Int):∀(g a:Nat) (x:Tr) (m:List Int),Wf x ->(row x).length<=g ->(row x).length<=a ->fd B pl g x m=fd B pl a x m:=by
 intro g
 induction g with
 |zero=>intro a x m _ h;have:=bg x;omega
 |succ g e=>
  intro a x m i h l;cases a with
  |zero=>have:=bg x;omega
  |succ a=>
   obtain⟨⟨j,o,k⟩,d⟩:=pg _ i (KJ _);rw[AM,AM,wj λy b=>e a y m (d y b).1 (by have:=(d y b).2;omega) (by have:=(d y b).2;omega),F7 (R:=(row x).length) (λy m b q=>e a y m b Uo Uo) x j k]
def dP(B:ak)(pl:List Int)(x:Tr)(m:List Int):Bool:=fd B pl (row x).length x m
theorem sT(B:ak)(pl:List Int){x:Tr}(d:Wf x)(m:List Int):dP B pl x m=((argsT x).all (λy=>dP B pl y m) && kg B pl (dP B pl) x (headT x) m):=by
 obtain⟨⟨e,k,i⟩,b⟩:=pg _ d (KJ _);obtain⟨g,j⟩:∃g,(row x).length=g+1:=⟨(row x).length-1,by have:=bg x;omega⟩
 unfold dP;rw[j,AM,wj (q:=λy=>fd B pl (row y).length y m) λy a=>AN B pl _ _ y m (b y a).1 (by have:=(b y a).2;omega) (KJ _),F7 (R:=(row x).length) (λy m a l=>AN B pl _ (row y).length y m a Uo (KJ _)) x e i]
def nj(rc:RcF)(n:Nd)(m:List Int):Nat ->List Tr ->Bool
 |_,[]=>true
 |i,t::r=>rc t (m++List.replicate (kb n i).toNat 0) && nj rc n m (i+1) r
theorem F8(rc:RcF){n:Nd}(a:n.op=12)(m:List Int):∀(l:List Tr) (i:Nat),i%2=0 ->l.length%2=0 ->lO rc m (m++List.replicate n.b.toNat 0) l=nj rc n m i l
 |[],_,_,_=>rfl
 |[_],_,_,h=>by simp at h
 |t::b::r,i,h,hl=>by
  have d:kb n i=0:=by unfold kb;rw[KX a,KY Uo]
  have e:kb n (i+1)=n.b:=by unfold kb;rw[KX a,KX Uo]
  simp only[lO,nj];rw[F8 rc a m r (i+1+1) Uo (by simp only[JV]at hl;omega),d,e];simp[Bool.and_assoc]
def ma(x:Tr)(m:List Int):Bool:=decide ((headT x).n.op=1) && decide (100<=bU m (headT x).n.a)
section
variable{B:ak}{pl:List Int}{x:Tr}{m:List Int}
theorem Nc(b:Wf x)(h:ma x m=true):dP B pl x m=((decide (pl.getD (bU m (headT x).n.a-100).toNat 0<(argsT x).length) && jI (fE x (pl.getD (bU m (headT x).n.a-100).toNat 0)) m) && (argsT x).all (λy=>dP B pl y m)):=by
 unfold ma at h;simp only[Bool.and_eq_true,decide_eq_true_eq]at h;rw[sT B pl b];unfold kg;rw[KX h.1,KY Uo,Bool.and_comm]
theorem Nf(a:Wf x)(h:x.n.op=11):dP B pl x m=lN B (dP B pl) x m:=by
 obtain⟨b,d⟩:=ib (x:=x) Uo;rw[sT B pl a,b,d];unfold kg;rw[KY Uo,KX h]
 rfl
theorem Ng(j:Wf x)(h:ma x m=false)(l:x.n.op≠11):dP B pl x m=nj (dP B pl) x.n m 0 (kidsT x):=by
 by_cases o:x.n.op=6
 ·obtain⟨f,a,w,hf,D,s,v,E⟩:=nf j o
  have t:kb x.n 0=0:=by simp[kb,bi,o]
  have u:kb x.n 1=0:=by simp[kb,bi,o]
  rw[w];simp only[nj];rw[t,u,sT B pl j,sT B pl hf,v,s,List.all_append];have z:kg B pl (dP B pl) x (headT f) m=kg B pl (dP B pl) f (headT f) m:=by
   unfold kg
   by_cases d:(headT f).n.op=1
   ·have:bU m (headT f).n.a<100:=by
     unfold ma at h;rw[s,KU d,Bool.true_and,decide_eq_false_iff_not]at h;omega
    rw[KX d,KX d,KX this,KX this]
   ·rw[KY d,KY d]
  rw[z];simp
  generalize (argsT f).all _=p
  generalize kg _ _ _ _ _ _=q
  generalize dP B pl a m=r
  cases p<;>cases q<;>cases r<;>rfl
 obtain⟨s,v⟩:=ib o;rw[sT B pl j,s,v];unfold kg;rw[List.all_nil,Bool.true_and]
 by_cases d:x.n.op=1
 ·have:bU m x.n.a<100:=by
   unfold ma at h;rw[s,KU d,Bool.true_and,decide_eq_false_iff_not]at h;omega
  rw[KX d,KX this,(wg j d).2]
  rfl
 rw[KY d,KY l]
 by_cases i:x.n.op=4 \/x.n.op=5
 ·obtain⟨e,_⟩:=iF j i
  have t:kb x.n 0=0:=by unfold kb;rw[KY Uo];simp[bi]
  have u:kb x.n 1=1:=by unfold kb;rw[KY Uo];simp[bi];omega
  rw[KX i,e];simp only[nj];rw[t,u];simp
 rw[KY i]
 by_cases k:x.n.op=7
 ·obtain⟨e,_⟩:=qj j.ok k
  have t:kb x.n 0=0:=by simp[kb,bi,k]
  have u:kb x.n 1=0:=by simp[kb,bi,k]
  have C:kb x.n 2=1:=by simp[kb,bi,k]
  rw[KX k,e];simp only[nj];rw[t,u,C];simp[Bool.and_assoc]
 rw[KY k]
 by_cases b:x.n.op=12
 ·rw[KX b]
  exact F8 _ b m _ 0 rfl (by have:=fS j.ok b;omega)
 rw[KY b];have w:=(qd j.ok).1;have:kidsT x=[]:=by
  refine List.length_eq_zero_iff.1 ?_;have F:cB x.n=0:=by simp[cB,i,o,k,l,b]
  omega
 rw[this]
 rfl
end
end Go.Q
namespace Go.Wx
section
variable{P:Program}{τ:Tau}{n:Nat}{A:AS}{K:Exit ->AS ->Prop}{c:Operand}{x y:Code}
theorem AO(j:VCode P n x A K)(h:rd A c (λa=>a= .c (.p (.bool true))):=by rfl):VCode P n (.cond c x y) A K:=by
 refine VCode.mk λk X l s w d=>?_;obtain⟨a,o,q,r⟩:=bN h;subst r;have e:=j.run k X l s w d;obtain⟨C,ρ,b⟩:=d;obtain⟨_,v,t,hr⟩:=b.op (Agr.rfl' A [c]) Ud o q;have hr:RV C (.bool true) v:=hr;cases hr;unfold EvCode at e ⊢;exact λa i=>wp_cond_true (i.eval t) (e a i)
theorem AP(j:VCode P n y A K)(h:rd A c (λa=>a= .c (.p (.bool false))):=by rfl):VCode P n (.cond c x y) A K:=by
 refine VCode.mk λk X l s w d=>?_;obtain⟨a,o,q,r⟩:=bN h;subst r;have e:=j.run k X l s w d;obtain⟨C,ρ,b⟩:=d;obtain⟨_,v,t,hr⟩:=b.op (Agr.rfl' A [c]) Ud o q;have hr:RV C (.bool false) v:=hr;cases hr;unfold EvCode at e ⊢;exact λa i=>wp_cond_false (i.eval t) (e a i)
end
end Go.Wx
namespace Go.Q
theorem sU(l:List Tr):∀x∈l,(trP x).length=6/\∀q∈trP x,q.one=true:=λx _=>by
 rw[kM];refine⟨rfl,λq a=>?_⟩;simp only[fF,JJ,JZ,or_false]at a;rcases a with rfl|rfl|rfl|rfl|rfl|rfl<;>rfl
theorem AQ{l:List Tr}{i:Nat}{k:List PV ->Prop}{y:Tr}(a:l[i]?=some y)(b:k (eN y)):pC (l.map trP) i k:=xG (eN y) (by rw[JX,a];exact KG some (kM y)) b
def F9(B:ak)(pl:List Int)(R:Nat):Prop:=∀(y:Tr) (N:Int) (m:List Int),Ft (QB B) N y ->(row y).length<R ->Mk pl m ->m.length+4*(row y).length<=100000 ->VC prog 163 [bw B,bE y,nh m,.sl (pl.map iP)] (.bool (dP B pl y m))
theorem Ga{α:Type}{p:α ->Bool}{l:List α}{i:Nat}{y:α}(h:l[i]?=some y):(l.drop i).all p=(p y && (l.drop (i+1)).all p):=by
 have a:=aL h;rw[List.drop_eq_getElem_cons a,List.all_cons];rw[List.getElem?_eq_getElem a]at h;rw[JB h]
theorem Nh{s:Tr}(j:Wf s)(m:List Int):o8 s m=(jI s m||(decide (s.n.op=1) && decide (bU m s.n.a=1))):=by
 unfold o8 jI
 by_cases e:s.n.op=6
 ·obtain⟨f,a,k,hf,l,i,d,o⟩:=nf j e
  rw[KH (show ¬ s.n.op=1 by omega),KH (show ¬ (argsT s).length=0 by rw[d];simp)]
  by_cases b:(headT s).n.op=1
  ·simp[b]
  ·simp[b]
 ·obtain⟨i,d⟩:=ib e
  rw[i,d]
  by_cases b:s.n.op=1
  ·simp[b]
  ·simp[b]
section
variable{B:ak}{pl:List Int}(hB:GoodB B)(hpl:∀p∈pl,0<=p/\p<=15)
include hB hpl
theorem Ni{x:Tr}{N:Int}(E:Ft (QB B) N x)(H:F9 B pl (row x).length){m:List Int}(hM:Mk pl m)(b5:m.length+4*(row x).length<=100000):VC prog 163 [bw B,bE x,nh m,.sl (pl.map iP)] (.bool (dP B pl x m)):=by
 have v:=aC E;have b4:=E.len;have b6:=bg x;refine cR 218 [.tmp 8] τok func163 ?_;refine aD<|aD<|aD<|dm 10 1000 145 6 rfl rfl<|dY τok (σ:=Unit) [(2,_),(3,_),(4,_),(5,_)] [(4,_),(5,_)] (λ_=>[(9,.c (.ptr 9 0)),(10,.c (.row 1000))]) (λ_=>[(9,.st 0 145 ((eN (headT x)).map .p)),(1000,.rw 145 6 ((argsT x).map trP))]) (λ_=>True) ?_ ?_
 ·refine aB τok (σ:=Tr×List Tr) [(2,_),(3,_),(4,_),(5,_),(9,_)] [(4,_),(5,_)] (λq=>[(10,.c (.row 1000))]) (λq=>[(9,.st 0 145 ((eN q.1).map .p)),(1000,.rw 145 6 (q.2.map trP))]) (λq=>Wf q.1/\headT q.1=headT x/\argsT q.1++q.2=argsT x) (λq=>(row q.1).length) (x,[]) ⟨v,rfl,Ud⟩ ?_
  rintro⟨z,ar⟩ ⟨g1,I,F⟩;simp only at g1 I F;have b7:=ow v 4096 v.len;have hl:=KG List.length F;rw[JK]at hl;refine aj<|af (λg=>?_) (λg=>?_)
  ·obtain⟨f,a,V,hf,ha,e1,e2,b8⟩:=nf g1 g
   refine vt 1 (by rw[V];rfl) ?_;refine va ?_ (sU _);refine vt 0 (by rw[V];rfl) ?_;exact aw (f,a::ar) ⟨hf,by rw[<- e1];exact I,by rw[<- F,e2];simp⟩ (sw 1000 32) (y':=⟨rfl,KG (λl=>some (SE.rw _ _ l)) (by rw[List.map_cons,kM a];rfl),trivial⟩)
  ·obtain⟨e1,e2⟩:=ib g
   rw[e1]at I;rw[e2,List.nil_append]at F;subst I F;exact aw () trivial
 rintro _ _;obtain⟨⟨h1,h2,h3⟩,h4⟩:=pg _ v (KJ _);refine dY τok (σ:=Unit) [(2,_),(3,_),(4,_),(5,_)] [(4,_),(5,_)] (λ_=>[]) (λ_=>[]) (λ_=>ma x m=false) ?_ ?_
 ·have a3:=ow v 4096 v.len
  have eA:=au trP (argsT x);refine af (λg=>?_) (λg=>?_)
  ·have X:=wg h1 g
   refine ae (wd m Uo X.1) ?_;obtain⟨c1,c2⟩:=M9 hM (headT x).n.a;refine af (λI=>?_) (λI=>?_)
   ·have F:=c1.1 I
    obtain⟨c3,j,hj,c4⟩:=c2 F;obtain⟨p,hp,_⟩:=ay (l:=pl) (k:=j) hj;have b9:=hpl p (JQ hp);have L:ma x m=true:=by unfold ma;rw[KU g,KU F];rfl
    have r:=Nc (B:=B) (pl:=pl) v L;have a4:pl.getD (bU m (headT x).n.a-100).toNat 0=p:=by
     rw[show (bU m (headT x).n.a-100).toNat=j by omega,QK,hp]
     rfl
    rw[a4]at r;refine ae (wd m Uo X.1) ?_;refine vm (p:=iP) j hp ?_ Uo;refine af (λg5=>?_) (λg5=>?_)
    ·exact aE (h3:=by rw[r,KH (show ¬ p<((argsT x).length:Int) by omega)];rfl)
    rw[KU (show p<((argsT x).length:Int) by omega),Bool.true_and]at r;obtain⟨y,hy,_⟩:=ay (l:=argsT x) (k:=p.toNat);have eD:fE x p=y:=by unfold fE;rw[QK,hy];rfl
    rw[eD]at r;refine vt p.toNat hy ?_;refine AQ hy<|bX (F3 (h4 y (JQ hy)).1 hM Uo) (λM=>?_) (λM=>?_)
    ·rw[M,Bool.true_and]at r
     refine aB τok (σ:=Nat) [(2,_),(3,_),(4,_),(10,_)] [(4,_),(1000,_)] (λi=>[(12,vI i)]) (λ_=>[]) (λi=>i<=(argsT x).length/\dP B pl x m=((argsT x).drop i).all (λy=>dP B pl y m)) (λi=>(argsT x).length-i) 0 ⟨KV _,r⟩ ?_;rintro i ⟨O,d⟩;refine aj<|af (λY=>?_) (λY=>?_)
     ·obtain⟨z,W,_⟩:=ay (l:=argsT x) (k:=i)
      rw[Ga W]at d;have S:=JQ W;refine vt i W ?_;refine AQ W<|bX (H z N m (E.args z S) (h4 z S).2 hM (by have:=(h4 z S).2;omega)) (λo=>?_) (λo=>?_)
      ·refine vk ?_
       refine vi ?_;exact aw (i+1) ⟨Uo,by rw[d,o,Bool.true_and]⟩
      ·refine vk ?_
       exact aE (h3:=by rw[d,o];rfl)
     ·rw[JY Uo]at d
      exact aE (h3:=by rw[d];rfl)
    ·exact aE (h3:=by rw[r,M];rfl)
   ·exact aw () (by unfold ma;rw[KU g,KH Uo];rfl)
  ·exact aw () (by unfold ma;rw[KH g];rfl)
 rintro _ a5;refine VCode.seq<|aD<|af (λg=>?_) (λg=>?_)
 ·refine AO ?_
  have V:=gW v.ok g;have eK:=au trP (kidsT x);have kl:((kidsT x).length:Int)=2+x.n.b:=by rw[V.1];exact V.2.1
  obtain⟨a6,w0,l0⟩:=cw v (k:=0);obtain⟨Z,w1,l1⟩:=cw v (k:=1);have f0:=E.kidD (k:=0) Uo;have f1:=E.kidD (k:=1) Uo;have r:=Nf (B:=B) (pl:=pl) (m:=m) v g;unfold lN at r;have hq:=E.node';have ha:bk B B.ents.length x.n.a=true:=by
   simp[QB,cv,bh,g]at hq;exact hq
  refine aD<|vt 0 a6 ?_;refine bX (H _ _ m f0.2 l0 hM Uo) (λs0=>?_) (λs0=>?_)
  ·rw[s0,Bool.true_and]at r
   refine vt 1 Z ?_;refine bX (H _ _ m f1.2 l1 hM Uo) (λM=>?_) (λM=>?_)
   ·rw[M,Bool.true_and]at r
    refine vk ?_;refine aD<|vt 1 Z ?_;refine dY τok (σ:=Bool) [(2,_),(3,_),(4,_),(5,_),(13,_)] [(4,_),(5,_),(13,_)] (λb=>[(14,vP (.bool b))]) (λ_=>[]) (λb=>b=o8 (kidD x 1) m) ?_ ?_
    ·have ed:o8 (kidD x 1) m=(jI (kidD x 1) m||(decide ((kidD x 1).n.op=1) && decide (bU m (kidD x 1).n.a=1))):=Nh w1 m
     refine bX (F3 w1 hM Uo) (λo=>?_) (λo=>?_)
     ·exact aw true (by rw[ed,o];rfl)
     ·refine af (λO=>?_) (λO=>?_)
      ·refine ae (wd m Uo (wg w1 O).1) ?_
       refine af (λd=>?_) (λd=>?_)
       ·have d:=(F2 hM _).1 d
        exact aw true (by rw[ed,KU O,KU d];simp)
       ·have d:¬ bU m (kidD x 1).n.a=1:=λh=>d ((F2 hM _).2 h)
        exact aw false (by rw[ed,o,KH d];simp)
      ·exact aw false (by rw[ed,o,KH O];rfl)
    rintro C a7;rw[<- a7]at r;obtain⟨a,ea⟩:∃a,x.n.a=a:=⟨_,rfl⟩
    rw[ea]at ha r;obtain⟨ei,en,s',ps,qi,rfl,_,a8,a9,hF⟩:=hB.fam ha (KJ _);have eC:=au bM en.ctors;refine aD<|vm ei a8 ?_ Uo;refine aD ?_;have a':∀k,k<(kidsT x).length-2 ->∃t,(kidsT x)[2+k]?=some t/\(kidsT x).drop (2+k)=t::(kidsT x).drop (2+(k+1)):=λk V=>ay;refine aB τok (σ:=Nat) [(2,_),(3,_),(4,_),(5,_),(14,_),(15,_)] [(4,_),(5,_)] (λk=>[(16,vI k)]) (λ_=>[]) (λk=>k<=(kidsT x).length-2/\dP B pl x m=mW B (dP B pl) (ei:Int) C m k ((kidsT x).drop (2+k))) (λk=>(kidsT x).length-2-k) 0 ⟨KV _,r⟩ ?_;rintro k ⟨O,d⟩;refine aD<|af (λY=>?_) (λY=>?_)
    ·obtain⟨t,ht,hd⟩:=a' k Uo
     rw[hd]at d;simp only[mW]at d;obtain⟨cnt,U⟩:∃c:Nat,(if (C && decide (k<(aN B (ei:Int)).ctors.length))=true then ((aN B (ei:Int)).ctors.getD k default).args.length else 0)=c:=⟨_,rfl⟩
     rw[U]at d;rw[a9]at U;refine VCode.seq (VCode.blk<|aD<|dY τok (σ:=Unit) [(2,_),(3,_),(4,_),(5,_),(14,_),(15,_),(16,_)] [(4,_),(5,_)] (λ_=>[(17,vI cnt)]) (λ_=>[]) (λ_=>cnt<=16) ?_ ?_)
     ·cases C with
      |false=>exact aw () (by rw[<- U];simp) (x:=⟨KG (λz=>some (vI z)) (by rw[<- U];rfl),trivial⟩)
      |true=>
       refine af (λk4=>?_) (λk4=>?_)
       ·obtain⟨c,hc,_⟩:=ay (l:=en.ctors) (k:=k)
        obtain⟨ga,go,hC⟩:=hF.ct k c hc;have l4:=KG List.length hC.args;rw[KF]at l4;have b':=hC.la;have e5:c.args.length=cnt:=by
         rw[<- U,KX Uk,QK,hc]
         rfl
        refine vm k hc ?_;exact aw () Uo (x:=⟨KG (λz=>some (vI z)) (by rw[KF,e5]),trivial⟩)
       ·exact aw () (by rw[<- U,KY Uk];omega) (x:=⟨KG (λz=>some (vI z)) (by rw[<- U,KY Uk];rfl),trivial⟩)
     rintro _ a0;obtain⟨D,wi,li⟩:=cw v (k:=2+k);have fi:=(E.kidD (k:=2+k) Uo).2;rw[ht]at D;obtain rfl:=JB D;refine aj<|vi ?_;refine vt (2+k) ht ?_;refine aB τok (σ:=Nat×Tr×List Int×Int) [(2,_),(3,_),(4,_),(5,_),(14,_),(15,_),(16,_),(18,_)] [(4,_),(5,_)] (λq=>[(17,vI q.1),(19,vP (nh q.2.2.1))]) (λq=>[(18,.st 0 145 ((eN q.2.1).map .p))]) (λq=>q.1<=16/\Ft (QB B) q.2.2.2 q.2.1/\(row q.2.1).length<(row x).length/\Mk pl q.2.2.1/\q.2.2.1.length+4*(row q.2.1).length<=100000/\gI (dP B pl) q.1 q.2.1 q.2.2.1=gI (dP B pl) cnt (kidD x (2+k)) m) (λq=>(row q.2.1).length) (cnt,kidD x (2+k),m,N+kb x.n (2+k)) ⟨a0,fi,li,hM,Us,rfl⟩ ?_;rintro⟨c,u,mm,NN⟩ ⟨r1,r2,r3,r4,r5,w⟩;simp only at r1 r2 r3 r4 r5 w;have c0:=bg u;have wu:=aC r2;refine aj<|af (λk4=>?_) (λk4=>?_)
     ·simp only at k4
      obtain⟨c',rfl⟩:∃c',c=c'+1:=⟨c-1,Uo⟩
      simp only[gI]at w;refine af (λk5=>?_) (λk5=>?_)
      ·obtain⟨e,v0,v1,l0,l1⟩:=iF wu (.inr k5)
       have g0:=(r2.kidD (k:=0) (by rw[e];simp)).2;have g1:=(r2.kidD (k:=1) (by rw[e];simp)).2;rw[KX k5]at w;refine vt 0 (by rw[e];rfl) ?_;refine bX (H _ _ mm g0 Uo r4 Uo) (λo=>?_) (λo=>?_)
       ·rw[o,Bool.true_and]at w
        refine vk ?_;refine ae (we mm Uo 1 Uo 2) ?_;refine vt 1 (by rw[e];rfl) ?_;refine vi ?_;exact aw (c',kidD u 1,mm++[2],_) ⟨Uo,g1,Us,r4.snoc Uo,Uk,w⟩ (x:=⟨KG (λz=>some (vI z)) Us,rfl,trivial⟩)
       ·refine vk ?_
        exact aE (h3:=by rw[d,<- w,o];rfl)
      ·rw[KY k5]at w
       refine bX (H _ _ mm r2 r3 r4 r5) (λo=>?_) (λo=>?_)
       ·refine aj ?_
        refine vi ?_;exact aw (k+1) ⟨Uo,by rw[d,<- w,o,Bool.true_and]⟩
       ·exact aE (h3:=by rw[d,<- w,o];rfl)
     ·simp only at k4
      obtain rfl:c=0:=Uo
      simp only[gI]at w;refine bX (H _ _ mm r2 r3 r4 r5) (λo=>?_) (λo=>?_)
      ·refine aj ?_
       refine vi ?_;exact aw (k+1) ⟨Uo,by rw[d,<- w,o,Bool.true_and]⟩
      ·exact aE (h3:=by rw[d,<- w,o];rfl)
    ·rw[JY Uo]at d
     exact aj<|aE (h3:=by rw[d];rfl)
   ·refine vk ?_
    exact aE (h3:=by rw[r,M];rfl)
  ·refine vk ?_
   exact aE (h3:=by rw[r,s0];rfl)
 ·refine AP ?_
  refine aj ?_;show VCode _ _ _ _ _;have r:=Ng (B:=B) (pl:=pl) v a5 g;have eK:=au trP (kidsT x);have c5:=iq v.ok;refine aj<|aB τok (σ:=Nat) [(2,_),(3,_),(4,_),(5,_)] [(4,_),(5,_)] (λi=>[(20,vI i)]) (λ_=>[]) (λi=>i<=(kidsT x).length/\dP B pl x m=nj (dP B pl) x.n m i ((kidsT x).drop i)) (λi=>(kidsT x).length-i) 0 ⟨KV _,r⟩ ?_;rintro i ⟨O,d⟩;refine aj<|af (λY=>?_) (λY=>?_)
  ·have hi:i<(kidsT x).length:=Uo
   obtain⟨D,wi,li⟩:=cw v hi;have fi:=(E.kidD hi).2;obtain⟨b1,b2⟩:=ov v.ok i;obtain⟨q,hq⟩:∃q:Nat,kb x.n i=(q:Int):=⟨(kb x.n i).toNat,Uo⟩
   have a1:=KO x.n i Uo;rw[hq]at a1;have b0:=we m Uo q Uo 0;have W:=ay hi;obtain⟨z,a2,b3⟩:=W;rw[D]at a2;obtain rfl:=JB a2;rw[b3]at d;simp only[nj]at d;rw[hq,Int.toNat_natCast]at d;refine vt i D ?_;refine ae a1 ?_;refine ae b0 ?_;refine bX (H _ _ _ fi li (hM.zeros q) Uk) (λs=>?_) (λs=>?_)
   ·refine vk ?_
    refine vi ?_;exact aw (i+1) ⟨Uo,by rw[d,s,Bool.true_and]⟩
   ·refine vk ?_
    exact aE (h3:=by rw[d,s];rfl)
  ·rw[JY Uo]at d
   exact aE (h3:=by rw[d];rfl)
theorem Fk':∀R,F9 B pl R
 |0=>λy N m _ h=>Uo
 |R+1=>λy N m e hl hM b=>Ni hB hpl e (λz i m' j k d a=>Fk' R z i m' j Uo d a) hM b
end
end Go.Q
namespace Go.Wx
section
variable{P:Program}{τ:Tau}{n:Nat}{A:AS}{K:Exit ->AS ->Prop}{c:Code}
def AC.nzc:AC ->AC
 | .p x=>.p x.nz
 |c=>c
theorem Nj(j:Nat){T:Nat}{i:Nat}{cs:List AC}(h:VCode P n c (A.upd [] [(j,.st i T (cs.map AC.nzc))]) K)(k:look A.m j=some (.st i T cs):=by rfl):VCode P n c A K:=by
 refine h.of λU X V s w ⟨C,ρ,l⟩=>?_;obtain⟨b,v,D,E,W,F,H⟩:=l.ent j _ k;exact⟨C,_,l.modSt (wr:=[]) (cs':=cs.map AC.nzc) (us':=v) k D ((Kp.refl [] w).weak Ud) E (by simpa using F) (λq c u d I=>by
  rw[JX]at d;cases e:cs[q]? with
  |none=>rw[e]at d;cases d
  |some o=>
   rw[e]at d;obtain rfl:=JB d;obtain⟨L,r⟩:=H q o u e I;refine⟨L,λM=>?_⟩;cases o with
   |p x=>exact RV.nz (r λz O=>by cases O)
   |_=>exact r M) (s':=s) (λt a S=>by cases S) (λ_ _=>rfl)⟩
end
end Go.Wx
namespace Go.Q
theorem Gb{rc rc':RcF}(h:∀y m,Wf y ->rc y m=rc' y m):∀(n:Nat) (t:Tr) (m:List Int),Wf t ->iz rc n t m=iz rc' n t m
 |0,t,m,a=>h t m a
 |n+1,t,m,a=>by
  simp only[iz]
  by_cases b:t.n.op=5
  ·obtain⟨_,w0,d,e,i⟩:=iF a (.inr b)
   rw[h _ _ w0,Gb h n _ _ d]
  ·rw[KH b]
   rfl
def jL(i:Nat):List Int:=(List.range i).map λk:Nat=>100+(k:Int)
theorem Nk(n:Nat):hH n n=jL n:=by
 unfold hH jL;refine List.map_congr_left λi a=>?_;rw[KX (List.mem_range.1 a)]
theorem Nl{pl:List Int}{n:Nat}(h:pl.length=n):Mk pl (jL n):=λv a=>by
 obtain⟨k,b,rfl⟩:=List.mem_map.1 a;exact .inr (.inr (.inr ⟨k,by have:=List.mem_range.1 b;omega,rfl⟩))
theorem AR(i:Nat):rM (jL (i+1))=(i:Int)::rM (jL i):=by
 unfold jL;rw[List.range_succ,KB];show rM (_++[100+(i:Int)])=_;rw[M6];unfold iY;rw[KY Uo,KY Uo,KY Uo];rw[show 100+(i:Int)-100=i by omega]
theorem Gc(B:ak)(x:Tr):∀(n i:Nat),decide (lQ B x n i=0)=(List.range n).all λk=>o9 B x (i+k)
 |0,i=>rfl
 |n+1,i=>by
  rw[List.range_succ_eq_map,List.all_cons,List.all_map,Nat.add_zero];cases a:o9 B x i with
  |false=>
   have e:lQ B x (n+1) i=18:=KY (by rw[a];decide);rw[e]
   rfl
  |true=>
   have e:lQ B x (n+1) i=lQ B x n (i+1):=KX a;rw[e,Gc B x n (i+1),Bool.true_and];exact wj λk _=>by simp[Function.comp,Nat.add_comm,Nat.add_left_comm,Nat.add_assoc]
def sW(B:ak)(x:Tr)(i:Nat):Bool:=dv' ((placesM x).getD i 0).toNat (kidD x (2*i)) && iz (dP B (placesM x)) (((placesM x).getD i 0).toNat+1) (kidD x (2*i+1)) (jL x.n.b.toNat)
theorem Nm(B:ak){x:Tr}{i:Nat}(h:Wf (kidD x (2*i+1))):o9 B x i=sW B x i:=by
 unfold o9 sW;rw[Nk,Gb (λy m a=>AN B (placesM x) 4096 (row y).length y m a a.len (KJ _)) _ _ _ h]
 rfl
def nk(B:ak)(x:Tr)(i:Nat):Bool:=((List.range x.n.b.toNat).drop i).all (sW B x)
theorem Nn(B:ak){x:Tr}{i:Nat}(h:i<x.n.b.toNat):nk B x i=(sW B x i && nk B x (i+1)):=by
 unfold nk;exact Ga (List.getElem?_range h)
theorem No(B:ak){x:Tr}(b:Wf x)(a:x.n.op=12):decide (gr B x=0)=nk B x 0:=by
 unfold gr nk;rw[Gc,List.drop_zero];refine wj λk d=>?_;have d:=List.mem_range.1 d;have hf:=fS b.ok a;rw[KW,Nm B (cw b).2.1]
section
variable{B:ak}(hB:GoodB B)
include hB
theorem Np{x:Tr}{N:Int}(F:Ft (QB B) N x)(b:x.n.op=12):VC prog 105 [bw B,bE x] (.bool (decide (gr B x=0))):=by
 have s:=aC F;have X:=F.len;rw[No B s b]
 generalize H:nk B x 0=R0
 have hf:=fS s.ok b;have I:=iq s.ok;have L:funsT x=x.ks.map (·.n):=by unfold funsT;rw[KX b]
 have a0:(x.ks.length:Int)=x.n.b:=(dF s.ok b).1;have a3:(placesM x).length=x.ks.length:=by simp[placesM]
 have hpl:∀p∈placesM x,0<=p/\p<=15:=λp t=>by
  obtain⟨k,E⟩:=JH t;have I:=aL E;obtain⟨f,M,_,_,_,_,_,a1,a2,_⟩:=vC s.ok b (i:=k) Uo;unfold placesM at E;rw[JX,M]at E;obtain rfl:=JB E;exact⟨a1,a2⟩
 refine cR 102 [.tmp 4] τok func105 ?_;refine aj<|dm 5 1000 3 1 rfl rfl<|dm 6 1001 3 1 rfl rfl<|aB τok (σ:=Nat) [(2,_),(3,_)] [(2,_),(3,_)] (λi=>[(5,.c (.row 1000)),(6,.c (.row 1001)),(7,vI i)]) (λi=>[(1000,.rw 3 1 (((placesM x).take i).map iP)),(1001,.rw 3 1 ((rM (jL i)).map iP))]) (λi=>i<=x.ks.length) (λi=>x.ks.length-i) 0 (KV _) ?_;rintro i Y;have e1:=au iP ((placesM x).take i);have e2:=au iP (rM (jL i));have e3:(rM (jL i)).length=i:=by rw[wb];simp[jL]
 have e4:((placesM x).take i).length=i:=by rw[VJ];omega
 refine aj<|af (λg=>?_) (λg=>?_)
 ·obtain⟨f,C,_⟩:=ay (l:=x.ks) (k:=i)
  refine vm i (x:=f.n) (by rw[L,JX,C];rfl) ?_;refine be ?_;refine va (p:=iP) ?_ (F0 _);refine vi ?_;exact aw (i+1) (by show i+1<=_;omega) (λk=>sw 1000 28 (sw 1001 32 k)) (y':=⟨KG (λl=>some (SE.rw _ _ l)) (by
   rw[QQ,KB];unfold placesM;rw[JX,C]
   rfl),KG (λl=>some (SE.rw _ _ l)) (by rw[AR];rfl),trivial⟩)
 obtain rfl:i=x.ks.length:=Uo
 have et:(placesM x).take x.ks.length=placesM x:=JG Uo;rw[et]at e1 e4 ⊢;have hn:x.n.b.toNat=x.ks.length:=Uo
 have d:=Fk' (B:=B) (pl:=placesM x) hB hpl;refine mI 5 1000 ?_;refine mI 6 1001 ?_;refine aB τok (σ:=Nat) [(2,_),(3,_),(5,_),(6,_)] [(2,_),(3,_)] (λi=>[(8,vI i)]) (λ_=>[]) (λi=>i<=x.ks.length/\R0=nk B x i) (λi=>x.ks.length-i) 0 ⟨KV _,H.symm⟩ ?_
 clear g Y
 rintro i ⟨Y,o⟩;refine aj<|af (λg=>?_) (λg=>?_)
 ·rw[Nn B Uo]at o
  obtain⟨p,t,_⟩:=ay (l:=placesM x) (k:=i);have a4:=hpl p (JQ t);obtain⟨q,rfl⟩:∃q:Nat,p=(q:Int):=⟨p.toNat,Uo⟩
  have O:((placesM x).getD i 0).toNat=q:=by rw[QK,t];rfl
  unfold sW at o;rw[O,hn]at o;obtain⟨h0,w0,l0⟩:=cw s (k:=2*i);obtain⟨h1,w1,l1⟩:=cw s (k:=2*i+1);have f1:=(F.kidD (k:=2*i+1) Uo).2;refine vi ?_;refine vt (2*i) h0 ?_;refine vm (p:=iP) i t ?_;refine bX (Na w0 q Uo) (λS=>?_) (λS=>?_)
  ·rw[S,Bool.true_and]at o
   generalize U:iz (dP B (placesM x)) (q+1) (kidD x (2*i+1)) (jL x.ks.length)=BD at o
   refine vk ?_;refine vi ?_;refine vi ?_;refine vt (2*i+1) h1 ?_;refine aB τok (σ:=Nat×Tr×List Int×Int) [(2,_),(3,_),(5,_),(6,_),(8,_),(9,_)] [(2,_),(3,_)] (λz=>[(10,vP (nh z.2.2.1)),(11,vI z.1)]) (λz=>[(9,.st 0 145 ((eN z.2.1).map .p))]) (λz=>z.1<=q+1/\Ft (QB B) z.2.2.2 z.2.1/\Mk (placesM x) z.2.2.1/\z.2.2.1.length+4*(row z.2.1).length<=100000/\iz (dP B (placesM x)) (q+1-z.1) z.2.1 z.2.2.1=BD) (λz=>(row z.2.1).length) (0,kidD x (2*i+1),jL x.ks.length,N+kb x.n (2*i+1)) ⟨KV _,f1,Nl Uo,by rw[wb]at e3;simp only;omega,U⟩ ?_;rintro⟨j,u,w,NN⟩ ⟨r1,r2,D,Z,a⟩;simp only at r1 r2 D Z a;have wu:=aC r2;refine aj<|vm (p:=iP) i t ?_;refine af (λV=>?_) (λV=>?_)
   ·simp only at V
    obtain⟨c,hc⟩:∃c,q+1-j=c+1:=⟨q-j,Uo⟩
    rw[hc]at a;simp only[iz]at a;refine af (λr=>?_) (λr=>?_)
    ·refine vk ?_
     have r:¬ u.n.op=5:=r;exact aE (h3:=by rw[o,<- a,KH r];rfl)
    have r:u.n.op=5:=Classical.not_not.1 r;rw[KU r,Bool.true_and]at a;obtain⟨e,v0,v1,l0,l1⟩:=iF wu (.inr r);have y0:=(r2.kidD (k:=0) (by rw[e];simp)).2;have y1:=(r2.kidD (k:=1) (by rw[e];simp)).2;refine vt 0 (by rw[e];rfl) ?_;refine bX (d _ _ _ w y0 (Nat.lt_succ_self _) D Uo) (λv=>?_) (λv=>?_)
    ·rw[v,Bool.true_and]at a
     refine vk ?_;refine vm (p:=iP) i t ?_;refine af (λW=>?_) (λW=>?_)
     ·simp only at W
      rw[KX Uo]at a;refine ae (we w Uo 1 Uo 1) ?_;refine vt 1 (by rw[e];rfl) ?_;refine vi ?_;exact aw (j+1,kidD u 1,w++[1],_) ⟨Us,y1,D.snoc Uo,Uk,by rw[<- a,show q+1-(j+1)=c by omega]⟩
     ·simp only at W
      rw[KY Uo]at a;refine ae (we w Uo 1 Uo 0) ?_;refine vt 1 (by rw[e];rfl) ?_;refine vi ?_;exact aw (j+1,kidD u 1,w++[0],_) ⟨Us,y1,D.snoc Uo,Uk,by rw[<- a,show q+1-(j+1)=c by omega]⟩
    ·refine vk ?_
     exact aE (h3:=by rw[o,<- a,v];rfl)
   ·simp only at V
    rw[show q+1-j=0 by omega]at a;simp only[iz]at a;refine bX (d _ _ _ w r2 (Nat.lt_succ_self _) D Z) (λv=>?_) (λv=>?_)
    ·refine vi ?_
     exact aw (i+1) ⟨Uo,by rw[o,<- a,v,Bool.true_and]⟩
    ·exact aE (h3:=by rw[o,<- a,v];rfl)
  ·refine vk ?_
   exact aE (h3:=by rw[o,S];rfl)
 ·have e0:nk B x i=true:=by
   unfold nk;rw[JY Uk]
   rfl
  exact aE (h3:=by rw[o,e0];rfl)
end
section
variable{B:ak}{N:Int}
theorem AT(n:Nat):List.replicate n [PV.int .i64 0]=(hH n 0).map iP:=by
 apply List.ext_getElem
 ·simp[hH]
 ·intro i a b
  simp[hH,iP]
theorem Nq(hB:GoodB B){x:Tr}(s:Ft (QB B) N x)(o:x.n.op=12):VC prog 234 [bw B,ah (row x)] (pI (gr B x)):=by
 generalize d:gr B x=e;unfold gr at d;have wx:=aC s;have hl:=dF s.ok o;have a0:=s.len;obtain⟨b,w⟩:∃b:Nat,x.n.b=(b:Int):=⟨x.n.b.toNat,Uo⟩
 have t:x.n.b.toNat=b:=Uo
 rw[t]at d;have z:(placesM x).length=b:=by simp[placesM];omega
 have hpl:∀p∈placesM x,0<=p/\p<=15:=λp v=>by
  obtain⟨k,C⟩:=JH v;have a5:=aL C;obtain⟨f,L,_,_,_,_,_,a1,a2,_⟩:=vC s.ok o (i:=k) Uo;unfold placesM at C;rw[JX,L]at C;obtain rfl:=JB C;exact⟨a1,a2⟩
 have a6:(lP x).length=b:=by simp[lP];omega
 have a7:(jj x).length=b:=by simp[jj];omega
 have D:∀j,(hH b j).length=b:=λj=>by simp[hH]
 refine cR 96 [.tmp 4] τok func234 ?_;refine aj<|aI 0 (aM wx) ?_;refine CK b ?_ w w;refine lz 6 5 1000 3 1 rfl rfl rfl UO<|dm 8 1002 29 1 rfl rfl<|dm 9 1003 29 1 rfl rfl<|aB τok (σ:=Nat) [(1,_),(6,_),(23,_)] [] (λi=>[(7,.c (.row 1001)),(8,.c (.row 1002)),(9,.c (.row 1003)),(10,vI ((1+(rows (x.ks.take i)).length:Nat):Int)),(24,vI i)]) (λi=>[(6,.st 0 308 [.p (.int .i64 B.vars),.p (.sl (B.orders.map eJ)),.p (.sl (B.ents.map cj)),.p (.int .i64 B.nat),.p (.sl (B.prims.map iO)),.row 1000]),(1000,.rw 3 1 (((placesM x).take i).map iP)),(1001,.rw 310 1 ((hH b i).map iP)),(1002,.rw 29 1 ((((jj x).take i).map row).map rP)),(1003,.rw 29 1 ((((lP x).take i).map row).map rP))]) (λi=>i<=b) (λi=>b-i) 0 (KV _) ?_ (f:=sw 1001 22) (x1:=⟨rfl,rfl,rfl,KG (λn:Int=>some (vI n)) (by simp[rows]),rfl,trivial⟩) (y1:=⟨rfl,rfl,KG (λl=>some (SE.rw _ _ l)) (AT b),rfl,rfl,trivial⟩);rintro i hi;have M:∀k,k<=b ->((placesM x).take k).length=k:=λk C=>by rw[VJ];omega
 dsimp only
 refine aj<|af (λE=>?_) (λE=>?_)
 ·have E:(i:Int)<x.n.b:=E
  obtain⟨f,hf,O,S,a8,U,a9,a3,a4,r1,r2,r3,r4⟩:=vC s.ok o (i:=i) Uo;have V:=KG List.length r1;simp only[JK,JV,JU]at V;have W:(x.n::(rows (x.ks.take i)++[f.n])).length=1+(rows (x.ks.take i)).length+1:=Uk
  have e2:(x.n::(rows (x.ks.take i)++(f.n::row (kidD x (2*i))))).length=1+(rows (x.ks.take i)).length+1+(row (kidD x (2*i))).length:=Uk
  have a':=D i;obtain⟨u,hu,_⟩:=ay (l:=hH b i) (k:=i);have tp:(placesM x).take (i+1)=(placesM x).take i++[f.n.a]:=du (by unfold placesM;rw[JX,hf];rfl);have tt:(lP x).take (i+1)=(lP x).take i++[kidD x (2*i)]:=du (by unfold lP;rw[JX,List.getElem?_range Uo];rfl);have tb:(jj x).take (i+1)=(jj x).take i++[kidD x (2*i+1)]:=du (by unfold jj;rw[JX,List.getElem?_range Uo];rfl);have l1:=M i hi;refine aI (1+(rows (x.ks.take i)).length) U ?_;refine be ?_ (hb:=Uk);refine vk ?_;refine vi ?_;refine vm (p:=iP) i hu ?_;refine ec hu<|vi ?_;refine ae (endP s (y:=kidD x (2*i)) r1 O (by rw[W];omega)) ?_;refine vi ?_;refine bH (1+(rows (x.ks.take i)).length+1) ((x.n::(rows (x.ks.take i)++[f.n])).length+(row (kidD x (2*i))).length) ?_ (dd _) (h1:=Uo) (h2:=rfl) (h3:=Uo) (h4:=by rw[KF];omega);rw[dH r1 W.symm rfl];refine be ?_ (hb:=Uk);refine ae (endP s (y:=kidD x (2*i+1)) r2 S (by rw[W,e2])) ?_;refine bH ((x.n::(rows (x.ks.take i)++[f.n])).length+(row (kidD x (2*i))).length) ((x.n::(rows (x.ks.take i)++(f.n::row (kidD x (2*i))))).length+(row (kidD x (2*i+1))).length) ?_ (dd _) (h1:=rfl) (h2:=rfl) (h3:=Uo) (h4:=by rw[KF];omega);rw[dH r2 Uo rfl];refine be ?_ (hb:=Uk);refine vi ?_;exact aw (i+1) (by show i+1<=b;omega) (λk=>sw 1000 35 (sw 1003 53 (sw 1002 63 k))) (x:=⟨rfl,rfl,rfl,KG (λn:Int=>some (vI n)) (by rw[r3];omega),rfl,trivial⟩) (y':=⟨rfl,KG (λl=>some (SE.rw _ _ l)) (by rw[tp,kU];rfl),KG (λl=>some (SE.rw _ _ l)) (by rw[<- Ma Uo,List.map_set];rfl),KG (λl=>some (SE.rw _ _ l)) (by rw[tb,kU,kU];rfl),KG (λl=>some (SE.rw _ _ l)) (by rw[tt,kU,kU];rfl),trivial⟩)
 have E:¬ (i:Int)<x.n.b:=E;obtain rfl:i=b:=Uo
 rw[show (placesM x).take i=placesM x from JG Uo,show (lP x).take i=lP x from JG Uo,show (jj x).take i=jj x from JG Uo];have eB:=au rP ((jj x).map row);have b0:=au row (jj x);refine mI 65 1002 ?_;refine mI 9 1003 ?_;refine mI 7 1001 ?_;refine uC 6 5 1000 ?_;refine aB τok (σ:=Nat) [(6,_),(7,_),(9,_),(65,_),(66,_)] [(6,_)] (λj=>[(67,vI j)]) (λ_=>[]) (λj=>j<=i/\lQ B x (i-j) j=e) (λj=>i-j) 0 ⟨KV _,d⟩ ?_
 clear d
 rintro j ⟨hj,a⟩;refine aj<|af (λF=>?_) (λF=>?_)
 ·have F:(j:Int)<((((jj x).map row).map rP).length:Int):=F
  obtain⟨_,_,f0,f1⟩:=gZ s o (i:=j) Uo;obtain⟨p,v,_⟩:=ay (l:=placesM x) (k:=j);obtain⟨p0,b1⟩:=hpl p (JQ v);obtain⟨q,rfl⟩:∃q:Nat,p=(q:Int):=⟨p.toNat,Uo⟩
  have X:((jj x).map row)[j]?=some (row (kidD x (2*j+1))):=by rw[JX];unfold jj;rw[JX,List.getElem?_range Uo];rfl
  have Y:((lP x).map row)[j]?=some (row (kidD x (2*j))):=by rw[JX];unfold lP;rw[JX,List.getElem?_range Uo];rfl
  have ok:o9 B x j=(dv' q (kidD x (2*j)) && iz (fd B (placesM x) 4096) (q+1) (kidD x (2*j+1)) (hH i i)):=by
   unfold o9;rw[QK,v,t]
   rfl
  obtain⟨r,hr⟩:∃r,i-j=r+1:=⟨i-j-1,Uo⟩
  rw[hr]at a;simp only[lQ]at a;rw[ok]at a;have H:=MC f0 q Uo;have I:=MA (MF hB hpl Uo 4096) f1 Uo (Mb z) (by have:=D i;have:=f1.len;omega) f1.len q Uo;refine az j X ?_;refine az j Y ?_;refine vm (p:=iP) j v ?_;cases Z:dv' q (kidD x (2*j))with
  |false=>
   rw[Z]at H a;obtain rfl:18=e:=a;refine ae H ?_;exact kA9
  |true=>
  rw[Z]at H;rw[Z,Bool.true_and]at a;refine ae H ?_;refine vm (p:=iP) j v ?_;cases hd:iz (fd B (placesM x) 4096) (q+1) (kidD x (2*j+1)) (hH i i)with
  |false=>
   rw[hd]at I a;obtain rfl:18=e:=a;refine ae I ?_;exact kA9
  |true=>
  rw[hd]at I a;have a:lQ B x r (j+1)=e:=a;refine ae I ?_;refine vk ?_;refine vi ?_;exact aw (j+1) ⟨Uo,by rw[show i-(j+1)=r by omega];exact a⟩
 ·have F:¬ (j:Int)<((((jj x).map row).map rP).length:Int):=F
  rw[show i-j=0 by omega]at a;obtain rfl:0=e:=a;exact aE
end
theorem Fn':VD prog 172 .returning [0,1,2] [] []:=by
 refine ve ⟨_,func172,rfl,UO⟩ λo i w=>?_;obtain⟨v0,q,r,rfl⟩:=EC i;refine callsD_of_wpS func172 rfl λa t b=>?_;apply wpS_seq;apply wpS_region;simp[wpOpsS,go_sem,recoverD,b,Exit.thenS,Instr.typeAssert,underlying242,Tryz.zeroValue242];refine wpS_of_wp (Go.wp_mono (mr τok (n:=13) _ ⟨[(4,.bool false)],[]⟩ _ (λe s d=>e= .normal/\s.d=[]/\Kp [] w d) ?_ _ (lB Ud rfl Ud)) ?_)
 ·exact⟨rfl,rfl,Kp.alloc _ _⟩
 rintro e u d ⟨s,j,rfl,k,l⟩;exact pX j k rfl b ⟨⟨_,rfl⟩,rfl,l⟩
def AU(x y z:PV):List (Nat×SE):=[(0,.st 1 29 [.p x]),(1,.st 2 3 [.p y]),(2,.st 3 35 [.p z])]
theorem Nr(er:Int){x y z:PV}:VD prog 172 (.panicking (fC er)) [0,1,2] (AU x y z) (AU (.raw (.slice none 0 0)) (pI 0) (pI er)):=by
 refine⟨⟨_,func172,rfl,UO⟩,λw X C ρ d=>?_⟩;refine callsD_of_wpS func172 rfl λb t i=>?_;apply wpS_seq;apply wpS_region;simp[wpOpsS,go_sem,recoverD,i,Exit.thenS,Instr.typeAssert,underlying242,Tryz.zeroValue242];refine wpS_of_wp (Go.wp_mono (vg (n:=13) (m2:=AU (.raw (.slice none 0 0)) (pI 0) (pI er)) (q:=3) (p:=4) (k:=3) d (aj ?_) (lB Ud rfl (by simp[ini]))) ?_)
 ·refine vk ?_
  exact⟨rfl,rfl,rfl,rfl,trivial⟩
 rintro e u v ⟨rfl,s,j,l,o,a,r⟩;exact uF j l rfl ⟨⟨_,rfl⟩,rfl,o,a,r⟩
section
variable{B:ak}{cx:Ctx}(hB:GoodB B)(hcx:CxOk B cx)(hcl:cx.length<=90000)
include hB hcx hcl
theorem Ns{x:Tr}(a:Ft (QB B) (cx.length:Int) x){n:Nat}(hn:n<=100000):VG prog 128 [.c (.ptr 0 0),.c (.ptr 1 0)] [(0,.st 1 245 ((iT B cx n).map .p)),(1,.st 2 29 [.p (ah (row x))])] (match cA B cx GW x 4096 n with
  | .ok q=>.ok (.c (.p (ah (row q.1))),[(0,.st 1 245 ((iT B cx q.2).map .p)),(1,.st 2 29 [.p (ah (row x))])])
  | .error e=>.error (fC e)):=by
 have d:=a.len;have b:=LS hB hcx hcl GW x 4096 n a (by unfold len;omega) (Int.le_refl _) Uo (by unfold GW;omega);refine cz 9 [.tmp 3] τok func128 ?_;refine aj<|ae (qm a) ?_;cases hr:cA B cx GW x 4096 n with
 |error e=>
  rw[hr]at b;refine bG b ?_;exact rfl
 |ok q=>
  rw[hr]at b;refine ax b ?_;refine ae (E0 (qa hB hcx hcl GW x 4096 n q.1 q.2 a (by unfold len;omega) (Int.le_refl _) hr).1) ?_;exact db
theorem AW{x:Tr}(b:Ft (QB B) (cx.length:Int) x)(fuel:Int):VG prog 127 [.c (.p (bw B)),.c (.p (aH (cx.map aA))),.c (.p (ah (row x))),.c (.p (pI fuel)),.c (.fn 128 [100])] [(100,.st 1 29 [.p (ah (row x))])] (.ok (match dT B cx x fuel with
  | .ok q=>(.c (.p (.tup [ah (row q.1),pI q.2,pI 0])),[(100,.st 1 29 [.p (ah (row x))])])
  | .error e=>(.c (.p (.tup [.sl [],pI 0,pI e])),[]))):=by
 have hn:min (max fuel 0) 100000=((bp fuel:Nat):Int):=by unfold bp;omega
 have a:=Ns hB hcx hcl b (n:=bp fuel) (by unfold bp;omega);unfold dT
 generalize cA B cx GW x 4096 (bp fuel)=r at a ⊢
 rcases r with e|q
 all_goals
  refine nZ 30 [.cell 10 29,.cell 11 3,.cell 12 35] τok func127 ?_;refine aj<|⟨⟨rfl,rfl,rfl⟩,rfl,λd=>?_⟩;refine aj ?_
  first
   |refine lw (λk=>sw 0 21 (sw 1 100 k)) a ?_ (he:=by rw[hn];repeat first|exact VQ|refine And.intro rfl ?_)
    refine iu (λk=>k+10) (λ_=>0) (Nr e) ?_;exact .inl ⟨_,_,_,id,rfl,rfl,rfl,rfl,trivial,rfl⟩
   |refine aR (λk=>sw 0 21 (sw 1 100 k)) (λk=>k-99) a ?_ (he:=by rw[hn];repeat first|exact VQ|refine And.intro rfl ?_)
    refine vk ?_;refine iu (λk=>k+10) (λ_=>0) Fn' ?_;exact db
theorem Nt{x:Tr}(b:Ft (QB B) (cx.length:Int) x)(n:Int):VC prog 70 [bw B,aH (cx.map aA),ah (row x),pI n] (match dT B cx x n with
  | .ok q=>.tup [ah (row q.1),pI q.2,pI 0]
  | .error e=>.tup [.sl [],pI 0,pI e]):=by
 have a:=AW hB hcx hcl b n
 generalize dT B cx x n=r at a ⊢
 rcases r with e|q
 all_goals
  refine vf 20 [.tmp 8,.tmp 9,.tmp 10] τok func70 ?_;refine aR (λk=>sw 100 6 k) (λ_=>0) a ?_;exact aE
end
end Go.Q
namespace Go.Wx
structure M2(P:Program)(K T:TypeId):Prop where
 eq:∀(a b c d:Int) (w:World),(Op.equal K (.agg #[iV a,iV b]) (.agg #[iV c,iV d])).run P w= .ok (decide (a=c/\b=d)) w
 ck:∀(e:Bool) (a b:Int) (w:World),(Instr.checkKey e 10000 K (.agg #[iV a,iV b])).run P w= .ok () w
 k:∃fs,P.underlying K=some (.struct fs)
 t:P.underlying T=some (.map K 3)
 z:∀w,(zeroValue 3).run P w= .ok (iV 0) w
def fK(x y:Int):Value:=.agg #[iV x,iV y]
def mb(es:List MapEntry)(l:List (Int×Int×Int)):Prop:=es.map (λe=>(e.key,e.val))=l.map λt=>(fK t.1 t.2.1,iV t.2.2)
def eg(x y:Int):List (Int×Int×Int) ->Nat ->Option (Nat×Int)
 |[],_=>none
 |t::r,i=>if x=t.1/\y=t.2.1 then some (i,t.2.2)else eg x y r (i+1)
def QG(g:Lv.G)(o:Obj):Prop:=∃es clock l,o= .map es clock/\mb es.toList l/\∀x y,g x y=(eg x y l 0).map (·.2)
theorem AX(x y:Int):∀(l:List (Int×Int×Int)) (i:Nat) (p:Nat×Int),eg x y l i=some p ->i<=p.1/\∃t,l[p.1-i]?=some t/\t.1=x/\t.2.1=y/\t.2.2=p.2
 |t::r,i,p,h=>by
  simp only[eg]at h;split at h
  ·rename_i hc
   obtain rfl:=JB h;exact⟨KJ _,t,Ud,hc.1.symm,hc.2.symm,rfl⟩
  ·obtain⟨e,a,b,d⟩:=AX x y r (i+1) p h
   refine⟨Uo,a,?_,d⟩;rw[show p.1-i=(p.1-(i+1))+1 by omega]
   simpa using b
theorem Gd(x y v:Int):∀(l:List (Int×Int×Int)) (i:Nat) (p:Nat×Int),eg x y l i=some p ->∀a c,(eg a c (l.set (p.1-i) (x,y,v)) i).map (·.2)=if a=x/\c=y then some v else (eg a c l i).map (·.2)
 |t::r,i,p,h,a,c=>by
  simp only[eg]at h;split at h
  ·rename_i hc
   obtain rfl:=JB h;rw[Nat.sub_self,List.set_cons_zero];simp only[eg]
   by_cases e:a=x/\c=y
   ·rw[KX e,KX e];rfl
   ·rw[KY e,KY e,KY (by rw[<- hc.1,<- hc.2];exact e)]
  ·rename_i hc
   obtain⟨b,_⟩:=AX x y r (i+1) p h;rw[show p.1-i=(p.1-(i+1))+1 by omega,List.set_cons_succ];simp only[eg]
   by_cases e:a=t.1/\c=t.2.1
   ·rw[KX e,KX e,KY (by rintro⟨rfl,rfl⟩;exact hc e)]
   ·rw[KY e,KY e]
    exact Gd x y v r (i+1) p h a c
theorem Ge(x y v:Int):∀(l:List (Int×Int×Int)) (i:Nat),eg x y l i=none ->∀a c,(eg a c (l++[(x,y,v)]) i).map (·.2)=if a=x/\c=y then some v else (eg a c l i).map (·.2)
 |[],i,_,a,c=>by
  simp only[List.nil_append,eg];split<;>rfl
 |t::r,i,h,a,c=>by
  simp only[eg]at h;split at h
  ·cases h
  ·rename_i hc
   simp only[List.cons_append,eg]
   by_cases e:a=t.1/\c=t.2.1
   ·rw[KX e,KX e,KY (by rintro⟨rfl,rfl⟩;exact hc e)]
   ·rw[KY e,KY e]
    exact Ge x y v r (i+1) h a c
section
variable{P:Program}{K T:TypeId}(hM:M2 P K T)
include hM
theorem Gf(x y:Int)(w:World):∀(es:List MapEntry) (l:List (Int×Int×Int)) (i:Nat),mb es l ->
  (Instr.findAsking K (fK x y) es i).run P w= .ok ((eg x y l i).map λp=>(p.1,iV p.2)) w
 |[],[],i,_=>by simp[Instr.findAsking,eg]
 |e::es,t::l,i,h=>by
  simp only[mb,List.map_cons,List.cons.injEq,Prod.mk.injEq]at h;obtain⟨⟨h1,h2⟩,h3⟩:=h;have a:=Gf x y w es l (i+1) h3;simp only[Instr.findAsking,Sem.run_bind,h1,fK,hM.eq,Result.andThen_ok,eg];simp only[fK]at a
  by_cases b:x=t.1/\y=t.2.1
  ·simp[b,h2]
  ·simp[b,a]
 |[],_::_,_,h=>by simp[mb]at h
 |_::_,[],_,h=>by simp[mb]at h
theorem Gg(x y:Int)(w:World)(es:List MapEntry)(l:List (Int×Int×Int))(h:mb es l):
  (Instr.findKey K (fK x y) es).run P w= .ok ((eg x y l 0).map λp=>(p.1,iV p.2)) w:=by
 obtain⟨b,a⟩:=hM.k;simp only[Instr.findKey,Sem.run_bind,run_underlying a,Result.andThen_ok]
 match es,l,h with
 |[],[],_=>simp[Instr.findNow,eg]
 |e::es,t::l,h=>
  simp only[Instr.findNow,Instr.sameNow,fK];exact Gf hM x y w _ _ 0 h
 |[],_::_,h=>simp[mb]at h
 |_::_,[],h=>simp[mb]at h
theorem Gh{w:World}{b:Nat}{g:Lv.G}{o:Obj}(r:w.heap[b]?=some o)(s:QG g o)(x y:Int)(ok:Bool):
  (Instr.lookup T (.map (some b)) (fK x y) ok).run P w= .ok (if ok then .tuple #[iV ((g x y).getD 0),.bool (g x y).isSome]else iV ((g x y).getD 0)) w:=by
 obtain⟨k,d,l,rfl,t,u⟩:=s;have i:(getObj b).run P w= .ok (.map k d) w:=by simp[getObj,Sem.run,r]
 have a:=Gg hM x y w k.toList l t;have j:∀e w,(Instr.checkKey e 10000 K (fK x y)).run P w= .ok () w:=λ_ _=>hM.ck _ _ _ _;simp only[Instr.lookup,Sem.run_bind,run_underlying hM.t,Result.andThen_ok,i,j,u];cases q:eg x y l 0 with
 |none=>rw[q]at a;simp[a,hM.z]
 |some p=>rw[q]at a;simp[a]
theorem AY{w:World}{b:Nat}{g:Lv.G}{o:Obj}(H:w.heap[b]?=some o)(S:QG g o)(x y v:Int):
  ∃I,QG (Lv.putG g x y v) I/\(Instr.mapUpdate T (.map (some b)) (fK x y) (iV v)).run P w= .ok () {w with heap:=w.heap.setIfInBounds b I}:=by
 obtain⟨k,d,l,rfl,u,L⟩:=S;have q:(getObj b).run P w= .ok (.map k d) w:=by simp[getObj,Sem.run,H]
 have j:=Gg hM x y w k.toList l u;have r:∀o,(setObj b o).run P w= .ok () {w with heap:=w.heap.setIfInBounds b o}:=λo=>by simp[setObj,Sem.run,H]
 have z:∀e w,(Instr.checkKey e 10000 K (fK x y)).run P w= .ok () w:=λ_ _=>hM.ck _ _ _ _;have M:k.size=l.length:=by
  have:=KG List.length u
  simpa using this
 cases C:eg x y l 0 with
 |none=>
  rw[C]at j;refine⟨.map (k.push {key:=fK x y,val:=iV v,born:=d}) (d+1),⟨_,_,l++[(x,y,v)],rfl,?_,λa c=>?_⟩,by simp[Instr.mapUpdate,run_underlying hM.t,q,z,j,r]⟩
  ·simp only[mb,Array.toList_push,KB,u,List.map_cons,List.map_nil]
   rw[u]
  ·rw[Ge x y v l 0 C a c,<- L]
   rfl
 |some p=>
  rw[C]at j;obtain⟨_,t,E,U,V,X⟩:=AX x y l 0 p C;rw[Nat.sub_zero]at E;have W:p.1<l.length:=(List.getElem?_eq_some_iff.1 E).1;have D:((k[p.1]?).map (·.key)).getD (fK x y)=fK x y:=by
   have:=KG (λl=>l[p.1]?) u;simp only[JX,E,Option.map_some,Array.getElem?_toList]at this;cases s:k[p.1]? with
   |none=>simp
   |some e=>
    rw[s]at this;simp only[Option.map_some,QZ,Prod.mk.injEq]at this;simp[this.1,U,V]
  have F:(Instr.keyThatStays (fK x y) (fK x y)).run P w= .ok (fK x y) w:=by
   unfold Instr.keyThatStays;rw[show (10000:Nat)=9999+1 from rfl,show Instr.sameBits (9999+1) (fK x y) (fK x y)=true by simp[Instr.sameBits,fK]];simp
  refine⟨.map (k.modify p.1 λe=>{e with key:=fK x y,val:=iV v}) d,⟨_,_,l.set p.1 (x,y,v),rfl,?_,λa c=>?_⟩,?_⟩
  ·unfold mb
   apply List.ext_getElem?;intro i;have:=KG (λl=>l[i]?) u;simp only[JX,Array.getElem?_toList]at this ⊢;simp only[Array.getElem?_modify,List.getElem?_set]
   by_cases O:p.1=i
   ·subst O
    have s:p.1<k.size:=Uo
    simp[W,s]
   ·simp[O,this]
  ·have:=Gd x y v l 0 p C a c
   rw[Nat.sub_zero]at this;rw[this,<- L]
   rfl
  ·simp only[Instr.mapUpdate,Sem.run_bind,run_underlying hM.t,Result.andThen_ok,q,z]
   rw[j];simp only[Option.map_some,Result.andThen_ok,Sem.run_bind];rw[D,F];simp[r]
def wl(x y:Int):AV:=.agg [.p (pI x),.p (pI y)]
omit hM in
theorem AZ{C:Mem}{ρ:Nat ->Value}{x y:Int}{v:Value}(h:RA C ρ (wl x y) v):v=fK x y:=by
 obtain⟨d,rfl,e,h⟩:=h
 match d,e with
 |[a,b],_=>
  have i:RV C (pI x) a:=h 0 _ a rfl rfl;have j:RV C (pI y) b:=h 1 _ b rfl rfl;cases i;cases j
  rfl
theorem wn{g:Lv.G}{x y:Int}{k:PV ->Prop}(e:k (.tup [pI ((g x y).getD 0),.bool (g x y).isSome])):yr P T (QG g) (wl x y) true k:=⟨_,λC ρ s b w o j l r=>by
 rw[AZ j];refine⟨_,.tup _ [_,_] rfl λi p q a d=>?_,Gh hM l r x y true⟩
 match i,a,d with
 |0,a,d=>obtain rfl:=JB a;obtain rfl:=JB d;exact .int _ _
 |1,a,d=>obtain rfl:=JB a;obtain rfl:=JB d;exact .bool _,e⟩
theorem A0{g:Lv.G}{x y:Int}{k:PV ->Prop}(a:k (pI ((g x y).getD 0))):yr P T (QG g) (wl x y) false k:=⟨_,λC ρ j b w o d e i=>by
 rw[AZ d];exact⟨_,.int _ _,Gh hM e i x y false⟩,a⟩
theorem qy{g:Lv.G}{x y v:Int}{k:(Obj ->Prop) ->Prop}(d:k (QG (Lv.putG g x y v))):C4 P T (QG g) (wl x y) (vI v) k:=⟨_,λC ρ q e b w o i a j l=>by
 rw[AZ i];have a:RV C (pI v) e:=a;cases a;exact AY hM j l x y v,d⟩
omit hM in
theorem qg0:QG (λ_ _=>none) (.map #[] 0):=⟨#[],0,[],rfl,rfl,λ_ _=>rfl⟩
end
end Go.Wx
namespace Go.Q
theorem Gi(e:Bool)(d:Nat)(n:Int)(w:World):(Instr.checkKey e (d+1) 3 (iV n)).run prog w= .ok () w:=by
 simp only[Instr.checkKey,Sem.run_bind,run_underlying underlying3,Result.andThen_ok]
 rfl
theorem m2e:M2 prog 234 169:=by
 refine⟨λa b c d w=>?_,λe a b w=>?_,⟨_,underlying234⟩,underlying169,λw=>UD⟩
 ·have hf:prog.underlying 234=some (.struct (prog.fieldsOf 234)):=by rw[Program.fieldsOf,underlying234]
  have h:=run_equalIn_struct (P:=prog) w 9999 234 #[iV a,iV b] #[iV c,iV d] hf UD;show (Op.equalIn 10000 234 _ _).run prog w=_;rw[h];simp[Program.fieldsOf,underlying234,Op.eqFields,part,go_sem,underlying3]
  by_cases i:a=c<;>by_cases j:b=d<;>simp[i,j,go_sem]
 ·show (Instr.checkKey e (9998+1+1) 234 _).run prog w=_
  rw[Instr.checkKey];simp only[Sem.run_bind,run_underlying underlying234,Result.andThen_ok];rw[<- Array.forIn_toList];simp[part,go_sem,Gi]
theorem m2p:M2 prog 117 176:=by
 refine⟨λa b c d w=>?_,λe a b w=>?_,⟨_,underlying117⟩,underlying176,λw=>UD⟩
 ·have hf:prog.underlying 117=some (.struct (prog.fieldsOf 117)):=by rw[Program.fieldsOf,underlying117]
  have h:=run_equalIn_struct (P:=prog) w 9999 117 #[iV a,iV b] #[iV c,iV d] hf UD;show (Op.equalIn 10000 117 _ _).run prog w=_;rw[h];simp[Program.fieldsOf,underlying117,Op.eqFields,part,go_sem,underlying3]
  by_cases i:a=c<;>by_cases j:b=d<;>simp[i,j,go_sem]
 ·show (Instr.checkKey e (9998+1+1) 117 _).run prog w=_
  rw[Instr.checkKey];simp only[Sem.run_bind,run_underlying underlying117,Result.andThen_ok];rw[<- Array.forIn_toList];simp[part,go_sem,Gi]
theorem Gj(g:G)(x y v:Int):VG prog 166 [.c (.row 0),.c (.p (.agg [pI x,pI y])),vI v] [(0,.ob 1 (QG g))] (.ok (.c (.p (.tup [])),[(0,.ob 1 (QG (dE g x y v)))])):=by
 have i:∀b,g x y=some b ->¬ b<v ->g=dE g x y v:=λb j l=>by
  funext a c
  by_cases e:a=x/\c=y
  ·obtain⟨rfl,rfl⟩:=e;simp[dE,putG,j,cq,l]
  ·exact(sf _ _ _ _ _ _ e).symm
 refine cz 24 [] τok func166 ?_;refine aj<|wn m2e ?_;cases d:g x y with
 |none=>
  have hr:dE g x y v=putG g x y v:=by simp[dE,d,cq]
  rw[hr];exact qy m2e<|db
 |some b=>
  refine af (λj=>?_) (λj=>?_)
  ·have k:b<v:=j
   have hr:dE g x y v=putG g x y v:=by simp[dE,d,cq,k]
   rw[hr];exact qy m2e<|db
  ·rw[<- i b d j]
   exact db
def sX(r:Except Int G):Except (List PanicEntry) (AV×List (Nat×SE)):=match r with
 | .error n=>.ok (.c (.p (.tup [.raw (.map none),pI n])),[])
 | .ok g=>.ok (.tp [.row 0,.p (pI 0)],[(0,.ob 0 (QG g))])
theorem Gk(vars:Int)(os:List aZ):VG prog 108 (vals [pI vars,.sl (os.map eJ)]) [] (sX (fc vars os)):=by
 have eO:=au eJ os;generalize F:sX (fc vars os)=L;refine cz 146 [.tmp 4,.tmp 5] τok func108 ?_;refine aj ?_;have t:∀n,fc vars os= .error n ->L=sX (.error n):=λn h=>by rw[<- F,h]
 refine af (λh1=>?_) (λh1=>?_)
 ·rw[t 1 (by unfold fc;rw[KX Uo])]
  exact .inl ⟨_,_,_,id,rfl,rfl,rfl,rfl,trivial,rfl⟩
 refine af (λh2=>?_) (λh2=>?_)
 ·rw[t 1 (by unfold fc;rw[KX Uo])]
  exact .inl ⟨_,_,_,id,rfl,rfl,rfl,rfl,trivial,rfl⟩
 refine af (λh3=>?_) (λh3=>?_)
 ·rw[t 5 (by unfold fc;rw[KY Uo,KX Uo])]
  exact .inl ⟨_,_,_,id,rfl,rfl,rfl,rfl,trivial,rfl⟩
 obtain⟨n,hn⟩:∃n:Nat,(n:Int)=vars+1:=⟨vars.toNat+1,Uo⟩
 have a3:n<=17:=Uo
 have hcl:fc vars os=match jd vars os (lE n)with
  |none=>.error 1
  |some g=>match jW n n 0 g with
   |none=>.error 7
   |some g'=>.ok g':=by
  have e:vars.toNat+1=n:=Uo
  unfold fc;rw[KY Uo,KY Uo,e]
  rfl
 refine rG (QG λ_ _=>none) ?_ qg0;refine vi ?_;refine aB τok (σ:=Nat) [(0,_),(1,_),(6,_),(29,_)] [] (λk=>[(30,vI k)]) (λk=>[(27,.ob 0 (QG (bT (λv g=>putG (putG g v v 0) 0 v 0) k (λ_ _=>none))))]) (λk=>k<=n) (λk=>n-k) 0 (KV _) ?_;rintro k U;refine aj<|af (λh4=>?_) (λh4=>?_)
 ·refine qy m2e ?_
  refine qy m2e<|vi ?_;exact aw (k+1) Uo
 obtain rfl:k=n:=Uo
 clear h4 U
 refine aB τok (σ:=Nat×G) [(0,_),(6,_),(41,_),(42,_)] [] (λx=>[(43,vI x.1)]) (λx=>[(27,.ob 0 (QG x.2))]) (λx=>x.1<=os.length/\jd vars os (lE k)=jd vars (os.drop x.1) x.2/\lF 1000 x.2) (λx=>os.length-x.1) (0,lE k) ⟨KV _,rfl,Kn k⟩ ?_;obtain⟨n,rfl⟩:∃n,n=k:=⟨k,rfl⟩
 rintro⟨k,g⟩ ⟨U,r,i⟩;simp only at U r i;refine aj<|af (λH=>?_) (λH=>?_)
 ·obtain⟨x,hx,hd⟩:=ay (l:=os) (k:=k)
  have j:jd vars os (lE n)=if dN vars x then none else jd vars (os.drop (k+1)) (dE g x.low x.high x.add):=by rw[r,hd];rfl
  have a0:dN vars x=true ->L=sX (.error 1):=λh=>t 1 (by rw[hcl,j,h];rfl);refine vm (p:=eJ) k hx ?_
  iterate 6
   refine af (λc=>?_) (λc=>?_)
   ·rw[a0 (by unfold dN;exact KU Uo)]
    exact .inl ⟨_,_,_,id,rfl,rfl,rfl,rfl,trivial,rfl⟩
  have ok:dN vars x=false:=by unfold dN;exact KH Uo
  rw[ok]at j;refine aR (λ_=>27) (λ_=>0) (Gj g x.low x.high x.add) ?_;refine vi ?_;exact aw (k+1,dE g x.low x.high x.add) ⟨by show k+1<=_;omega,j,Kh i Uo Uo⟩
 have u:jd vars os (lE n)=some g:=by rw[r,JY Uo];rfl
 rw[u]at hcl;simp only at hcl
 clear r u H U
 refine vi ?_;refine aB τok (σ:=Nat×G) [(0,_),(6,_),(88,_)] [] (λx=>[(89,vI x.1)]) (λx=>[(27,.ob 0 (QG x.2))]) (λx=>x.1<=n/\jW n n 0 g=jW n (n-x.1) x.1 x.2/\lF (pw x.1) x.2) (λx=>n-x.1) (0,g) ⟨KV _,rfl,i⟩ ?_
 clear i
 rintro⟨m,Z⟩ ⟨hm,M,i⟩;simp only at hm M i;refine aj<|af (λH=>?_) (λH=>?_);rotate_left
 ·obtain rfl:m=n:=by have H:¬ (m:Int)<vars+1:=H;omega
  have:jW m m 0 g=some Z:=by rw[M,Nat.sub_self];rfl
  rw[show L=sX (.ok Z) by rw[<- F,hcl,this]];exact .inr ⟨_,λ_=>27,rfl,rfl,⟨rfl,trivial⟩,rfl⟩
 have H:(m:Int)<vars+1:=H;have a4:m<n:=Uo
 obtain⟨V,a5⟩:=Ia' m Uo;have hJ:=Em V i m;refine vi ?_;refine aB τok (σ:=Nat×G) [(0,_),(6,_),(88,_),(89,_),(10,_),(93,_)] [] (λx=>[(94,vI x.1)]) (λx=>[(27,.ob 0 (QG x.2))]) (λx=>x.1<=n/\x.2=bT (kI n m) x.1 Z) (λx=>n-x.1) (0,Z) ⟨KV _,rfl⟩ ?_;rintro⟨b,s⟩ ⟨W,w⟩;simp only at W w;refine aj<|af (λX=>?_) (λX=>?_)
 ·have X:(b:Int)<vars+1:=X
  have a1:J (pw m) m b 0 s:=w▸Er (n:=n) hJ b;refine vi ?_;refine aB τok (σ:=Nat×G) [(0,_),(6,_),(88,_),(89,_),(10,_),(93,_),(94,_),(11,_),(98,_)] [] (λx=>[(99,vI x.1)]) (λx=>[(27,.ob 0 (QG x.2))]) (λx=>x.1<=n/\x.2=bT (Lv.step m b) x.1 s) (λx=>n-x.1) (0,s) ⟨KV _,rfl⟩ ?_;rintro⟨a,o⟩ ⟨O,E⟩;simp only at O E;refine aj<|af (λz=>?_) (λz=>?_)
  ·have z:(a:Int)<vars+1:=z
   have a2:J (pw m) m b a o:=E▸Eo a1 a;have C:Lv.step m b a o=bT (Lv.step m b) (a+1) s:=by rw[E];rfl
   refine wn (g:=o) (x:=(b:Int)) (y:=(m:Int)) m2e<|wn (g:=o) (x:=(m:Int)) (y:=(a:Int)) m2e ?_;have d:(o b m=none \/o m a=none) ->o=bT (Lv.step m b) (a+1) s:=λh=>by
    rw[<- C];rcases step_cases m b a o with ⟨p,q,hp,hq,_⟩|e
    ·rcases h with h|h
     ·rw[h]at hp;cases hp
     ·rw[h]at hq;cases hq
    ·exact e.symm
   cases ha:o b m with
   |none=>
    refine vi ?_;exact aw (a+1,o) ⟨by show a+1<=_;omega,d (.inl ha)⟩
   |some p=>
    cases hb:o m a with
    |none=>
     refine vi ?_;exact aw (a+1,o) ⟨by show a+1<=_;omega,d (.inr hb)⟩
    |some q=>
     have hs:=Kl a2 ha hb;refine vi ?_ (by simp only[Option.getD_some];omega) (by simp only[Option.getD_some];omega);refine aR (λ_=>27) (λ_=>0) (Gj o b a (p+q)) ?_;refine vi ?_;exact aw (a+1,dE o b a (p+q)) ⟨by show a+1<=_;omega,by rw[<- C,Ec ha hb]⟩
  ·have z:¬ (a:Int)<vars+1:=z
   obtain rfl:a=n:=Uo
   refine vi ?_;exact aw (b+1,o) ⟨by show b+1<=_;omega,by rw[E,w];rfl⟩
 have X:¬ (b:Int)<vars+1:=X;obtain rfl:b=n:=Uo
 have Y:lF (pw (m+1)) s:=w▸Ko V i;have D:jW b b 0 g=if jz b s then none else jW b (b-(m+1)) (m+1) s:=by
  rw[M,show b-m=(b-(m+1))+1 by omega,w];rfl
 refine vi ?_;refine aB τok (σ:=Nat) [(0,_),(6,_),(88,_),(89,_),(133,_)] [(27,_)] (λk=>[(134,vI k)]) (λ_=>[]) (λk=>k<=b/\∀v,v<k ->pZ s v=false) (λk=>b-k) 0 ⟨KV _,λv hv=>Uo⟩ ?_;rintro k ⟨U,I⟩;refine aj<|af (λz=>?_) (λz=>?_)
 ·have z:(k:Int)<vars+1:=z
  refine A0 m2e<|af (λh8=>?_) (λh8=>?_)
  ·have S:jz b s=true:=by
    unfold jz;rw[List.any_eq_true];exact⟨k,List.mem_range.2 Uo,by unfold pZ;exact KU h8⟩
   rw[t 7 (by rw[hcl,D,S];rfl)];exact .inl ⟨_,_,_,id,rfl,rfl,rfl,rfl,trivial,rfl⟩
  ·refine vi ?_
   refine aw (k+1) ⟨by show k+1<=_;omega,λv hv=>?_⟩
   by_cases e:v=k
   ·subst e;unfold pZ;exact KH h8
   ·exact I v Uo
 ·have z:¬ (k:Int)<vars+1:=z
  obtain rfl:k=b:=Uo
  have S:jz k s=false:=by
   unfold jz;rw[List.any_eq_false];intro v hv;simp[I v (List.mem_range.1 hv)]
  rw[S]at D;refine vi ?_;exact aw (m+1,s) ⟨by show m+1<=_;omega,D,Y⟩
theorem Nu{vars:Int}{os:List aZ}:VC prog 58 [pI vars,.sl (os.map eJ)] (pI (p9 vars os)):=by
 have a:=Gk vars os;unfold p9;refine vf 14 [.tmp 4] τok func58 ?_;cases h:fc vars os with
 |error n=>
  rw[h]at a;refine aR (λ_=>10) (λ_=>0) a ?_;exact aE
 |ok g=>
  rw[h]at a;refine aR (λ_=>10) (λ_=>0) a ?_;exact aE
theorem bV{p q:Bool}(h:p=q):fY' [PV.nz (.bool p)]= .bool q:=by rw[h];rfl
theorem A1(l:List Atom)(hl:l.length<=1000000000)(vars:Int):VC prog 222 [cF l,pI vars] (.bool (cN l vars)):=by
 have E:=au atP l;have j:vars<0 \/16<vars \/l.length<1 \/4<l.length ->false=cN l vars:=λh=>by unfold cN;rw[KX h]
 refine vf 53 [.tmp 4] τok func222 ?_;refine af (λt=>?_) (λt=>?_)
 ·exact⟨_,_,rfl,rfl,bV (j Uo)⟩
 refine af (λu=>?_) (λu=>?_)
 ·exact⟨_,_,rfl,rfl,bV (j Uo)⟩
 refine af (λv=>?_) (λv=>?_)
 ·exact⟨_,_,rfl,rfl,bV (j Uo)⟩
 refine af (λw=>?_) (λw=>?_)
 ·exact⟨_,_,rfl,rfl,bV (j Uo)⟩
 rw[show cN l vars=fQ vars l (-1) by unfold cN;rw[KY Uo]];generalize d:fQ vars l (-1)=e;refine aB τok (σ:=Nat×Int) [(1,_),(24,_),(25,_)] [] (λq=>[(5,vI q.2),(26,vI q.1)]) (λ_=>[]) (λq=>q.1<=l.length/\fQ vars (l.drop q.1) q.2=e) (λq=>l.length-q.1) (0,-1) ⟨KV _,d⟩ ?_;rintro⟨k,b⟩ ⟨z,hr⟩;simp only at z hr;refine aj<|af (λi=>?_) (λi=>?_);rotate_left
 ·have i:¬ (k:Int)<((l.map atP).length:Int):=i
  rw[JY Uo]at hr;exact⟨_,_,rfl,rfl,bV hr⟩
 have i:(k:Int)<((l.map atP).length:Int):=i;obtain⟨x,C,D⟩:=ay (l:=l) (k:=k);rw[D]at hr;simp only[fQ]at hr;have a:x.var<=b \/vars<x.var \/x.add<0 \/1000<x.add ->false=e:=λh=>by rw[<- hr,KX h]
 refine vm (p:=atP) k C ?_;refine af (λc1=>?_) (λc1=>?_)
 ·exact⟨_,_,rfl,rfl,bV (a (.inl c1))⟩
 have c1:¬ x.var<=b:=c1;refine af (λo=>?_) (λo=>?_)
 ·exact⟨_,_,rfl,rfl,bV (a (.inr (.inl o)))⟩
 refine af (λr=>?_) (λr=>?_)
 ·exact⟨_,_,rfl,rfl,bV (a (.inr (.inr (.inl r))))⟩
 refine af (λs=>?_) (λs=>?_)
 ·exact⟨_,_,rfl,rfl,bV (a (.inr (.inr (.inr s))))⟩
 rw[KY Uo]at hr;refine vi ?_;exact aw (k+1,x.var) ⟨by show k+1<=_;omega,hr⟩
def qz(g:G)(x:Atom):List (Nat×SE):=[(0,.st 1 169 [.row 2]),(1,.st 2 220 [.p (pI x.var),.p (pI x.add)]),(2,.ob 3 (QG g))]
theorem Nv(g:G)(x y:Atom)(i:0<=x.add/\x.add<=1000)(j:0<=y.add/\y.add<=1000):VG prog 293 [.c (.p (.agg (atP y))),.c (.ptr 0 0),.c (.ptr 1 0)] (qz g x) (.ok (.c (.p (.bool (dw g x y))),qz g x)):=by
 generalize a:dw g x y=e;unfold dw at a;refine cz 27 [.tmp 4] τok func293 ?_;refine aj<|wn m2e ?_;cases b:g x.var y.var with
 |none=>
  rw[b]at a;exact .inl ⟨_,_,_,id,rfl,rfl,rfl,bV a,⟨rfl,rfl,rfl,trivial⟩,rfl⟩
 |some d=>
  rw[b]at a;refine vi ?_;refine af (λh=>?_) (λh=>?_)
  ·exact .inl ⟨_,_,_,id,rfl,rfl,rfl,bV ((KU h).symm.trans a),⟨rfl,rfl,rfl,trivial⟩,rfl⟩
  ·exact .inl ⟨_,_,_,id,rfl,rfl,rfl,bV ((KH h).symm.trans a),⟨rfl,rfl,rfl,trivial⟩,rfl⟩
theorem Nw(g:G)(x:Atom)(l:List Atom)(hl:l.length<=1000000)(j:0<=x.add/\x.add<=1000)(o:∀y∈l,0<=y.add/\y.add<=1000):VG prog 294 [.c (.p (cF l)),.c (.fn 293 [0,1])] (qz g x) (.ok (.c (.p (pI (nS (dw g x) l 0))),qz g x)):=by
 have s:=au atP l;generalize a:nS (dw g x) l 0=e;refine cz 19 [.tmp 4] τok func294 ?_;refine aj<|aB τok (σ:=Nat) [(0,_),(1,_),(6,_),(7,_)] [(0,_),(1,_),(2,_)] (λk=>[(8,vI k)]) (λ_=>[]) (λk=>k<=l.length/\nS (dw g x) (l.drop k) k=e) (λk=>l.length-k) 0 ⟨KV _,a⟩ ?_;rintro k ⟨t,hr⟩;refine aj<|af (λq=>?_) (λq=>?_);rotate_left
 ·rw[JY Uo]at hr
  exact .inl ⟨_,_,_,id,rfl,rfl,rfl,KG (PV.int .i64) hr,⟨rfl,rfl,rfl,trivial⟩,rfl⟩
 obtain⟨y,b,r⟩:=ay (l:=l) (k:=k);rw[r]at hr;simp only[nS]at hr;have d:=Nv g x y j (o y (JQ b));refine vm (p:=atP) k b ?_;cases i:dw g x y with
 |true=>
  rw[i]at d hr;refine aR id (λk=>k+1) d ?_;exact .inl ⟨_,_,_,id,rfl,rfl,rfl,KG (PV.int .i64) hr,⟨rfl,rfl,rfl,trivial⟩,rfl⟩
 |false=>
  rw[i]at d hr;refine aR id (λk=>k+1) d ?_;refine vi ?_;exact aw (k+1) ⟨Uo,hr⟩
theorem Nx(g:G)(x:Atom)(l:List Atom)(hl:l.length<=1000000)(a:0<=x.add/\x.add<=1000)(b:∀y∈l,0<=y.add/\y.add<=1000):VG prog 292 [.c (.p (cF l)),.c (.fn 293 [0,1])] (qz g x) (.ok (.c (.p (.bool (l.any (dw g x)))),qz g x)):=by
 refine cz 9 [.tmp 4] τok func292 ?_;refine aj<|aR id (λk=>k+1) (Nw g x l hl a b) ?_;rw[<- Eu (dw g x) l 0 UO];refine af (λh=>?_) (λh=>?_)
 ·exact .inl ⟨_,_,_,id,rfl,rfl,rfl,bV (KU h).symm,⟨rfl,rfl,rfl,trivial⟩,rfl⟩
 ·exact .inl ⟨_,_,_,id,rfl,rfl,rfl,bV (KH h).symm,⟨rfl,rfl,rfl,trivial⟩,rfl⟩
theorem Ny(vars:Int)(os:List aZ)(a b:List Atom)(ha:a.length<=1000000)(hb:b.length<=1000000):VC prog 287 [pI vars,.sl (os.map eJ),cF a,cF b] (.bool (jX vars os a b)):=by
 have F:=au atP a;have q:=Gk vars os;have r:=A1 a Uo vars;have s:=A1 b Uo vars;generalize d:jX vars os a b=t;unfold jX at d;refine vf 44 [.tmp 8] τok func287 ?_;cases h:fc vars os with
 |error n=>
  rw[h]at q d;have hn:=closedF_err h;refine aR (λ_=>16) (λ_=>0) q ?_;refine vy ?_ (show n≠0 by omega);exact⟨_,_,rfl,rfl,bV d⟩
 |ok g=>
  rw[h]at q d;simp only at d;refine aR (λ_=>16) (λ_=>0) q ?_;refine vn ?_ UO;cases i:cN a vars with
  |false=>
   rw[i]at r d;exact ae r<|⟨_,_,rfl,rfl,bV d⟩
  |true=>
  rw[i]at r d;refine ae r ?_;cases j:cN b vars with
  |false=>
   rw[j]at s d;exact ae s<|⟨_,_,rfl,rfl,bV d⟩
  |true=>
  rw[j]at s d;rw[Bool.true_and,Bool.true_and]at d;refine ae s ?_;have C:=jY i;have u:=jY j;refine aB τok (σ:=Nat) [(3,_),(9,_),(33,_),(34,_)] [(9,_),(16,_)] (λk=>[(35,vI k)]) (λ_=>[]) (λk=>k<=a.length/\((a.drop k).all λx=>b.any (dw g x))=t) (λk=>a.length-k) 0 ⟨KV _,d⟩ ?_
  clear d
  rintro k ⟨H,hr⟩;refine aj<|af (λD=>?_) (λD=>?_);rotate_left
  ·rw[JY Uo]at hr
   exact⟨_,_,rfl,rfl,bV hr⟩
  obtain⟨x,v,E⟩:=ay (l:=a) (k:=k);rw[E,List.all_cons]at hr;have o:=C.2 x (JQ v);have e:=Nx g x b hb ⟨o.1,o.2.1⟩ λy w=>⟨(u.2 y w).1,(u.2 y w).2.1⟩
  refine vm (p:=atP) k v ?_;cases z:b.any (dw g x)with
  |false=>
   rw[z]at e hr;exact aR (λk=>[9,12,16].getD k 0) (λ_=>0) e<|⟨_,_,rfl,rfl,bV hr⟩
  |true=>
   rw[z]at e hr;refine aR (λk=>[9,12,16].getD k 0) (λ_=>0) e ?_;refine vi ?_;exact aw (k+1) ⟨Uo,hr⟩
open Go.Wx Cd Tm Lv
theorem br_at:Br2 rAt atP (λx=>I64 x.var/\I64 x.add):=⟨λ_=>rfl,λx d C e i h=>by
 match e,i with
 |[a,b],_=>exact⟨by rw[gC (h 0 _ a rfl rfl),gC (h 1 _ b rfl rfl)],d⟩,λ_ _ _ h=>h.2⟩
theorem Fr':mQ rAt atP:=λC a x ⟨e,_⟩=>e▸bQ (.int _ _) (bQ (.int _ _) ir)
theorem wo{x:Tr}(e:Ok .tm x)(d:(row x).length<=4096)(h2:x.n.op=2):VC prog 189 [ah (row x)] (cF (cd x)):=by
 have hr:=jF e;have a:kidsT x=[]:=by unfold kidsT;cases x;exact KX h2
 have i:atmsT x=x.ks.map (·.n):=by unfold atmsT;rw[KX h2]
 rw[a,i]at hr;simp only[cC,JD]at hr;have b:=KG List.length hr;simp only[JV,KF]at b;have r:=au ndP (row x);have o:(((row x).map ndP).take (row x).length).drop 1=(x.ks.map (·.n)).map ndP:=by
  rw[JG Uo,hr]
  rfl
 have s:=au ndP (x.ks.map (·.n));have t:=au (λk:Tr=>k.n) x.ks;refine vf 23 [.tmp 2] τok func189 ?_;refine bH 1 (row x).length ?_ (λy q=>by
  obtain⟨_,_,rfl⟩:=List.mem_map.1 q
  rfl)
 rw[o];refine dm 3 1000 220 2 rfl rfl<|aB τok (σ:=Nat) [(7,_),(8,_)] [] (λj=>[(3,.c (.row 1000)),(9,vI j)]) (λj=>[(1000,.rw 220 2 (((cd x).take j).map atP))]) (λj=>j<=x.ks.length) (λj=>x.ks.length-j) 0 (KV _) ?_;intro j u;refine aj<|af (λg=>?_) (λg=>?_)
 ·have g:(j:Int)<(((x.ks.map (·.n)).map ndP).length:Int):=g
  obtain⟨k,a,_⟩:=ay (l:=x.ks) (k:=j);refine aI j (x:=k.n) (by rw[JX,a];rfl) ?_;refine be ?_ (hb:=Uk);refine vi ?_;exact aw (j+1) (by show j+1<=_;omega) (sw 1000 20) (y':=⟨KG (λl=>some (SE.rw _ _ l)) (by
   rw[QQ,KB];unfold cd;rw[JX,a]
   rfl),trivial⟩)
 ·have g:¬ (j:Int)<(((x.ks.map (·.n)).map ndP).length:Int):=g
  rw[JG (by simp[cd];omega)];exact aE
theorem Gl{x y:Operand}{p q:Nd}{k:PV ->Prop}(d:k (.bool (decide (p=q)))):oH prog .eql 46 x y (.c (.p (.agg (ndP p)))) (.c (.p (.agg (ndP q)))) k:=by
 refine⟨_,λC ρ va o w e i=>?_,d⟩;have rd:∀{p:Nd} {v:Value},RA C ρ (.c (.p (.agg (ndP p)))) v ->v=ip p:=λ{p v} h=>by
  have h:RV C (.agg (ndP p)) v:=h;cases h with
  |agg r j l hh=>
   match j,l with
   |[a,b,c],_=>rw[gC (hh 0 _ a rfl rfl),gC (hh 1 _ b rfl rfl),gC (hh 2 _ c rfl rfl)]
 obtain rfl:=rd e;obtain rfl:=rd i;exact⟨_,.bool _,Fa _ _ p q w⟩
section
variable{Q:Nd ->Prop}{N:Int}{x y:Tr}
theorem Nz{a b:List Nd}(ha:a.length<=4096)(hb:b.length<=4096):VC prog 135 [ah a,ah b] (.bool (decide (a=b))):=by
 have t:=au ndP a;have u:=au ndP b;have r:a≠b ->PV.bool false= .bool (decide (a=b)):=λh=>by rw[KH h]
 refine vf 26 [.tmp 4] τok func135 ?_;refine af (λg=>?_) (λg=>?_)
 ·exact⟨_,_,rfl,rfl,r λh=>by subst h;omega⟩
 refine vl τok (σ:=Nat) [(0,_),(1,_),(12,_)] (λi=>[(13,vI i)]) (λi=>i<=a.length/\a.take i=b.take i) (λi=>a.length-i) 0 ⟨KV _,Ud⟩ ?_;rintro i ⟨v,j⟩;refine af (λg=>?_) (λg=>?_)
 ·obtain⟨p,o,w⟩:=ay (l:=a) (k:=i)
  obtain⟨q,d,s⟩:=ay (l:=b) (k:=i);refine vm i o ?_;refine vm i d ?_;refine sI ?_
  by_cases h:p=q
  ·rw[KU h]
   refine vk ?_;refine vi ?_;exact aw (i+1) ⟨Uo,by rw[QQ,QQ,j,o,d,h]⟩
  ·rw[KH h]
   exact vk ⟨_,_,rfl,rfl,r λe=>h (by subst e;rw[o]at d;exact JB d)⟩
 ·exact aE (h3:=by
   rw[JG Uo,JG Uo]at j;rw[KU j]
   rfl)
theorem NA(a:Ft Q N x)(b:Ft Q N y):VC prog 135 [ah (row x),ah (row y)] (.bool (decide (row x=row y))):=Nz a.len b.len
theorem A2{a b:List Int}(ha:∀x∈a,I64 x)(hb:∀x∈b,I64 x)(h1:a.length<=1000)(h2:b.length<=1000):VC prog 290 [.sl (a.map iP),.sl (b.map iP)] (.bool (decide (a=b))):=by
 have s:=au iP a;have t:=au iP b;have o:a≠b ->PV.bool false= .bool (decide (a=b)):=λh=>by rw[KH h]
 refine vf 26 [.tmp 4] τok func290 ?_;refine af (λg=>?_) (λg=>?_)
 ·exact⟨_,_,rfl,rfl,o λh=>by subst h;omega⟩
 refine vl τok (σ:=Nat) [(0,_),(1,_),(12,_)] (λi=>[(13,vI i)]) (λi=>i<=a.length/\a.take i=b.take i) (λi=>a.length-i) 0 ⟨KV _,Ud⟩ ?_;rintro i ⟨h1,h2⟩;refine af (λg=>?_) (λg=>?_)
 ·obtain⟨p,j,u⟩:=ay (l:=a) (k:=i)
  obtain⟨q,d,r⟩:=ay (l:=b) (k:=i);refine vm i j ?_;refine vm i d ?_;refine af (λh=>?_) (λh=>?_)
  ·exact vk ⟨_,_,rfl,rfl,o λe=>h (by subst e;rw[j]at d;exact JB d)⟩
  ·have h:¬ p≠q:=h
   refine vk ?_;refine vi ?_;exact aw (i+1) ⟨Uo,by rw[QQ,QQ,h2,j,d,Decidable.not_not.1 h]⟩
 ·exact aE (h3:=by
   rw[JG Uo,JG Uo]at h2;rw[KU h2]
   rfl)
theorem Gm(a:Ft Q N x)(d:x.n.op=12):VC prog 291 [ah (row x)] (.sl ((placesM x).map iP)):=by
 have w:=aC a;have F:=dF a.ok d;have t:=a.len;obtain⟨b,z⟩:∃b:Nat,x.n.b=(b:Int):=⟨x.n.b.toNat,Uo⟩
 have hpl:(placesM x).length=b:=by simp[placesM];omega
 refine cR 27 [.tmp 2] τok func291 ?_;refine aj<|aI 0 (aM w) ?_;refine dm 3 1000 3 1 rfl rfl<|aB τok (σ:=Nat) [(0,_),(8,_)] [] (λi=>[(3,.c (.row 1000)),(4,vI ((1+(rows (x.ks.take i)).length:Nat):Int)),(9,vI i)]) (λi=>[(1000,.rw 3 1 (((placesM x).take i).map iP))]) (λi=>i<=b) (λi=>b-i) 0 (KV _) ?_ (x1:=⟨rfl,KG (λn:Int=>some (vI n)) (by simp[rows]),rfl,trivial⟩);intro i H;have I:((placesM x).take i).length=i:=by rw[VJ];omega
 refine aj<|af (λe=>?_) (λe=>?_)
 ·have e:(i:Int)<x.n.b:=e
  obtain⟨f,hf,_⟩:=ay (l:=x.ks) (k:=i);obtain⟨u,v,j,C,_,o,q,_,r,r1,r2⟩:=lG a.ok d hf;have D:(placesM x).take (i+1)=(placesM x).take i++[f.n.a]:=du (by unfold placesM;rw[JX,hf];rfl);have s:=KG List.length r1;simp only[JK,JV]at s;have E:(rows (x.ks.take (i+1))).length=(rows (x.ks.take i)).length+(1+((row u).length+(row v).length)):=by
   rw[du hf,bT',JK];rw[j];simp[rows,row];omega
  refine aI (1+(rows (x.ks.take i)).length) r ?_;refine be ?_ (hb:=Uk);refine vi ?_;refine ae (endP a (y:=u) r1 o Uk) ?_;refine ae (endP a (y:=v) r2 q Uk) ?_;refine vi ?_;exact aw (i+1) (by show i+1<=b;omega) (sw 1000 18) (x:=⟨rfl,KG (λn:Int=>some (vI n)) (by rw[E];simp;omega),rfl,trivial⟩) (y':=⟨KG (λl=>some (SE.rw _ _ l)) (by rw[D,KB];rfl),trivial⟩)
 ·have e:¬ (i:Int)<x.n.b:=e
  rw[show (placesM x).take i=placesM x from JG Uo];exact aE
theorem Gn(a:Ok .tm x)(h2:x.n.op=2):(cd x).length<=1000000:=by
 obtain⟨_,b,_,d⟩:=Fb a h2;unfold cd;rw[KF];omega
theorem Gp{B:ak}(hI:BoI B)(a:Ft Q N x)(b:Ft Q N y)(h1:x.n.op=2)(h2:y.n.op=2):VC prog 287 [.int .i64 B.vars,.sl (B.orders.map eJ),cF (cd x),cF (cd y)] (.bool (jX B.vars B.orders (cd x) (cd y))):=Ny _ _ _ _ (Gn a.ok h1) (Gn b.ok h2)
end
section
variable{B:ak}(hI:BoI B)(hB:GoodB B)
include hI hB
variable{cx:Ctx}(hcx:CxOk B cx)(hcl:cx.length<=260)
include hcx hcl
theorem A3{x:Tr}(a:Ft (QB B) (cx.length:Int) x)(n:Int):VC prog 70 [bw B,aH (cx.map aA),ah (row x),pI n] (match dT B cx x n with
  | .ok q=>.tup [ah (row q.1),pI q.2,pI 0]
  | .error e=>.tup [.sl [],pI 0,pI e]):=Nt hB hcx (by omega) a n
end
def gM(B:ak)(c:PV)(n er:PV):List PV:=[.int .i64 B.vars,.sl (B.orders.map eJ),.sl (B.ents.map cj),.int .i64 B.nat,.sl (B.prims.map iO),c,n,er]
abbrev jp(B:ak)(cx:Ctx)(n:Int):List PV:=gM B (aH (cx.map aA)) (pI n) (pI 0)
def mc(B:ak)(cx:Ctx)(r:Except Int (Bool×Nat)):List PV×PV:=match r with
 | .ok q=>(jp B cx q.2,.bool q.1)
 | .error e=>(gM B (aH (cx.map aA)) .unk (pI e),.bool false)
def nl(B:ak)(cx:Ctx)(x y:Tr)(u:Bool)(n:Nat)(r:Except Int (Bool×Nat)):Prop:=VP prog 254 317 (jp B cx n) (mc B cx r).1 [ah (row x),ah (row y),.bool u] (mc B cx r).2
def wq(B:ak)(g:Nat)(rc:RcC):Prop:=∀(cx:Ctx) (x y:Tr) (u:Bool) (n:Nat),CxOk B cx ->cx.length<=260 ->Ft (QB B) (cx.length:Int) x ->Ft (QB B) (cx.length:Int) y ->n<=g ->n<=100000 ->nl B cx x y u n (rc cx x y u n)
section
variable{B:ak}{cx:Ctx}{n:Nat}
theorem Gq(hI:BoI B)(hB:GoodB B)(hcx:CxOk B cx)(hcl:cx.length<=260){x:Tr}(d:Ft (QB B) (cx.length:Int) x):(∀e,dT B cx x (n:Int)= .error e ->VP prog 269 317 (jp B cx n) (gM B (aH (cx.map aA)) (pI 0) (pI e)) [ah (row x)] (.tup [.sl [],.bool false]))/\∀q,dT B cx x (n:Int)= .ok q ->VP prog 269 317 (jp B cx n) (jp B cx q.2) [ah (row x)] (.tup [ah (row q.1),.bool true]):=by
 have a:=A3 hI hB hcx hcl d (n:Int);refine⟨λe b=>?_,λq i=>?_⟩
 ·rw[b]at a
  have j:e≠0:=by rcases whnf_er _ _ _ _ _ b with rfl|rfl<;>decide
  refine aQ (r:=.ok (_,_)) 38 [.tmp 4,.tmp 5] τok func269 ?_;refine aj<|ae a ?_;refine vk ?_;exact vF j<|eP9
 ·rw[i]at a
  refine aQ (r:=.ok (_,_)) 38 [.tmp 4,.tmp 5] τok func269 ?_;refine aj<|ae a ?_;refine vk ?_;exact vz<|eP9
theorem NB(hI:BoI B){f g:Tr}{N:Int}(hf:Ft (QB B) N f)(e:Ft (QB B) N g)(f2:f.n.op=2)(j:g.n.op=2)(u:Bool){c fu:PV}:VP prog 282 317 (gM B c fu (pI 0)) (gM B c fu (pI 0)) [ah (row f),ah (row g),.bool u] (.bool (iy B f g u)):=by
 have i:=Gp hI hf e f2 j;have l:=Gp hI e hf j f2;generalize b:iy B f g u=d;unfold iy at b;refine aQ (r:=.ok (_,_)) 57 [.tmp 8] τok func282 ?_;refine aj<|ae (wo hf.ok hf.len f2) ?_;refine ae (wo e.ok e.len j) ?_;refine aI 0 (aM (aC hf)) ?_;refine aI 0 (aM (aC e)) ?_;refine af (λa=>?_) (λa=>?_)
 ·rw[KU (p:=f.n.a=g.n.a) a,Bool.true_and]at b
  cases k:jX B.vars B.orders (cd f) (cd g)with
  |false=>
   rw[k]at i b;obtain rfl:false=d:=b;refine ae i ?_;exact kP9
  |true=>
   rw[k]at i;rw[k,Bool.true_and]at b;refine ae i ?_;cases u with
   |true=>
    obtain rfl:true=d:=b;exact kP9
   |false=>
    rw[Bool.false_or]at b;rw[b]at l;refine ae l ?_;exact kP9
 ·rw[KH (p:=f.n.a=g.n.a) a]at b
  obtain rfl:false=d:=b;exact kP9
variable{g:Nat}{rc:RcC}
theorem Gs(hrc:wq B g rc)(hle:oa rc)(hcx:CxOk B cx)(hcl:cx.length<=260)(hn:n<=g)(hn1:n<=100000){xs ys:List Tr}(t:∀x∈xs,Ft (QB B) (cx.length:Int) x)(u:∀x∈ys,Ft (QB B) (cx.length:Int) x)(hl:xs.length=ys.length)(F:xs.length<=100000):VP prog 271 317 (jp B cx n) (mc B cx (df rc cx xs ys n)).1 [bD (xs.map row),bD (ys.map row)] (mc B cx (df rc cx xs ys n)).2:=by
 generalize j:df rc cx xs ys n=d;have L:=au rP (xs.map row);have M:=au row xs;refine aQ (r:=.ok (_,_)) 25 [.tmp 6] τok func271 ?_;refine aj<|aB τok (σ:=Nat×Nat) [(0,_),(1,_),(2,_),(9,_)] [] (λq=>[(10,vI q.1)]) (λq=>[(0,.st 1 317 ((jp B cx q.2).map .p))]) (λq=>q.1<=xs.length/\q.2<=n/\df rc cx (xs.drop q.1) (ys.drop q.1) q.2=d) (λq=>xs.length-q.1) (0,n) ⟨KV _,KJ _,j⟩ ?_
 clear j
 rintro⟨i,m⟩ ⟨H,I,a⟩;simp only at H I a
 dsimp only
 refine aj<|af (λs=>?_) (λs=>?_)
 ·have s:(i:Int)<(((xs.map row).map rP).length:Int):=s
  obtain⟨x,D,v⟩:=ay (l:=xs) (k:=i);obtain⟨y,E,w⟩:=ay (l:=ys) (k:=i);rw[v,w]at a;simp only[df]at a;have o:=hrc cx x y false m hcx hcl (t x (JQ D)) (u y (JQ E)) Uo Uo;unfold nl at o;refine az i (x:=row x) (by rw[JX,D];rfl) ?_;refine az i (x:=row y) (by rw[JX,E];rfl) ?_;cases z:rc cx x y false m with
  |error e=>
   rw[z]at o a;obtain rfl:.error e=d:=a;refine ax o ?_;exact kP9
  |ok q=>
   obtain⟨b,C⟩:=q;have:=hle _ _ _ _ _ _ z;simp only at this;rw[z]at o a;cases b with
   |false=>
    obtain rfl:.ok (false,C)=d:=a;refine ax o ?_;exact kP9
   |true=>
    have a:df rc cx (xs.drop (i+1)) (ys.drop (i+1)) C=d:=a;refine ax o ?_;refine vk ?_;refine vi ?_;exact aw (i+1,C) ⟨Us,Us,a⟩
 ·have s:¬ (i:Int)<(((xs.map row).map rP).length:Int):=s
  rw[JY Uo]at a;obtain rfl:.ok (true,m)=d:=a;exact eP9
end
theorem A5{f:FuncId}(r:dL prog f)(h:∀w a n c,n<=c ->(n=0 \/∃b o,a=some ⟨b,o,none⟩) ->Calls prog f #[.slice a n c] w λe w'=>(∃d,e= .returned (.slice d n n)/\(n=0 \/d=a))/\Kp [] w w')(l:List (List PV)):VG prog f [.c (.p (.sl l))] [] (.ok (.c (.cl l),[])):=⟨r,λw X C ρ D E q=>by
 match D,E with
 |[v],_=>
 obtain⟨F,H,hr⟩:=q.slot 0 _ rfl λk I=>by cases I
 obtain rfl:v=F:=JB H;have hr:RV C (.sl l) v:=hr;obtain⟨a,c,rfl,hle,s,u⟩:∃a c,v= .slice a l.length c/\l.length<=c/\(l.length=0 \/∃b o,a=some ⟨b,o,none⟩)/\∀d,(l.length=0 \/d=a) ->RV C (.sl l) (.slice d l.length l.length):=by
  cases hr with
  |nil a c=>exact⟨a,c,rfl,KV _,.inl rfl,λd _=>.nil d 0⟩
  |sl _ L b o c f M O S U=>exact⟨_,c,rfl,O,.inr ⟨b,o,rfl⟩,λd z=>z.elim (λs=>by obtain rfl:=List.length_eq_zero_iff.1 s;exact .nil d 0) λe=>e▸ .sl l L b o l.length f M (KJ _) S U⟩
 refine(h w a l.length c hle s).mono λe w' ⟨⟨d,V,z⟩,k⟩=>⟨_,C,ρ,V,λt b W _=>?_,λk x i=>(by cases i),λj k x y g _ i=>(by cases i),λk x g b o v i=>(by cases i),q.sub.tr k,q.c0,q.cn,k.weak Ud⟩
 obtain⟨rfl,rfl⟩:=bJ W;exact⟨_,rfl,u d z,d,rfl⟩⟩
theorem NC(l:List (List PV)):VG prog 289 [.c (.p (.sl l))] [] (.ok (.c (.cl l),[])):=A5 ⟨_,func289,rfl,UO⟩ (λw a n c d e=>by
 refine cO (args:=[_]) 9 [.tmp 2] τok func289 ?_;refine zw τok rfl n n rfl rfl (KJ _) d ?_;rcases e with rfl|⟨b,o,rfl⟩
 ·exact⟨⟨_,rfl,.inl rfl⟩,Kp.refl _ _⟩
 ·rw[oG]
  exact⟨⟨_,rfl,.inr rfl⟩,Kp.refl _ _⟩) l
theorem ND(l:List (List PV)):VG prog 225 [.c (.p (.sl l))] [] (.ok (.c (.cl l),[])):=A5 ⟨_,func225,rfl,UO⟩ (λw a n c d e=>by
 refine cO (args:=[_]) 9 [.tmp 2] τok func225 ?_;refine zw τok rfl n n rfl rfl (KJ _) d ?_;rcases e with rfl|⟨b,o,rfl⟩
 ·exact⟨⟨_,rfl,.inl rfl⟩,Kp.refl _ _⟩
 ·rw[oG]
  exact⟨⟨_,rfl,.inr rfl⟩,Kp.refl _ _⟩) l
theorem ws(l:List (List Nd×List Nd)):∀x∈l.map bdP,x.length=2/\∀q∈x,q.one=true:=λx b=>by
 obtain⟨y,_,rfl⟩:=List.mem_map.1 b;exact⟨rfl,λq a=>by
  simp only[bdP,JJ,JZ,or_false]at a;rcases a with rfl|rfl<;>rfl⟩
theorem Gt(l:List (List Nd×List Nd)):∀x∈l,(bdP x).length=2/\∀q∈bdP x,q.one=true:=λx a=>ws l _ (QD a)
def sY(c:PV)(cs:List PV):List (Nat×SE):=[(0,.st 1 27 [.p c]),(1,.st 2 315 [.ptr 2 0]),(2,.st 3 317 (cs.map .p))]
theorem NE{B:ak}{c:List (List PV)}{k fu er:PV}:VD prog 288 .returning [0,1] (sY (.sl c) (gM B k fu er)) (sY (.sl c) (gM B (.sl c) fu er)):=by
 refine⟨⟨_,func288,rfl,UO⟩,λw X C ρ q=>?_⟩;refine callsD_of_wpS func288 rfl λl r s=>?_;have h:VCode prog 6 (Tryz.f288.body.getD .skip) ⟨iT' (jw [0,1]) 0,sY (.sl c) (gM B k fu er)⟩ λe A=>e= .normal/\kD id A (sY (.sl c) (gM B (.sl c) fu er)):=by
  exact aj<|⟨rfl,rfl,rfl,rfl,trivial⟩
 have o:=h.run _ _ _ _ _ ⟨C,ρ,q⟩;unfold EvCode at o;refine wpS_of_wp (Go.wp_mono (o _ (lB Ud rfl (by simp[ini]))) ?_);rintro e E F ⟨H,d,u,I,⟨rfl,v⟩,i⟩;obtain⟨z,j,b⟩:=i.le (ik (f:=id) (B:=⟨[],sY (.sl c) (gM B (.sl c) fu er)⟩) VQ v rfl);exact pX d u rfl s ⟨⟨_,rfl⟩,rfl,z,j,λt a D=>(by cases D),b.ent,b.sep,b.off,b.sub,b.c0,b.cn,b.kp⟩
section
variable{B:ak}{cx mo:Ctx}{n:Nat}
theorem Gu(hcx:CxOk B cx)(i:CxOk B (cx++mo))(hcl:(cx++mo).length<=260)(a:0<mo.length){s t:List Nd}{fu er:PV}{u b:Bool}(d:VP prog 254 317 (jp B (cx++mo) n) (gM B (aH ((cx++mo).map aA)) fu er) [ah s,ah t,.bool u] (.bool b)):
  VP prog 283 317 (jp B cx n) (gM B (aH (cx.map aA)) fu er) [aH (mo.map aA),ah s,ah t,.bool u] (.bool b):=by
 have e:aH ((cx++mo).map aA)= .sl ((cx.map aA).map bdP++(mo.map aA).map bdP):=by rw[KB];exact KG PV.sl (KB ..)
 unfold jp at d;rw[e]at d;have el:(cx++mo).length=cx.length+mo.length:=JK;refine Lb 29 [.tmp 10] τok func283 ?_;refine aj ?_;refine aj ?_;refine⟨⟨rfl,rfl,rfl⟩,rfl,λj=>?_⟩;refine aD ?_;refine aR id (λ_=>0) (NC _) ?_;refine⟨⟨by simpa using a,ws _⟩,va ?_ (Gt _) (hb:=by simp;omega)⟩;refine vk ?_;refine uC 0 5 21 ?_;refine aj ?_;refine ax d ?_;refine iu (λk=>sw 2 0 (sw 1 5 (sw 0 11 k))) (λk=>1-k) NE ?_;exact db
end
theorem Gv(l:List Tr)(i:Nat)(h:i+1<l.length):l.drop i=l.getD i (varX 0)::l.getD (i+1) (varX 0)::l.drop (i+2):=by
 rw[List.drop_eq_getElem_cons Uo,List.drop_eq_getElem_cons Uo];simp only[QK,List.getElem?_eq_getElem (show i<l.length by omega),List.getElem?_eq_getElem h,Option.getD_some]
section
variable{B:ak}{cx mo:Ctx}{n g:Nat}{rc:RcC}
theorem A6(hcx:CxOk B cx)(a:CxOk B (cx++mo))(hcl:(cx++mo).length<=260)(b:0<mo.length){x y:Tr}{u:Bool}{r:Except Int (Bool×Nat)}(h:nl B (cx++mo) x y u n r):VP prog 283 317 (jp B cx n) (mc B cx r).1 [aH (mo.map aA),ah (row x),ah (row y),.bool u] (mc B cx r).2:=by
 cases r with
 |ok q=>exact Gu hcx a hcl b h
 |error e=>exact Gu hcx a hcl b h
theorem Gw{Q:Nd ->Prop}{N:Int}{x:Tr}(b:Ft Q N x)(a:x.n.op=12):(∀v∈placesM x,I64 v)/\(placesM x).length<=1000:=by
 have k:=dF b.ok a;refine⟨λv d=>?_,by unfold placesM;rw[KF];omega⟩;obtain⟨f,hf,rfl⟩:=List.mem_map.1 d;obtain⟨i,e⟩:=JH hf;obtain⟨_,_,_,_,j,_⟩:=lG b.ok a e;exact(ED j).2.1
variable(hrc:wq B g rc)(hle:oa rc)(hcx:CxOk B cx)(hcl:cx.length<=256)(hn:n<=g)(hn1:n<=100000){f h:Tr}(hf:Ft (QB B) (cx.length:Int) f)(hh:Ft (QB B) (cx.length:Int) h)
include hrc hle hcx hcl hn hn1 hf hh
theorem NF(f12:f.n.op=12)(s:f.n=h.n):VP prog 284 317 (jp B cx n) (mc B cx (mV rc cx f h n)).1 [ah (row f),ah (row h),bD ((kidsT f).map row),bD ((kidsT h).map row)] (mc B cx (mV rc cx f h n)).2:=by
 have t:h.n.op=12:=by rw[<- s];exact f12
 have wf:=aC hf;have M:=aC hh;have hl:=dF hf.ok f12;have S:=fS hf.ok f12;have H:=fS hh.ok t;rw[<- s]at H;obtain⟨v,U⟩:∃v:Nat,f.n.b=(v:Int):=⟨f.n.b.toNat,Uo⟩
 obtain⟨V,W⟩:=Gw hf f12;obtain⟨X,Y⟩:=Gw hh t;have Z:=o7 f;have z:=od hcx Uo hf f12;have u:(cx++aY f).length=cx.length+v:=by rw[JK];omega
 have eK:=au rP ((kidsT f).map row);have a0:=au row (kidsT f);generalize d:mV rc cx f h n=k;unfold mV at d;have D:=A2 V X W Y;refine aQ (r:=.ok (_,_)) 76 [.tmp 10] τok func284 ?_;refine aj<|ae (Gm hf f12) ?_;refine ae (Gm hh t) ?_
 by_cases E:placesM f=placesM h
 rotate_left
 ·rw[KY E]at d
  rw[KH E]at D;obtain rfl:.ok (false,n)=k:=d;refine ae D ?_;exact eP9
 rw[KX E]at d;rw[KU E]at D;refine ae D ?_;refine dm 11 1000 87 2 rfl rfl<|aB τok (σ:=Nat) [(0,_),(3,_),(4,_)] [(0,_)] (λi=>[(11,.c (.row 1000)),(12,vI ((2*i:Nat):Int))]) (λi=>[(1000,.rw 87 2 ((((aY f).take i).map aA).map bdP))]) (λi=>i<=v) (λi=>v-i) 0 (KV _) ?_;rintro i hi;have l1:((aY f).take i).length=i:=by rw[VJ];omega
 refine aj<|af (λo=>?_) (λo=>?_)
 ·have o:((2*i:Nat):Int)<((((kidsT f).map row).map rP).length:Int):=o
  obtain⟨_,_,f0,_⟩:=gZ hf f12 (i:=i) Uo;have tt:(aY f).take (i+1)=(aY f).take i++[(aK (kidD f (2*i)) i 0,none)]:=du (Ad Uo);have hL:VC prog 85 [ah (row (kidD f (2*i))),pI (((2*i:Nat):Int)/2),pI 0] (.tup [ah (row (aK (kidD f (2*i)) i 0)),pI 0]):=by
   rw[show ((2*i:Nat):Int)/2=(i:Int) by omega];exact lK f0 Uo Uo
  refine az (2*i) (aG wf) ?_;refine pD Uo Uo Uo<|ae hL ?_;refine be ?_ (hb:=Uk);refine vi ?_;exact aw (i+1) (by show i+1<=v;omega) (sw 1000 42) (x:=⟨rfl,KG (λn:Int=>some (vI n)) Uo,trivial⟩) (y':=⟨KG (λl=>some (SE.rw _ _ l)) (by rw[tt,KB,KB];rfl),trivial⟩)
 have o:¬ ((2*i:Nat):Int)<((((kidsT f).map row).map rP).length:Int):=o;obtain rfl:i=v:=Uo
 rw[JG Uo];refine mI 11 1000 ?_;refine aB τok (σ:=Nat×Nat) [(0,_),(3,_),(4,_),(11,_)] [] (λq=>[(15,vI ((2*q.1:Nat):Int))]) (λq=>[(0,.st 1 317 ((jp B cx q.2).map .p))]) (λq=>q.1<=i/\q.2<=n/\ee rc cx (cx++aY f) ((kidsT f).drop (2*q.1)) ((kidsT h).drop (2*q.1)) q.2=k) (λq=>i-q.1) (0,n) ⟨KV _,KJ _,d⟩ ?_
 clear d o
 rintro⟨j,m⟩ ⟨hj,hm,a⟩;simp only at hj hm a
 dsimp only
 refine aj<|af (λo=>?_) (λo=>?_)
 ·have o:((2*j:Nat):Int)<((((kidsT f).map row).map rP).length:Int):=o
  obtain⟨_,_,f0,f1⟩:=gZ hf f12 (i:=j) Uo;obtain⟨_,_,h0,h1⟩:=gZ hh t (i:=j) (by rw[<- s];omega);have d1:(kidsT f).drop (2*j)=kidD f (2*j)::kidD f (2*j+1)::(kidsT f).drop (2*(j+1)):=Gv (kidsT f) (2*j) Uo;have d2:(kidsT h).drop (2*j)=kidD h (2*j)::kidD h (2*j+1)::(kidsT h).drop (2*(j+1)):=Gv (kidsT h) (2*j) Uo;rw[d1,d2]at a;simp only[ee]at a;have w:=hrc cx (kidD f (2*j)) (kidD h (2*j)) false m hcx Uo f0 h0 Uo Uo;unfold nl at w;refine az (2*j) (aG wf) ?_;refine az (2*j) (aG M) ?_;cases I:rc cx (kidD f (2*j)) (kidD h (2*j)) false m with
  |error e=>
   rw[I]at w a;obtain rfl:.error e=k:=a;refine ax w ?_;exact kP9
  |ok q=>
  obtain⟨b,F⟩:=q;have:=hle _ _ _ _ _ _ I;simp only at this;rw[I]at w a;cases b with
  |false=>
   obtain rfl:.ok (false,F)=k:=a;refine ax w ?_;exact kP9
  |true=>
  have a:gH (rc (cx++aY f) (kidD f (2*j+1)) (kidD h (2*j+1)) false F) (ee rc cx (cx++aY f) ((kidsT f).drop (2*(j+1))) ((kidsT h).drop (2*(j+1))))=k:=a;have C:=A6 hcx z Uo Uo (hrc _ (kidD f (2*j+1)) (kidD h (2*j+1)) false F z Uo (by rw[u];exact f1.mono Uo) (by rw[u];exact h1.mono (by rw[<- s];omega)) Uo Uo);refine ax w ?_;refine vi ?_;refine az (2*j+1) (aG wf) ?_;refine vi ?_;refine az (2*j+1) (aG M) ?_;cases L:rc (cx++aY f) (kidD f (2*j+1)) (kidD h (2*j+1)) false F with
  |error e=>
   rw[L]at C a;obtain rfl:.error e=k:=a;refine ax C ?_;exact kP9
  |ok q=>
  obtain⟨b,O⟩:=q;have:=hle _ _ _ _ _ _ L;simp only at this;rw[L]at C a;cases b with
  |false=>
   obtain rfl:.ok (false,O)=k:=a;refine ax C ?_;exact kP9
  |true=>
  refine ax C ?_;refine vk ?_;refine vi ?_;exact aw (j+1,O) ⟨Us,Us,a⟩ (x:=⟨KG (λn:Int=>some (vI n)) Us,trivial⟩)
 ·have o:¬ ((2*j:Nat):Int)<((((kidsT f).map row).map rP).length:Int):=o
  rw[JY Uo]at a;obtain rfl:.ok (true,m)=k:=a;exact eP9
end
section
variable{B:ak}{cx:Ctx}{n g:Nat}{rc:RcC}
section
variable(hI:BoI B)(hrc:wq B g rc)(hle:oa rc)(hcx:CxOk B cx)(hcl:cx.length<=256)(hn:n<=g)(hn1:n<=100000){f h:Tr}(hf:Ft (QB B) (cx.length:Int) f)(hh:Ft (QB B) (cx.length:Int) h)
include hI hrc hle hcx hcl hn hn1 hf hh
theorem NG(k:f.n.op=h.n.op)(I:f.n.op≠7)(u:Bool):VP prog 270 317 (jp B cx n) (mc B cx (ji B rc cx f h u n)).1 [ah (row f),ah (row h),.bool u] (mc B cx (ji B rc cx f h u n)).2:=by
 have wf:=aC hf;have z:=aC hh;have M:=iq hf.ok;generalize a:ji B rc cx f h u n=d;unfold ji at a;refine aQ (r:=.ok (_,_)) 107 [.tmp 8] τok func270 ?_;refine aj<|ae (iS hf) ?_;refine ae (iS hh) ?_;refine aI 0 (aM wf) ?_;refine af (λl=>?_) (λl=>?_)
 ·have l:f.n.op=2:=l
  rw[KX l]at a;subst a;refine ax (NB hI hf hh l (by rw[<- k];exact l) u) ?_;exact eP9
 have l:¬ f.n.op=2:=l;rw[KY l]at a;have L:f.n.op=4 \/f.n.op=5 ->(kidsT f).length=2/\(kidsT h).length=2/\nl B cx (kidD f 0) (kidD h 0) false n (rc cx (kidD f 0) (kidD h 0) false n)/\CxOk B (cx++[(kidD f 0,none)])/\Ft (QB B) ((cx.length+1:Nat):Int) (kidD f 1)/\Ft (QB B) ((cx.length+1:Nat):Int) (kidD h 1):=λg=>by
  obtain⟨E,f0,f1⟩:=dG hf g;obtain⟨F,i,v⟩:=dG hh (by rw[<- k];exact g);exact⟨E,F,hrc _ _ _ _ _ hcx Uo f0 i hn hn1,hcx.snoc f0 λx O=>(by cases O),f1.mono Uo,v.mono Uo⟩
 refine af (λs=>?_) (λs=>?_)
 ·have s:f.n.op=4:=s
  rw[KX s]at a;obtain⟨E,F,i,o,f1,H⟩:=L (.inl s);unfold nl at i;refine az 0 (aG wf) ?_;refine az 0 (aG z) ?_;cases w:rc cx (kidD f 0) (kidD h 0) false n with
  |error e=>
   rw[w]at i a;obtain rfl:.error e=d:=a;refine ax i ?_;exact kP9
  |ok q=>
  obtain⟨b,m⟩:=q;have:=hle _ _ _ _ _ _ w;simp only at this;rw[w]at i a;cases b with
  |false=>
   obtain rfl:.ok (false,m)=d:=a;refine ax i ?_;exact kP9
  |true=>
   have a:rc (cx++[(kidD f 0,none)]) (kidD f 1) (kidD h 1) u m=d:=a;have v:=A6 hcx (mo:=[(kidD f 0,none)]) o (by rw[bI];omega) Nat.one_pos (hrc _ _ _ u m o (by rw[bI];omega) (by rw[bI];exact f1) (by rw[bI];exact H) Uo Uo);rw[a]at v;refine ax i ?_;refine az 0 (aG wf) ?_;refine az 1 (aG wf) ?_;refine az 1 (aG z) ?_;have hr:=v;cases d with
   |error e=>
    refine ax hr ?_;exact kP9
   |ok q=>
    refine ax hr ?_;exact kP9
 have s:¬ f.n.op=4:=s;rw[KY s]at a;refine af (λt=>?_) (λt=>?_)
 ·have t:f.n.op=5:=t
  rw[KX t]at a;obtain⟨E,F,i,o,f1,H⟩:=L (.inr t);unfold nl at i;refine az 0 (aG wf) ?_;refine az 0 (aG z) ?_;cases w:rc cx (kidD f 0) (kidD h 0) false n with
  |error e=>
   rw[w]at i a;obtain rfl:.error e=d:=a;refine ax i ?_;exact kP9
  |ok q=>
  obtain⟨b,m⟩:=q;have:=hle _ _ _ _ _ _ w;simp only at this;rw[w]at i a;cases b with
  |false=>
   obtain rfl:.ok (false,m)=d:=a;refine ax i ?_;exact kP9
  |true=>
   have a:rc (cx++[(kidD f 0,none)]) (kidD f 1) (kidD h 1) false m=d:=a;have v:=A6 hcx (mo:=[(kidD f 0,none)]) o (by rw[bI];omega) Nat.one_pos (hrc _ _ _ false m o (by rw[bI];omega) (by rw[bI];exact f1) (by rw[bI];exact H) Uo Uo);rw[a]at v;refine ax i ?_;refine az 0 (aG wf) ?_;refine az 1 (aG wf) ?_;refine az 1 (aG z) ?_;have hr:=v;cases d with
   |error e=>
    refine ax hr ?_;exact kP9
   |ok q=>
    refine ax hr ?_;exact kP9
 have t:¬ f.n.op=5:=t;rw[KY t]at a;refine af (λj=>?_) (λj=>?_)
 ·have j:f.n.op=12:=j
  rw[KX j]at a;refine aI 0 (aM wf) ?_;refine aI 0 (aM z) ?_;refine Gl ?_
  by_cases hn:f.n=h.n
  rotate_left
  ·rw[KY hn]at a
   obtain rfl:.ok (false,n)=d:=a;rw[KH hn];exact kP9
  rw[KX hn]at a;rw[KU hn];have hr:=NF hrc hle hcx hcl ‹n<=g› hn1 hf hh j hn;rw[a]at hr;cases d with
  |error e=>
   refine ax hr ?_;exact kP9
  |ok q=>
   refine ax hr ?_;exact kP9
 have j:¬ f.n.op=12:=j;rw[KY j]at a;refine aI 0 (aM wf) ?_;refine aI 0 (aM z) ?_;refine Gl ?_
 by_cases hn:f.n=h.n
 rotate_left
 ·rw[KY hn]at a
  obtain rfl:.ok (false,n)=d:=a;rw[KH hn];exact kP9
 rw[KX hn]at a;rw[KU hn];have C:=mP hf.ok l j;have D:=mP hh.ok (by rw[<- k];exact l) (by rw[<- k];exact j);have hr:=Gs hrc hle hcx Uo ‹n<=g› hn1 (Ae hf ⟨s,t,I,j⟩) (Ae hh (by rw[<- k];exact⟨s,t,I,j⟩)) (by rw[C.1,D.1];have:=C.2;have:=D.2;rw[<- hn]at this;omega) Uo;rw[a]at hr;cases d with
 |error e=>
  refine ax hr ?_;exact kP9
 |ok q=>
  refine ax hr ?_;exact kP9
end
end
theorem VP.wk{P:Program}{f:FuncId}{T:Nat}{cs c1 d ps:List PV}{r:PV}(h:VP P f T cs c1 ps r)(i:∀C us,cW C c1 us ->cW C d us):VP P f T cs d ps r:=.of ⟨h.1,λw C b us j k l o q s t=>((VP.run h).2 w C b us j k l o q s t).mono λe I ⟨v,u,a,z,D,E,F,H⟩=>⟨v,u,a,z,D,E,i _ _ F,H⟩⟩
theorem ww{B:ak}{c n e:PV}{m:Int}(hn:n=pI m)(C:Mem)(us:List Value)(h:cW C (gM B c n e) us):cW C (gM B c .unk e) us:=by
 subst hn;refine⟨h.1,λi x v a b=>?_⟩
 match i,a with
 |0,a=>exact h.2 0 x v a b
 |1,a=>exact h.2 1 x v a b
 |2,a=>exact h.2 2 x v a b
 |3,a=>exact h.2 3 x v a b
 |4,a=>exact h.2 4 x v a b
 |5,a=>exact h.2 5 x v a b
 |6,a=>
  obtain rfl:=JB a;rw[gC (h.2 6 _ v rfl b)];exact .unk m
 |7,a=>exact h.2 7 x v a b
 |i+8,a=>cases a
section
variable{B:ak}{cx:Ctx}(hI:BoI B)(hB:GoodB B)
include hI hB
theorem xK':∀g,wq B g (cY B g):=by
 have zero:∀(cx:Ctx) (x y:Tr) (u:Bool),nl B cx x y u 0 (.error 10):=λcx x y u=>by
  refine VP.wk (c1:=gM B (aH (cx.map aA)) (pI ((0:Nat):Int)) (pI 10)) ?_ (ww rfl);refine aQ (r:=.ok (_,_)) 94 [.tmp 8] τok func254 ?_;refine aj<|vy (p:=((0:Nat):Int)=0) ?_ rfl;exact eP9
 intro g
 induction g with
 |zero=>
  intro cx x y u n _ _ _ _ h _;obtain rfl:n=0:=Uo
  exact zero cx x y u
 |succ g M=>
  intro cx x y u n hcx hcl E F hn hn1;cases n with
  |zero=>exact zero cx x y u
  |succ m=>
  have w:(((m+1:Nat):Int)-1)=(m:Int):=Uo
  have eC:=au bdP (cx.map aA);have W:=au aA cx;have o:=NA E F;generalize a:cY B (g+1) cx x y u (m+1)=d;simp only[cY,Nat.add_sub_cancel]at a;rw[KY Uo]at a
  by_cases D:row x=row y
  ·rw[KX D]at a
   rw[KU D]at o;subst a;refine aQ (r:=.ok (_,_)) 94 [.tmp 8] τok func254 ?_;refine aj<|vn (p:=((m+1:Nat):Int)=0) ?_;refine vi ?_;rw[w];refine ae o ?_;exact eP9
  rw[KY D]at a;rw[KH D]at o
  by_cases O:256<cx.length
  ·rw[KX O]at a
   subst a;refine VP.wk (c1:=gM B (aH (cx.map aA)) (pI m) (pI 5)) ?_ (ww rfl);refine aQ (r:=.ok (_,_)) 94 [.tmp 8] τok func254 ?_;refine aj<|vn (p:=((m+1:Nat):Int)=0) ?_;refine vi ?_;rw[w];refine ae o ?_;refine vy (p:=(256:Int)<(((cx.map aA).map bdP).length:Int)) ?_;exact eP9
  rw[KY O]at a;obtain⟨X,S⟩:=Gq (n:=m) hI hB hcx hcl E;cases i:dT B cx x (m:Int)with
  |error e=>
   rw[i]at a;obtain rfl:.error e=d:=a;refine VP.wk (c1:=gM B (aH (cx.map aA)) (pI 0) (pI e)) ?_ (ww rfl);refine aQ (r:=.ok (_,_)) 94 [.tmp 8] τok func254 ?_;refine aj<|vn (p:=((m+1:Nat):Int)=0) ?_;refine vi ?_;rw[w];refine ae o ?_;refine vn (p:=(256:Int)<(((cx.map aA).map bdP).length:Int)) ?_;refine ax (X e i) ?_;exact eP9
  |ok p=>
  obtain⟨k,U⟩:=p;rw[i]at a;obtain⟨s,V⟩:=vB hB hcx Uo E i;have Y:=sE i;simp only at s V Y;obtain⟨Z,vo⟩:=Gq (n:=U) hI hB hcx hcl F;simp only at a;cases j:dT B cx y (U:Int)with
  |error e=>
   rw[j]at a;obtain rfl:.error e=d:=a;refine VP.wk (c1:=gM B (aH (cx.map aA)) (pI 0) (pI e)) ?_ (ww rfl);refine aQ (r:=.ok (_,_)) 94 [.tmp 8] τok func254 ?_;refine aj<|vn (p:=((m+1:Nat):Int)=0) ?_;refine vi ?_;rw[w];refine ae o ?_;refine vn (p:=(256:Int)<(((cx.map aA).map bdP).length:Int)) ?_;refine ax (S _ i) ?_;refine ax (Z e j) ?_;exact eP9
  |ok q=>
  obtain⟨l,H⟩:=q;rw[j]at a;obtain⟨z,y7⟩:=vB hB hcx Uo F j;have l2:=sE j;simp only at z y7 l2;have a:n9 B (cY B g) cx k l u H=d:=a;unfold n9 at a;have nx:=s.nargs;have lx:=s.len;have eA:=au (λt=>[ah t]) ((argsT k).map row);have a0:=au row (argsT k);have eB:=au (λt=>[ah t]) ((argsT l).map row);have a1:=au row (argsT l);refine aQ (r:=.ok (_,_)) 94 [.tmp 8] τok func254 ?_;refine aj<|vn (p:=((m+1:Nat):Int)=0) ?_;refine vi ?_;rw[w];refine ae o ?_;refine vn (p:=(256:Int)<(((cx.map aA).map bdP).length:Int)) ?_;refine ax (S _ i) ?_;refine ax (vo _ j) ?_;refine ae (ql s) ?_;refine ae (ql z) ?_;refine aI 0 (aM (aC s.head)) ?_;refine aI 0 (aM (aC z.head)) ?_;refine af (λv=>?_) (λv=>?_)
  ·have v:(headT k).n.op≠(headT l).n.op:=v
   rw[KX (.inl v)]at a;subst a;exact kP9
  have v:(headT k).n.op=(headT l).n.op:=Decidable.not_not.1 v;refine af (λC=>?_) (λC=>?_)
  ·have C:((((argsT k).map row).map λt=>[ah t]).length:Int)≠((((argsT l).map row).map λt=>[ah t]).length:Int):=C
   rw[KX (.inr Uo)]at a;subst a;exact kP9
  have C:¬ ((((argsT k).map row).map λt=>[ah t]).length:Int)≠((((argsT l).map row).map λt=>[ah t]).length:Int):=C;rw[KY Uo]at a;refine vk ?_;have hh:=NG (n:=H) hI M (lL B g) hcx Uo Uo Uo s.head z.head v V u;cases hr:ji B (cY B g) cx (headT k) (headT l) u H with
  |error e=>
   rw[hr]at hh a;obtain rfl:.error e=d:=a;refine ax hh ?_;exact eP9
  |ok r=>
  obtain⟨b,I⟩:=r;have l3:=Fe (lL B g) hr;simp only at l3;rw[hr]at hh a;cases b with
  |false=>
   obtain rfl:.ok (false,I)=d:=a;refine ax hh ?_;exact eP9
  |true=>
   have a:df (cY B g) cx (argsT k) (argsT l) I=d:=a;have L:=Gs (n:=I) M (lL B g) hcx hcl Uo Uo s.args z.args Uo Uo;rw[a]at L;refine ax hh ?_;cases d with
   |error e=>
    refine ax L ?_;exact eP9
   |ok q=>
    refine ax L ?_;exact eP9
theorem NH(hcx:CxOk B cx)(hcl:cx.length<=260){x y:Tr}(b:Ft (QB B) (cx.length:Int) x)(d:Ft (QB B) (cx.length:Int) y)(f:Int)(u:Bool):VC prog 247 [bw B,aH (cx.map aA),ah (row x),ah (row y),pI f,.bool u] (match lM B cx x y f u with
  | .ok q=>.tup [.bool q.1,pI q.2,pI 0]
  | .error e=>.tup [.bool false,pI 0,pI e]):=by
 have i:=EO';obtain⟨n,hn,hn1⟩:∃n:Nat,min (max f 0) 100000=(n:Int)/\bp f=n:=⟨_,by unfold bp;omega,rfl⟩
 unfold lM;rw[hn1];have a:=xK' hI hB GC cx x y u n hcx hcl b d Uo Uo;unfold nl at a;rw[<- hn]at a;refine vf 43 [.tmp 12,.tmp 13,.tmp 14] τok func247 ?_;cases hr:cY B GC cx x y u n with
 |error e=>
  have j:=sG B GC _ _ _ _ _ _ hr;rw[hr]at a;refine ax a ?_;exact vE j<|kA9
 |ok q=>
  rw[hr]at a;refine ax a ?_;exact v0<|kA9
end
theorem NI(l:List Atom):∀x∈l,(atP x).length=2/\∀q∈atP x,q.one=true:=λx _=>⟨rfl,λq a=>by
 simp[atP]at a;rcases a with rfl|rfl<;>rfl⟩
theorem NJ(l:List Atom)(a:0<l.length)(hl:l.length<=1000000):VO prog 223 [cF l] 220 2 (l.map atP):=by
 refine nJ 8 [.tmp 2] τok func223 ?_;refine aj<|su (l:=l.map atP) τok (by rfl) (by rw[KF];exact a)<|va ?_ (NI l);exact⟨7,rfl,rfl⟩
theorem A7{a:List Atom}(ha:a.length<=1000000){b:Int}(C:I64 b):VC prog 188 [cF a,pI b] (.tup [cF (fT a b),pI (dA a b)]):=by
 have V:=au atP a;unfold I64 at C;have r:∀e,dA a b=e ->e≠0 ->PV.tup [.sl [],pI e]= .tup [cF (fT a b),pI (dA a b)]:=λe F D=>by
  have hr:fT a b=[]:=by unfold fT;rw[KY (by rw[F];exact D)]
  rw[hr,F]
  rfl
 refine vf 39 [.tmp 4,.tmp 5] τok func188 ?_;refine bX (A1 a Uo 16) (λj=>?_) (λj=>?_);rotate_left
 ·exact⟨_,_,rfl,rfl,r 19 (by unfold dA;rw[KX j]) UO⟩
 refine af (λE=>?_) (λE=>?_)
 ·exact⟨_,_,rfl,rfl,r 1 (by unfold dA;rw[KY (by simp[j]),KX E]) UO⟩
 have H:dA a b=if a.any (λx=>decide (1000<x.add+b))then 6 else 0:=by unfold dA;rw[KY (by simp[j]),KY E]
 obtain⟨M,s⟩:=jY j;have D:0<a.length:=by
  unfold cN at j;split at j
  ·cases j
  ·omega
 refine gQ (NJ a D ha) ?_;refine aB τok (σ:=Nat×List Atom) [(1,_),(6,_),(16,_)] [] (λq=>[(17,vI q.1)]) (λq=>[(14,.rw 220 2 (q.2.map atP))]) (λq=>q.1<=a.length/\q.2=(iw a b).take q.1++a.drop q.1/\∀x∈a.take q.1,x.add+b<=1000) (λq=>a.length-q.1) (0,a) ⟨KV _,Ud,λx o=>by simp at o⟩ ?_;rintro⟨i,l⟩ ⟨O,t,z⟩;simp only at O t z;have W:(iw a b).length=a.length:=KF _;refine aj<|af (λu=>?_) (λu=>?_);rotate_left
 ·have u:¬ (i:Int)<((a.map atP).length:Int):=u
  rw[JG Uo,JY Uo,JD]at t;rw[JG Uo]at z;have I:dA a b=0:=by
   rw[H,KY];rw[List.any_eq_true];rintro⟨x,o,h⟩;have:=z x o;simp at h;omega
  refine⟨_,_,rfl,rfl,?_⟩;rw[I,show fT a b=l by unfold fT;rw[KX I,t]]
  rfl
 have u:(i:Int)<((a.map atP).length:Int):=u;obtain⟨x,o,L⟩:=ay (l:=a) (k:=i);have d:l[i]?=some x:=by
  rw[t,QU (by rw[VJ];omega),VJ,show i-min i (iw a b).length=0 by omega,L]
  rfl
 have S:=s x (JQ o);refine vm (p:=atP) i d ?_;refine ec d<|vi ?_;refine af (λv=>?_) (λv=>?_)
 ·have v:b>1000-x.add:=v
  exact⟨_,_,rfl,rfl,r 6 (by rw[H,KX];rw[List.any_eq_true];exact⟨x,JQ o,Uk⟩) UO⟩
 have v:¬ b>1000-x.add:=v
 refine vm (p:=atP) i d ?_;refine ec d<|vi ?_;refine vm (p:=atP) i d ?_;refine ec d<|vi ?_;refine aw (i+1,l.set i ⟨x.var,x.add+b⟩) ⟨by show i+1<=_;omega,?_,λy w=>?_⟩ (y':=⟨KG (λl=>some (SE.rw _ _ l)) (by rw[List.map_set];rfl),trivial⟩)
 ·show l.set i _=_
  have U:(iw a b)[i]?=some ⟨x.var,x.add+b⟩:=by unfold iw;rw[JX,o];rfl
  rw[t,L,List.set_append_right _ _ (by rw[VJ];omega),VJ,show i-min i (iw a b).length=0 by omega,List.set_cons_zero,QQ,U];simp
 ·rw[QQ,o]at w
  simp at w;rcases w with w|rfl
  ·exact z y w
  ·omega
open Go.Wx Cd Tm Lv
section
variable{Q:Nd ->Prop}{N:Int}{x y:Tr}
theorem Gx{ys:List Tr}(a:Ok .tm x)(hl:(row x).length<=4096)(b:∀y∈ys,Ok .tm y/\(row y).length<=4096)(hn:ys.length<=100000):VC prog 196 [pI 4,bD (ys.map row),ah (row x)] (de (bq ys x)):=by
 rw[show de (bq ys x)=_ by unfold bq;rw[apply_ite de]];exact Lx (.inl rfl) a hl b hn
end
theorem Gy{vars:Int}{l:List Atom}(h:j8 vars l):GL (λx:Atom=>I64 x.var/\I64 x.add) l:=⟨by have:=h.hi;omega,λx a=>by
 have:=h.at_ x a;exact⟨⟨Uo,Uo⟩,⟨Uo,Uo⟩⟩⟩
theorem NK{vars:Int}{a:List Atom}(ha:j8 vars a):VC prog 188 [cF a,pI 1] (.tup [cF (fT a 1),pI (dA a 1)]):=A7 (by have:=ha.hi;omega) (by unfold I64;omega)
theorem A8{vars:Int}{a b:List Atom}(ha:j8 vars a)(hb:j8 vars b):VC prog 195 [cF a,cF b] (.tup [cF (dz a b),pI (cJ a b)]):=KL ⟨_,func195,rfl,UO⟩ λw C L hS d i=>by
 obtain⟨v,z,rfl,j,l⟩:=uX i;obtain⟨o,q,rfl,r,M⟩:=br_at.sl (Gy ha) j;obtain⟨s,t,rfl,u,O⟩:=br_at.sl (Gy hb) l;refine(L5 hS a b o s q t r u).2.mono λe S ⟨D,E,F,⟨H,I⟩,k⟩=>⟨⟨_,F,?_⟩,k⟩
 exact KM (SV.rv Fr' ⟨D,E,rfl,H.mono λ_ _ _ h=>.inr h,I⟩) (.int _ _)
section
variable{B:ak}(hI:BoI B)(hB:GoodB B)
include hI hB
theorem NL{x:Tr}{N:Int}(b:Ft (QB B) N x)(a:x.n.op=12):VC prog 234 [bw B,ah (row x)] (pI (gr B x)):=Nq hB b a
variable{cx:Ctx}(hcx:CxOk B cx)(hcl:cx.length<=260)
include hcx hcl
theorem NM{x y:Tr}(a:Ft (QB B) (cx.length:Int) x)(b:Ft (QB B) (cx.length:Int) y)(n:Int)(u:Bool):VC prog 247 [bw B,aH (cx.map aA),ah (row x),ah (row y),pI n,.bool u] (match lM B cx x y n u with
  | .ok q=>.tup [.bool q.1,pI q.2,pI 0]
  | .error e=>.tup [.bool false,pI 0,pI e]):=NH hI hB hcx hcl a b n u
end
theorem vx':VC prog 190 [pI 0] (.tup []):=by
 refine vf 7 [] τok func190 ?_;exact v0<|aE
theorem fL{e:Int}(he:e≠0):VE prog 190 [pI e] (fC e):=by
 refine nK (r:=.error (fC e)) 7 [] τok func190 ?_;refine aj<|vy ?_ he;exact pR (λw=>by simp[Instr.makeInterface,underlying242,go_sem])<|rfl
theorem ph{B:ak}{cx:Ctx}(hcx:CxOk B cx)(hcl:cx.length<=300){t:Tr}{o:Option Tr}(a:Ft (QB B) (cx.length:Int) t)(b:∀x,o=some x ->Ft (QB B) (cx.length:Int) x):VC prog 194 [aH (cx.map aA),.sl [[ah (row t),ah (mL' o)]]] (aH ((cx++[(t,o)]).map aA)):=by
 have e:aH ((cx++[(t,o)]).map aA)= .sl ((cx.map aA).map bdP++[[ah (row t),ah (mL' o)]]):=by rw[KB];exact KG PV.sl (KB ..)
 rw[e];refine vf 9 [.tmp 4] τok func194 ?_;refine aR id (λ_=>0) (ND _) ?_;refine⟨⟨Nat.one_pos,ws _⟩,be ?_ (hb:=by simp;omega)⟩;exact⟨_,_,rfl,rfl,rfl⟩
theorem Gz{c:List (List Nd×List Nd)}(hc:c.length<=256):VC prog 229 [aH c] (.tup []):=by
 have eC:=au bdP c;refine vf 6 [] τok func229 ?_;refine vn (p:=(256:Int)<((c.map bdP).length:Int)) ?_;exact aE
theorem GA{c:List (List Nd×List Nd)}(hc:256<c.length):VE prog 229 [aH c] (fC 5):=by
 have eC:=au bdP c;refine nK (r:=.error (fC 5)) 6 [] τok func229 ?_;refine aj<|vy (p:=(256:Int)<((c.map bdP).length:Int)) ?_;refine bL (fL UO) ?_;exact rfl
theorem GB(kind:Int){l:List Atom}(hl:l.length<=1000):VC prog 191 [pI kind,cF l] (ah (row (eU kind l))):=by
 have d:=au atP l;generalize b:row (eU kind l)=j;rw[show row (eU kind l)=⟨2,kind,(l.length:Int)⟩::l.map λa=>⟨3,a.var,a.add⟩ by
  have:∀l:List Atom,rows (l.map λa=>Tr.mk ⟨3,a.var,a.add⟩ [])=l.map λa=>(⟨3,a.var,a.add⟩:Nd):=by
   intro l
   induction l with
   |nil=>rfl
   |cons a l o=>simp[rows,row,o]
  simp[eU,row,this]]at b
 refine vf 29 [.tmp 4] τok func191 ?_;refine aB τok (σ:=Nat) [(13,_),(14,_)] [] (λi=>[(5,.c (.row 1000)),(15,vI i)]) (λi=>[(1000,.rw 46 3 ([pI 2,pI kind,pI ((l.map atP).length:Int)]::(l.take i).map λa=>[pI 3,pI a.var,pI a.add]))]) (λi=>i<=l.length) (λi=>l.length-i) 0 (KV _) ?_ (sw 1000 12);intro i q;refine aj<|af (λg=>?_) (λg=>?_)
 ·have g:(i:Int)<l.length:=by simpa[d]using g
  obtain⟨a,e,_⟩:=ay (l:=l) (k:=i);refine vm (p:=atP) i e ?_;refine be ?_ (hb:=Uk);refine vi ?_;exact aw (i+1) (by show i+1<=_;omega) (sw 1000 26) (y':=⟨KG (λl=>some (SE.rw _ _ l)) (by
   rw[du e];simp[dM];exact⟨rfl,rfl,rfl⟩),trivial⟩)
 ·have:i=l.length:=by simp[d]at g;omega
  subst this;exact aE (h3:=by
   rw[List.take_length,<- b,d];simp[ah,fY',ndP])
theorem A9{n:Nat}{fr:Int}(hn:n<=100)(hf:0<=fr/\fr<=100):VO prog 224 [pI n,pI fr] 29 1 (((varsM n fr).map row).map rP):=by
 have ev:∀k,k<n ->(varsM n fr)[k]?=some (varX (fr+((n-1-k:Nat):Int))):=λk a=>by
  unfold varsM;rw[JX,List.getElem?_range a]
  rfl
 have el:(varsM n fr).length=n:=by simp[varsM]
 refine nJ 22 [.tmp 4] τok func224 ?_;refine aj<|vi ?_;refine dm 5 1000 29 1 rfl rfl<|aB τok (σ:=Nat×Int) [(1,_)] [] (λq=>[(5,.c (.row 1000)),(6,vI q.2)]) (λq=>[(1000,.rw 29 1 ((((varsM n fr).take q.1).map row).map rP))]) (λq=>q.1<=n/\q.2=(n:Int)-1-q.1) (λq=>n-q.1) (0,(n:Int)-1) ⟨KV _,Us⟩ ?_;rintro⟨k,v⟩ ⟨a,b⟩;simp only at a b;have d:((varsM n fr).take k).length=k:=by rw[VJ];omega
 refine aj<|af (λg=>?_) (λg=>?_)
 ·have g:v≥0:=g
  refine vi ?_;refine be ?_ (hb:=Uk);refine vi ?_;exact aw (k+1,v-1) ⟨Us,Us⟩ (sw 1000 20) (y':=⟨KG (λl=>some (SE.rw _ _ l)) (by
   rw[du (ev k Uo),KB,KB,show fr+((n-1-k:Nat):Int)=fr+v by omega]
   rfl),trivial⟩)
 ·have g:¬ v≥0:=g
  exact⟨1000,rfl,KG (λl=>some (SE.rw 29 1 ((List.map row l).map rP))) (JG (l:=varsM n fr) (i:=k) Uo)⟩
section
variable{B:ak}(hB:GoodB B)
include hB
theorem sZ{x:Tr}{ys:List Tr}{l:List (List Nd)}{t:List Nd}{Q:Nd ->Prop}(b:Ok .tm x)(hl:(row x).length<=4096)(a:∀y∈ys,Ft Q 90000 y)(hn:ys.length<=1000)(d:l=ys.map row)(e:t=row x):VC prog 196 [pI 4,bD l,ah t] (de (bq ys x)):=by
 subst d e;exact Gx b hl (λy h=>⟨(a y h).ok,(a y h).len⟩) Uo
theorem NO{a:Int}(ha:bk B B.ents.length a=true):VC prog 192 [bw B,pI a] (de (gu B a)):=by
 obtain⟨i,x,s,u,v,rfl,_,o,D,d⟩:=hB.fam ha (KJ _);obtain⟨E,F,H⟩:=d.ps_eq o;have I:=d.lp;have L:=d.li;have w:∀y∈u,Ft (QB B) 90000 y:=λy q=>by
  obtain⟨k,r⟩:=JH q;exact(d.up_p hB o r).mono (by have:=aL r;omega)
 have C:∀y∈v,Ft (QB B) 90000 y:=λy q=>by
  obtain⟨k,r⟩:=JH q;exact(d.up_i hB o r).mono (by have:=aL r;omega)
 generalize b:gu B (i:Int)=l;unfold gu at b;rw[E,F,H]at b;have j:=sZ hB (ys:=v) (x:=s) d.fs.ok d.fs.len C Uo d.indices d.sort;refine vf 31 [.tmp 4,.tmp 5] τok func192 ?_;refine cP i o ?_;cases q1:bq v s with
 |error e=>
  have S:=kS q1;rw[q1]at j b;obtain rfl:.error e=l:=b;refine ae j ?_;refine vy (p:=e≠0) ?_;exact aE
 |ok y=>
  rw[q1]at j b;have b:bq u y=l:=b;refine ae j ?_;refine v0 ?_;have q:=lR (qk B) (N:=(u.length:Int)) (d.fs.wk (λm M=>nT (Nat.le_of_lt (aL o)) M)|>.mono Uo) (λk z O=>(d.up_i hB o O).mono Uo) q1;have t:=sZ hB (ys:=u) (x:=y) q.ok q.len w Uo d.params rfl;rw[b]at t;refine ae t ?_;cases l with
  |error e=>exact aE
  |ok z=>exact aE
end
end Go.Q
