import Derived.Test.YtdfeclpphaccnaaGreatMs10
set_option linter.all false
set_option maxRecDepth 100000
set_option maxHeartbeats 4000000
open Go.Proofs Go.Proofs.Tryz Cd Go.Wx Lv Tm
namespace Go.Q
theorem nw(a b c:Int):bp (bp a b) c=bp a (bp b c):=by
 unfold bp
 by_cases h:a≠0
 ·rw[KX h,KX h,KX h]
 ·rw[KY h,KY h]
theorem mg{a b:Int}(h:a≠0):bp a b=a:=KX h
theorem kk{a b:Int}(h:¬ a≠0):bp a b=b:=KY h
theorem M9{B:ak}{known:Nat}{self:Int}:∀(ls:List (List Nd)) (b:Int) (i:Nat) (t:List Nd),ls[i]?=some t ->bU B known self 0 (ls.drop i) b=bp (cP B known self t b) (bU B known self 0 (ls.drop (i+1)) b):=λls b i t h=>by
 rw[AJ ls b i t h,Int.add_zero]
 rfl
theorem Na{B:ak}(hB:dG B){i:Nat}{x:bY}(C:B.ents[i]?=some x):VC prog 63 [bw B,pI i] (pI (fR B i x)):=by
 have a0:=aM C;have s:i<=B.ents.length:=Uo
 have d:=hB.x x (JQ C);have e1:=au ndP x.sort;have e2:=au (λt=>[ah t]) x.params;have e3:=au (λt=>[ah t]) x.indices;have e4:=au cd x.ctors;have e5:=au ndP x.type;have e6:=au ndP x.body;have s1:=d.s;have s2:=d.p.1;have s3:=d.i.1;have s4:=d.c;refine cR 179 [.tmp 4] τok func63 ?_;refine aD<|aD<|vm i C ?_;refine aD<|af (λu=>?_) (λu=>?_)
 ·have D:fR B i x=if 0<x.sort.length+x.params.length+x.indices.length+x.ctors.length then 8 else bp (cP B i (-1) x.type 0) (cP B i (-1) x.body 0):=by
   unfold fR;rw[KY Uo,KX u]
   congr 1
   simp only[bU,bp,Int.add_zero];split
   ·rfl
   ·split
    ·rfl
    ·omega
  rw[D];have o:0<x.sort.length+x.params.length+x.indices.length+x.ctors.length ->pI 8=pI (if 0<x.sort.length+x.params.length+x.indices.length+x.ctors.length then 8 else bp (cP B i (-1) x.type 0) (cP B i (-1) x.body 0)):=λh=>by rw[KX h]
  refine af (λq1=>?_) (λq1=>?_)
  ·exact⟨_,_,rfl,rfl,o Uo⟩
  refine af (λE=>?_) (λE=>?_)
  ·exact⟨_,_,rfl,rfl,o Uo⟩
  refine af (λF=>?_) (λF=>?_)
  ·exact⟨_,_,rfl,rfl,o Uo⟩
  refine af (λH=>?_) (λH=>?_)
  ·exact⟨_,_,rfl,rfl,o Uo⟩
  rw[KY Uo];refine ae (qJ s x.type d.t 0) ?_;refine af (λI=>?_) (λI=>?_)
  ·refine ae (qJ s x.body d.b 0) ?_
   exact aE (h3:=by rw[kk Uo];rfl)
  ·exact aE (h3:=by rw[mg Uo];rfl)
 refine aD ?_;have L:(x.kind≠1 \/0<x.type.length+x.body.length) ->pI 8=pI (fR B i x):=λh=>by
  unfold fR
  by_cases W:x.kind=1
  ·rw[KX W,KX (h.resolve_left Uo)]
  ·rw[KY W,KY u]
 refine af (λq1=>?_) (λq1=>?_)
 ·exact⟨_,_,rfl,rfl,L (.inl q1)⟩
 refine af (λE=>?_) (λE=>?_)
 ·exact⟨_,_,rfl,rfl,L Uo⟩
 refine af (λF=>?_) (λF=>?_)
 ·exact⟨_,_,rfl,rfl,L Uo⟩
 have D:fR B i x=if 16<x.params.length \/16<x.indices.length \/16<x.ctors.length then 5 else bp (cP B i (-1) x.sort 0) (bp (iE x.sort) (bp (bU B i (-1) 1 x.params 0) (bp (bU B i (-1) 1 x.indices (x.params.length:Int)) (gO B i x x.ctors)))):=by
  unfold fR;rw[KX Uo,KY Uo]
 rw[D];have M:(16<x.params.length \/16<x.indices.length \/16<x.ctors.length) ->pI 5=pI (if 16<x.params.length \/16<x.indices.length \/16<x.ctors.length then 5 else bp (cP B i (-1) x.sort 0) (bp (iE x.sort) (bp (bU B i (-1) 1 x.params 0) (bp (bU B i (-1) 1 x.indices (x.params.length:Int)) (gO B i x x.ctors))))):=λh=>by rw[KX h]
 refine aD<|af (λH=>?_) (λH=>?_)
 ·exact⟨_,_,rfl,rfl,M Uo⟩
 refine af (λI=>?_) (λI=>?_)
 ·exact⟨_,_,rfl,rfl,M Uo⟩
 refine af (λq6=>?_) (λq6=>?_)
 ·exact⟨_,_,rfl,rfl,M Uo⟩
 rw[KY Uo];refine aD<|aD<|ae (qJ s x.sort s1 0) ?_;refine eo τok (σ:=Unit) [(1,_),(2,_),(4,_),(5,_),(7,_)] [(2,_),(5,_)] (λ_=>[(8,vI (bp (cP B i (-1) x.sort 0) (iE x.sort)))]) (λ_=>[]) (λ_=>True) ?_ ?_
 ·refine af (λb=>?_) (λb=>?_)
  ·have hs:fF x.sort=0:=by
    unfold cP at b;split at b
    ·exact absurd b (by assumption)
    ·rename_i h;exact QY h
   obtain⟨y,hy,hr⟩:=vS hs;have O:=aZ y;obtain⟨m,X⟩:∃m,x.sort[0]?=some m:=⟨_,List.getElem?_eq_getElem (by rw[hr];exact O)⟩
   have Y:iE x.sort=if m.op≠2 then 8 else 0:=by unfold iE;rw[QK,X];rfl
   refine vm 0 X ?_;refine af (λr=>?_) (λr=>?_)
   ·exact aw () trivial (x:=⟨by rw[kk Uo,Y,KX r];rfl,trivial⟩)
   ·exact aw () trivial (x:=⟨by rw[kk Uo,Y,KY r,b];rfl,trivial⟩)
  ·exact aw () trivial (x:=⟨KG (λz=>some (vI z)) (mg Uo).symm,trivial⟩)
 rintro _ _;refine eo τok (σ:=Unit) [(1,_),(2,_),(4,_),(5,_),(7,_)] [(2,_),(5,_)] (λ_=>[(8,vI (bp (bp (cP B i (-1) x.sort 0) (iE x.sort)) (bU B i (-1) 1 x.params 0)))]) (λ_=>[]) (λ_=>True) ?_ ?_
 ·refine af (λb=>?_) (λb=>?_)
  ·refine ae (AK s d.p Uo) ?_
   exact aw () trivial (x:=⟨KG (λz=>some (vI z)) (kk Uo).symm,trivial⟩)
  ·exact aw () trivial (x:=⟨KG (λz=>some (vI z)) (mg Uo).symm,trivial⟩)
 rintro _ _;have S:((x.params.map λt=>[ah t]).length:Int)=(x.params.length:Int):=by rw[e2]
 refine eo τok (σ:=Unit) [(1,_),(2,_),(4,_),(5,_),(7,_)] [(2,_),(5,_)] (λ_=>[(8,vI (bp (bp (bp (cP B i (-1) x.sort 0) (iE x.sort)) (bU B i (-1) 1 x.params 0)) (bU B i (-1) 1 x.indices (x.params.length:Int))))]) (λ_=>[]) (λ_=>True) ?_ ?_
 ·refine af (λb=>?_) (λb=>?_)
  ·refine ae (show VC prog _ [bw B,pI i,pI (-1),pI ((x.params.map λt=>[ah t]).length:Int),bD x.indices] _ by rw[S];exact AK s d.i Uo) ?_
   exact aw () trivial (x:=⟨KG (λz=>some (vI z)) (kk Uo).symm,trivial⟩)
  ·exact aw () trivial (x:=⟨KG (λz=>some (vI z)) (mg Uo).symm,trivial⟩)
 rintro _ _;rw[<- nw,<- nw,<- nw];refine aj<|aB τok (σ:=Nat×Int) [(1,_),(2,_),(4,_),(5,_),(7,_)] [(2,_),(5,_)] (λq=>[(8,vI q.2),(9,vI q.1)]) (λ_=>[]) (λq=>q.1<=x.ctors.length/\bp (bp (bp (bp (cP B i (-1) x.sort 0) (iE x.sort)) (bU B i (-1) 1 x.params 0)) (bU B i (-1) 1 x.indices (x.params.length:Int))) (gO B i x x.ctors)=bp q.2 (gO B i x (x.ctors.drop q.1))) (λq=>x.ctors.length-q.1) (0,_) ⟨KV _,rfl⟩ ?_;rintro⟨k,e⟩ ⟨b,r⟩;simp only at b r;refine aD<|af (λZ=>?_) (λZ=>?_)
 ·refine af (λu=>?_) (λu=>?_)
  ·simp only at u
   obtain⟨c,hc,hd⟩:=ay (l:=x.ctors) (k:=k);obtain⟨ca,co⟩:=d.a c (JQ hc);have f1:=au (λt=>[ah t]) c.args;have f2:=au (λt=>[ah t]) c.out;have a1:=ca.1;rw[hd,kk (a:=e) Uo]at r;rw[r];have eC:gO B i x (c::x.ctors.drop (k+1))=if 16<c.args.length then 5 else if c.out.length≠x.indices.length then 8 else bp (bp (bU B i i 1 c.args (x.params.length:Int)) (bU B i i 0 c.out ((x.params.length:Int)+(c.args.length:Int)))) (gO B i x (x.ctors.drop (k+1))):=by
    rw[nw]
    rfl
   rw[eC];refine VCode.seq (VCode.blk<|aD<|vm k hc ?_);refine aD<|af (λk3=>?_) (λk3=>?_)
   ·exact aE (h3:=by rw[KX Uo];rfl)
   refine aD<|af (λk4=>?_) (λk4=>?_)
   ·exact aE (h3:=by rw[KY Uo,KX Uo];rfl)
   rw[KY Uo,KY Uo];refine aj<|ae (show VC prog _ [bw B,pI i,pI i,pI ((x.params.map λt=>[ah t]).length:Int),bD c.args] _ by rw[S];exact AK s ca Uo) ?_;refine aB τok (σ:=Nat×Int) [(1,_),(2,_),(4,_),(5,_),(7,_),(9,_),(10,_)] [(2,_),(5,_),(10,_)] (λq=>[(8,vI q.2),(11,vI q.1)]) (λ_=>[]) (λq=>q.1<=c.out.length/\bp (bU B i i 1 c.args (x.params.length:Int)) (bU B i i 0 c.out ((x.params.length:Int)+(c.args.length:Int)))=bp q.2 (bU B i i 0 (c.out.drop q.1) ((x.params.length:Int)+(c.args.length:Int)))) (λq=>c.out.length-q.1) (0,_) ⟨KV _,rfl⟩ ?_;rintro⟨j,v⟩ ⟨j1,w⟩;simp only at j1 w;refine aj ?_;have done:(v≠0 \/c.out.length<=j) ->bp (bU B i i 1 c.args (x.params.length:Int)) (bU B i i 0 c.out ((x.params.length:Int)+(c.args.length:Int)))=v:=λh=>by
    rw[w];rcases h with h|h
    ·exact mg h
    ·rw[JY h]
     unfold bp;split
     ·rfl
     ·rename_i h;simp only[bU];omega
   refine af (λk5=>?_) (λk5=>?_)
   ·refine af (λU=>?_) (λU=>?_)
    ·simp only at U
     obtain⟨t,V,a2⟩:=ay (l:=c.out) (k:=j);rw[M9 _ _ j t V,kk (a:=v) Uo]at w;refine vi ?_;refine vm j V ?_;refine ae (show VC prog _ [bw B,pI i,pI i,pI (((x.params.map λt=>[ah t]).length:Int)+((c.args.map λt=>[ah t]).length:Int)),ah t] _ by rw[S,f1];exact qJ s t (co.2 t (JQ V)) _) ?_;refine vk ?_;refine vi ?_;exact aw (j+1,_) ⟨Us,w⟩
    ·refine aj ?_
     refine vi ?_;exact aw (k+1,v) ⟨Us,by rw[done (.inl U)]⟩
   ·refine aj ?_
    refine vi ?_;exact aw (k+1,v) ⟨Us,by rw[done (.inr (by simp only at k5;omega))]⟩
  ·exact aE (h3:=by rw[r,mg u];rfl)
 ·exact aE (h3:=by
   rw[r,JY (by simp only at Z;omega)];refine KG pI ?_;simp only;unfold bp;split
   ·rfl
   ·rename_i h;simp only[gO];omega)
theorem Nb(vars:Int)(os:List be):iR vars os=qq vars os:=by
 rw[Ey]
 rfl
def gF(l:List (Int×Int)):G:=l.foldl (λg p=>putG (putG g p.1 (-1) 1) (-1) p.2 1) λ_ _=>none
theorem F6(l:List (Int×Int))(p:Int×Int):gF (l++[p])=putG (putG (gF l) p.1 (-1) 1) (-1) p.2 1:=by
 unfold gF;rw[List.foldl_append]
 rfl
theorem Nc{l:List (Int×Int)}(h:∀p∈l,0<=p.1/\1<=p.2){e d:Int}(he:0<=e)(z:1<=d):(0<(gF l e (-1)).getD 0+(gF l (-1) d).getD 0↔∃p∈l,p.1=e \/p.2=d)/\0<=(gF l e (-1)).getD 0/\0<=(gF l (-1) d).getD 0:=by
 have j:∀r:List (Int×Int),(∀p∈r,0<=p.1/\1<=p.2) ->((0<(gF r.reverse e (-1)).getD 0+(gF r.reverse (-1) d).getD 0↔∃p∈r,p.1=e \/p.2=d)/\0<=(gF r.reverse e (-1)).getD 0/\0<=(gF r.reverse (-1) d).getD 0):=by
  intro r
  induction r with
  |nil=>intro _;simp[gF]
  |cons p r t=>
   intro hr;obtain⟨u,k,o⟩:=t λq a=>hr q (by simp[a]);have s:=hr p Ud;rw[List.reverse_cons,F6];have v:putG (putG (gF r.reverse) p.1 (-1) 1) (-1) p.2 1 e (-1)=if e=p.1 then some 1 else gF r.reverse e (-1):=by
    simp only[putG];rw[KY Uo]
    by_cases h:e=p.1
    ·rw[KX ⟨h,trivial⟩,KX h]
    ·rw[KY λq=>h q.1,KY h]
   have w:putG (putG (gF r.reverse) p.1 (-1) 1) (-1) p.2 1 (-1) d=if d=p.2 then some 1 else gF r.reverse (-1) d:=by
    simp only[putG]
    by_cases h:d=p.2
    ·rw[KX ⟨trivial,h⟩,KX h]
    ·rw[KY λq=>h q.2,KY h,KY Uo]
   rw[v,w]
   by_cases i:e=p.1
   ·rw[KX i]
    by_cases b:d=p.2
    ·rw[KX b]
     exact⟨⟨λ_=>⟨p,Ud,.inl i.symm⟩,λ_=>Ud⟩,Ud,Ud⟩
    ·rw[KY b]
     exact⟨⟨λ_=>⟨p,Ud,.inl i.symm⟩,λ_=>by simp only[Option.getD_some];omega⟩,Ud,o⟩
   ·rw[KY i]
    by_cases b:d=p.2
    ·rw[KX b]
     exact⟨⟨λ_=>⟨p,Ud,.inr b.symm⟩,λ_=>by simp only[Option.getD_some];omega⟩,k,Ud⟩
    ·rw[KY b]
     refine⟨?_,k,o⟩;rw[u];constructor
     ·rintro⟨q,a,h⟩;exact⟨q,by simp[a],h⟩
     ·rintro⟨q,a,h⟩
      rcases List.mem_cons.1 a with rfl|a
      ·rcases h with h|h
       ·exact absurd h.symm i
       ·exact absurd h.symm b
      ·exact⟨q,a,h⟩
 have:=j l.reverse λp s=>h p (by simpa using s)
 simpa using this
theorem F7{B:ak}:∀(l:List bY) (k i:Nat) (x:bY),l[i]?=some x ->kZ B (l.drop i) (k+i)=bp (fR B (k+i) x) (kZ B (l.drop (i+1)) (k+i+1))
 |y::r,k,0,x,h=>by
  obtain rfl:=JB h
  rfl
 |y::r,k,i+1,x,h=>by
  have:=F7 (B:=B) r (k+1) i x h;rw[show k+1+i=k+(i+1) by omega]at this;exact this
theorem Nf{B:ak}{i:Nat}{x:bY}(h1:x.kind=1)(he:fR B i x=0):x.sort=[⟨2,1,1⟩,⟨3,0,0⟩]↔¬ (x.sort.length≠2 \/(x.sort.getD 0 ⟨0,0,0⟩).a≠1 \/x.sort.getD 1 ⟨0,0,0⟩≠⟨3,0,0⟩):=by
 constructor
 ·intro h
  rw[h]
  decide
 ·intro h
  unfold fR at he;rw[KX h1]at he;split at he
  ·cases he
  split at he
  ·cases he
  obtain⟨f1,f2⟩:=oB.1 he;obtain⟨f2,_⟩:=oB.1 f2;have v:fF x.sort=0:=by
   unfold cP at f1;split at f1
   ·exact absurd f1 (by assumption)
   ·rename_i h;exact QY h
  obtain⟨y,t,hr⟩:=vS v
  match s:x.sort with
  |[]=>rw[s]at h;simp at h
  |[a]=>rw[s]at h;simp at h
  |a::b::c::r=>rw[s]at h;simp at h
  |[a,b]=>
   rw[s]at h f2 hr;have w:b=⟨3,0,0⟩:=by
    have:¬ ([a,b].getD 1 ⟨0,0,0⟩≠⟨3,0,0⟩):=λq=>h (.inr (.inr q))
    simpa using this
   have u:a.a=1:=by
    have:¬ (([a,b].getD 0 ⟨0,0,0⟩).a≠1):=λq=>h (.inr (.inl q))
    simpa using this
   have j:a.op=2:=by
    unfold iE at f2;split at f2
    ·cases f2
    ·rename_i q;simpa using q
   have l:a.b=1:=by
    obtain⟨n,z⟩:=y;simp only[row,List.cons.injEq]at hr;obtain⟨rfl,hr⟩:=hr;obtain⟨C,D,H⟩:=t.ok.kids;obtain⟨E,_,_,e⟩:=fq C;rw[KX j]at e;have d:=vR t.ok j
    match z,hr,d,e with
    |[],hr,_,_=>simp[rows]at hr
    |[k],hr,_,e=>
     have:=dn E;simp at e;omega
    |k::F::r,hr,d,e=>
     obtain⟨m,rfl,_⟩:=d k Ud;obtain⟨I,rfl,_⟩:=d F Ud;simp[rows,row]at hr
   obtain⟨o,p,q⟩:=a;simp only at u j l;subst u j l;rw[w]
theorem wb{B:ak}(hB:dG B):VC prog 30 [bw B] (pI (cT B)):=by
 have eE:=au cj B.ents;have eP:=au iU B.prims;have a7:=hB.e;have a8:=hB.p;have I:=FS (vars:=B.vars) hB.o;rw[Nb]at I;refine cR 176 [.tmp 2] τok func30 ?_;refine aD<|aD<|ae I ?_;refine aD<|af (λV=>?_) (λV=>?_)
 ·exact aE (h3:=by unfold cT;rw[KX V];rfl)
 refine aD<|af (λk2=>?_) (λk2=>?_)
 ·exact aE (h3:=by unfold cT;rw[KY V,KX Uo];rfl)
 have eF:cT B=bp (kZ B B.ents 0) (if iF B=true then 0 else 22):=by unfold cT;rw[KY V,KY Uo]
 rw[eF];refine eo τok (σ:=Unit) [(1,_),(2,_)] [(1,_)] (λ_=>[]) (λ_=>[]) (λ_=>kZ B B.ents 0=0/\∀(i:Nat) x,B.ents[i]?=some x ->fR B i x=0) ?_ ?_
 ·refine aB τok (σ:=Nat) [(1,_),(2,_)] [(1,_)] (λi=>[(4,vI i)]) (λ_=>[]) (λi=>i<=B.ents.length/\kZ B B.ents 0=kZ B (B.ents.drop i) i/\∀(j:Nat) x,j<i ->B.ents[j]?=some x ->fR B j x=0) (λi=>B.ents.length-i) 0 ⟨KV _,rfl,λj x hj=>absurd hj Uo⟩ ?_
  rintro i ⟨g1,w,L⟩;refine aj<|af (λg=>?_) (λg=>?_)
  ·obtain⟨x,o,hd⟩:=ay (l:=B.ents) (k:=i)
   have M:=F7 (B:=B) B.ents 0 i x o;rw[KW]at M;rw[M]at w;refine ae (Na hB o) ?_;refine af (λr=>?_) (λr=>?_)
   ·exact aE (h3:=by rw[w,nw,mg r];rfl)
   ·refine vi ?_
    refine aw (i+1) ⟨Uo,by rw[w,kk r],λj y hj Z=>?_⟩
    by_cases e:j=i
    ·subst e
     rw[o]at Z;obtain rfl:=JB Z;omega
    ·exact L j y Uo Z
  ·rw[JY Uo]at w
   exact aw () ⟨w,λj x o=>L j x (by have:=aM o;omega) o⟩
 rintro _ ⟨m1,m2⟩;rw[kk (by rw[m1];decide)];have C:iF B=false ->pI 22=pI (if iF B=true then 0 else 22):=λh=>by rw[h];rfl
 refine eo τok (σ:=Unit) [(1,_),(2,_)] [(1,_)] (λ_=>[]) (λ_=>[]) (λ_=>B.nat≠ -1 ->nm B B.nat=true) ?_ ?_
 ·refine af (λn1=>?_) (λn1=>?_)
  ·have D:nm B B.nat=false ->pI 22=pI (if iF B=true then 0 else 22):=λh=>C (by unfold iF;rw[KX (.inl ⟨n1,h⟩)])
   have v:=sZ (known:=B.ents.length) (KJ _) B.nat;rw[show ((B.ents.length:Nat):Int)=((B.ents.map cj).length:Int) by rw[eE]]at v;refine bV v (λf=>?_) (λf=>?_)
   ·have ff:(0<=B.nat/\B.nat<B.ents.length/\(aR B B.nat).kind=1):=by simpa[bF]using f
    have o:=nv (B:=B) ff.1;obtain⟨x,O⟩:∃x,aR B B.nat=x:=⟨_,rfl⟩
    rw[O]at o ff;have a0:=m2 _ x o;have W:=hB.x x (JQ o);have st:=Nf ff.2.2 a0;have f1:=au (λt=>[ah t]) x.params;have f2:=au (λt=>[ah t]) x.indices;have f3:=au cd x.ctors;have z1:=W.p.1;have z2:=W.i.1;have u:nm B B.nat=if x.sort.length≠2 \/(x.sort.getD 0 ⟨0,0,0⟩).a≠1 \/x.sort.getD 1 ⟨0,0,0⟩≠⟨3,0,0⟩ \/0<x.params.length+x.indices.length \/x.ctors.length≠2 then false
 else decide ((x.ctors.getD 0 default).args.length=0) && (decide ((x.ctors.getD 1 default).args.length=1) && (decide (((x.ctors.getD 1 default).args.getD 0 []).length=1) && decide (((x.ctors.getD 1 default).args.getD 0 []).getD 0 ⟨0,0,0⟩=⟨9,B.nat,0⟩))):=by
     unfold nm;rw[O,KY Uo]
    refine vm B.nat.toNat o ?_;have hs:=AA (a:=x.sort) (b:=[⟨2,1,1⟩,⟨3,0,0⟩]) (by have:=W.s;omega) Ud;refine bV hs (λs=>?_) (λs=>?_)
    ·have s:=st.1 (of_decide_eq_true s)
     refine vi ?_;refine af (λn2=>?_) (λn2=>?_)
     ·exact⟨_,_,rfl,rfl,D (by rw[u,KX (.inr (.inr (.inr (.inl Uo))))])⟩
     refine af (λn3=>?_) (λn3=>?_)
     ·exact⟨_,_,rfl,rfl,D (by rw[u,KX (.inr (.inr (.inr (.inr Uo))))])⟩
     rw[KY (by
      rintro(h|h|h|h|h)
      ·exact s (.inl h)
      ·exact s (.inr (.inl h))
      ·exact s (.inr (.inr h))
      ·omega
      ·omega)]at u
     obtain⟨X,h0⟩:∃c,x.ctors[0]?=some c:=⟨_,gE⟩
     obtain⟨c1,Y⟩:∃c,x.ctors[1]?=some c:=⟨_,gE⟩
     rw[show x.ctors.getD 0 default=X by rw[QK,h0];rfl,show x.ctors.getD 1 default=c1 by rw[QK,Y];rfl]at u;have e0:=au (λt=>[ah t]) X.args;have e1:=au (λt=>[ah t]) c1.args;refine vm 0 h0 ?_;refine af (λn4=>?_) (λn4=>?_)
     ·refine vk ?_
      exact⟨_,_,rfl,rfl,D (by rw[u,KH Uo];rfl)⟩
     refine vm 1 Y ?_;refine af (λn5=>?_) (λn5=>?_)
     ·refine vk ?_
      exact⟨_,_,rfl,rfl,D (by rw[u,KU (show X.args.length=0 by omega),KH (show ¬ c1.args.length=1 by omega)];rfl)⟩
     obtain⟨t,ht⟩:∃t,c1.args[0]?=some t:=⟨_,gE⟩
     rw[show c1.args.getD 0 []=t by rw[QK,ht];rfl,KU (show X.args.length=0 by omega),KU (show c1.args.length=1 by omega)]at u;have a9:=((W.a c1 (JQ Y)).1.2 t (JQ ht))
     have eT:(decide (t.length=1) && decide (t.getD 0 ⟨0,0,0⟩=⟨9,B.nat,0⟩))=decide (t=[⟨9,B.nat,0⟩]):=by
      rw[Bool.eq_iff_iff];simp only[Bool.and_eq_true,decide_eq_true_eq];constructor
      ·rintro⟨S,E⟩
       match t,S,E with
       |[m],_,E=>rw[show m=⟨9,B.nat,0⟩from E]
      ·rintro rfl
       exact⟨rfl,rfl⟩
     rw[Bool.true_and,Bool.true_and,eT]at u;refine vm 1 Y ?_;refine vm 0 ht ?_;refine bV (AA (a:=t) (b:=[⟨9,B.nat,0⟩]) Uo Ud) (λs2=>?_) (λs2=>?_)
     ·refine vk ?_
      exact aw () λ_=>by rw[u,s2]
     ·refine vk ?_
      exact⟨_,_,rfl,rfl,D (by rw[u,s2])⟩
    ·have s:=λq=>of_decide_eq_false s (st.2 q)
     exact⟨_,_,rfl,rfl,D (by
      rw[u,KX];rcases QY s with h|h|h
      ·exact .inl h
      ·exact .inr (.inl h)
      ·exact .inr (.inr (.inl h)))⟩
   ·exact⟨_,_,rfl,rfl,D (by
     unfold nm;rw[KX];have:¬ (0<=B.nat/\B.nat<B.ents.length/\(aR B B.nat).kind=1):=λq=>by
      have:bF B B.ents.length B.nat=true:=by simpa[bF]using q
      rw[f]at this;cases this
     omega)⟩
  ·exact aw () λh=>absurd h n1
 rintro _ m3;refine aj ?_;have eR:(B.nat= -1 ->B.prims.length=0) ->iF B=nq B B.prims (gF []):=λh=>by
  unfold iF;rw[KY]
  ·rfl
  ·rintro(⟨S,E⟩|⟨S,E⟩)
   ·rw[m3 S]at E;cases E
   ·have:=h S;omega
 refine aB τok (σ:=Nat) [(1,_),(2,_)] [(1,_)] (λi=>[(6,vI i)]) (λ_=>[]) (λi=>i<=B.prims.length/\(B.nat= -1 ->i=0)/\(∀p∈B.prims.take i,0<=p.1/\1<=p.2)/\nq B B.prims (gF [])=nq B (B.prims.drop i) (gF (B.prims.take i))) (λi=>B.prims.length-i) 0 ⟨KV _,λ_=>rfl,Ud,Ud⟩ ?_;rintro i ⟨g1,w,L,r⟩;refine aj<|af (λg=>?_) (λg=>?_)
 ·obtain⟨p,hp,hd⟩:=ay (l:=B.prims) (k:=i)
  rw[hd]at r;simp only[nq]at r;refine vm i hp ?_;refine af (λq1=>?_) (λq1=>?_)
  ·exact⟨_,_,rfl,rfl,C (by unfold iF;rw[KX (.inr ⟨q1,Uo⟩)])⟩
  have a3:=eR λh=>absurd h q1;have F:(p.1<0 \/(B.ents.length:Int)<=p.1 \/(aR B p.1).kind≠2 \/p.2<1 \/3<p.2 \/0<(gF (B.prims.take i) p.1 (-1)).getD 0+(gF (B.prims.take i) (-1) p.2).getD 0) ->pI 22=pI (if iF B=true then 0 else 22):=λh=>C (by rw[a3,r,KX h]);refine af (λq2=>?_) (λq2=>?_)
  ·exact⟨_,_,rfl,rfl,F (.inl q2)⟩
  refine af (λq3=>?_) (λq3=>?_)
  ·exact⟨_,_,rfl,rfl,F (.inr (.inl Uo))⟩
  refine af (λq4=>?_) (λq4=>?_)
  ·exact⟨_,_,rfl,rfl,F (.inr (.inr (.inr (.inl q4))))⟩
  refine af (λq5=>?_) (λq5=>?_)
  ·exact⟨_,_,rfl,rfl,F (.inr (.inr (.inr (.inr (.inl q5)))))⟩
  refine vm p.1.toNat (nv (B:=B) (a:=p.1) Uo) ?_;refine af (λq6=>?_) (λq6=>?_)
  ·exact⟨_,_,rfl,rfl,F (.inr (.inr (.inl q6)))⟩
  obtain⟨r1,r2,r3⟩:=Nc L (e:=p.1) (d:=p.2) Uo Uo;refine aB τok (σ:=Nat) [(1,_),(2,_),(6,_),(7,_)] [(1,_),(7,_)] (λj=>[(8,vI j)]) (λ_=>[]) (λj=>j<=i/\∀q∈B.prims.take j,¬ (q.1=p.1 \/q.2=p.2)) (λj=>i-j) 0 ⟨KV _,Ud⟩ ?_;rintro j ⟨j1,j2⟩;refine aj<|af (λq7=>?_) (λq7=>?_)
  ·obtain⟨q,H,a'⟩:=ay (l:=B.prims) (k:=j)
   have a4:q∈B.prims.take i:=by
    refine JQ (i:=j) ?_;rw[List.getElem?_take,KX Uo];exact H
   have b3:(q.1=p.1 \/q.2=p.2) ->pI 22=pI (if iF B=true then 0 else 22):=λh=>F (.inr (.inr (.inr (.inr (.inr (r1.2 ⟨q,a4,h⟩))))));refine vm j H ?_;refine af (λq8=>?_) (λq8=>?_)
   ·refine vk ?_
    exact⟨_,_,rfl,rfl,b3 (.inl q8)⟩
   refine vm j H ?_;refine af (λq9=>?_) (λq9=>?_)
   ·refine vk ?_
    exact⟨_,_,rfl,rfl,b3 (.inr q9)⟩
   refine vk ?_;refine vi ?_;refine aw (j+1) ⟨Uo,λz U=>?_⟩;rw[QQ,H,Option.toList]at U;rcases List.mem_append.1 U with h|h
   ·exact j2 z h
   ·obtain rfl:=List.mem_singleton.1 h
    rintro(h|h)
    ·exact q8 h
    ·exact q9 h
  ·have a5:j=i:=Uo
   subst a5;have a6:¬ 0<(gF (B.prims.take j) p.1 (-1)).getD 0+(gF (B.prims.take j) (-1) p.2).getD 0:=λh=>by
    obtain⟨q,H,hh⟩:=r1.1 h;exact j2 q H hh
   rw[KY (by
    rintro(h|h|h|h|h|h)
    ·exact q2 h
    ·omega
    ·exact q6 h
    ·exact q4 h
    ·exact q5 h
    ·exact a6 h)]at r
   refine vi ?_;have et:B.prims.take (j+1)=B.prims.take j++[p]:=by rw[QQ,hp];rfl
   refine aw (j+1) ⟨Uo,λh=>absurd h q1,λz U=>?_,by rw[r,et,F6]⟩;rw[et]at U;rcases List.mem_append.1 U with h|h
   ·exact L z h
   ·obtain rfl:=List.mem_singleton.1 h
    omega
 ·rw[JY Uo]at r
  exact aE (h3:=by
   rw[eR λh=>by have:=w h;omega,r]
   rfl)
theorem F8(op:Int):∀(a b:List Tr) (x:Tr),eX op (a++b) x=eX op a (eX op b x)
 |[],_,_=>rfl
 |y::r,b,x=>by simp only[List.cons_append,eX,F8 op r b x]
theorem F9(a b:List Tr)(x:Tr):bk (a++b) x=(bk b x).bind (bk a):=by
 unfold bk;rw[F8]
 by_cases h:4096<(row (eX 4 b x)).length
 ·rw[KX h,KX]
  ·rfl
  ·rw[uL,JK]
   omega
 ·rw[KY h]
  rfl
section
variable{B:ak}(hS:dG B)(hr:cT B=0)(hB:GoodB B)
include hS hr hB
theorem Ng{a:Int}(ha:bF B B.ents.length a=true):VC prog 102 [bw B,pI a] (dg (gx B a)):=by
 obtain⟨i,x,s,o,q,rfl,_,w,C,b⟩:=hB.fam ha (KJ _);obtain⟨D,E,F⟩:=b.ps_eq w;have j:=wb hS;rw[hr]at j;have H:=au cj B.ents;have d:=sZ (known:=B.ents.length) (KJ _) (i:Int);rw[ha,show ((B.ents.length:Nat):Int)=((B.ents.map cj).length:Int) by rw[H]]at d;have r:∀y∈o,Wf y:=λy l=>by
  obtain⟨k,t⟩:=JH l;have:=b.fp k y t;exact⟨this.ok,this.len⟩
 have u:∀y∈q,Wf y:=λy l=>by
  obtain⟨k,t⟩:=JH l;have:=b.fi k y t;exact⟨this.ok,this.len⟩
 have I:=b.lp;have L:=b.li;have M:gx B (i:Int)=bk (o++q) s:=by
  rw[F9];unfold gx;rw[D,E,F]
 have z:=wa (x:=s) ⟨b.fs.ok,b.fs.len⟩ (ys:=o++q) (λy l=>by
  rcases List.mem_append.1 l with h|h
  ·exact r y h
  ·exact u y h) Uk
 rw[<- M]at z;have v:VC prog 98 [pI 4,.sl (x.params.map rP++x.indices.map rP),ah x.sort] (dg (gx B (i:Int))):=by
  rw[<- KB,b.params,b.indices,b.sort,<- KB];exact z
 have O:=KG List.length b.params;have S:=KG List.length b.indices;rw[KF]at O S;refine vf 39 [.tmp 4,.tmp 5] τok func102 ?_;refine ae j ?_;refine vn ?_;refine ae d ?_;refine vm i w ?_;refine va (p:=rP) ?_ (jM _);refine va (p:=rP) ?_ (jM _);refine vk ?_;refine ae v ?_;cases U:gx B (i:Int)with
 |error e=>exact aE
 |ok y=>exact aE
end
theorem AL{n:Nat}{fr:Int}(hn:n<=100)(hf:0<=fr/\fr<=100):VO prog 158 [pI (fr+n-1),pI fr] 29 1 (((varsM n fr).map row).map rP):=by
 have ev:∀k,k<n ->(varsM n fr)[k]?=some (varX (fr+((n-1-k:Nat):Int))):=λk a=>by
  unfold varsM;rw[JX,List.getElem?_range a]
  rfl
 have el:(varsM n fr).length=n:=by simp[varsM]
 refine mS 20 [.tmp 4] τok func158 ?_;refine aj<|dC 5 1000 29 1 rfl rfl<|aB τok (σ:=Nat) [(0,_),(1,_)] [] (λk=>[(5,.c (.row 1000)),(6,vI (fr+n-1-k))]) (λk=>[(1000,.rw 29 1 ((((varsM n fr).take k).map row).map rP))]) (λk=>k<=n) (λk=>n-k) 0 (KV _) ?_ (x1:=⟨rfl,by simp;rfl,trivial⟩);rintro k b;refine aj<|af (λg=>?_) (λg=>?_)
 ·refine bi ?_ (hb:=Uk)
  refine vi ?_;refine aw (k+1) (by show k+1<=n;omega) (sw 1000 18) (x:=⟨rfl,KG (λz=>some (vI z)) Uo,trivial⟩) (y':=⟨KG (λl=>some (SE.rw _ _ l)) ?_,trivial⟩);rw[QQ,ev k Uo,Option.toList,KB,KB];refine KG (_++ ·) ?_;rw[show fr+((n-1-k:Nat):Int)=fr+n-1-k by omega]
  rfl
 ·exact⟨1000,rfl,KG (λl=>some (SE.rw 29 1 ((List.map row l).map rP))) (JG (l:=varsM n fr) (i:=k) Uo)⟩
theorem Nh{n:Nat}{fr:Int}(hn:n<=100)(hf:0<=fr/\fr<=100):∀y∈varsM n fr,Wf y:=λy a=>by
 unfold varsM at a;obtain⟨k,b,rfl⟩:=List.mem_map.1 a;have:=List.mem_range.1 b;exact⟨o9 rfl (by show 0<=fr+((n-1-k:Nat):Int);omega) (by show fr+((n-1-k:Nat):Int)<=(1048576:Int);omega) rfl,by simp[varX,row,rows]⟩
theorem Ni{n:Nd}(a:aG n=true)(h:n.op=9 \/n.op=10):Wf (.mk n []):=by
 refine⟨⟨⟨?_,trivial⟩,?_⟩,by simp[row,rows]⟩
 ·simp only[cnt]
  rw[KX ⟨a,Uo,Uo⟩,KY Uo];have:bv n=0:=by unfold bv;rw[KY Uo,KY Uo,KY Uo,KY Uo]
  rw[this]
  rfl
 ·have:¬ n.op=2:=Uo
  simp[gQ',fc',this]
theorem Nj{x:Tr}{ys:List Tr}{z:Tr}(a:Wf x)(b:∀y∈ys,Wf y)(h:aO x ys= .ok z):Wf z:=by
 unfold aO at h;split at h
 ·cases h
 ·rename_i d
  injection h with h
  subst h;exact⟨eQ' ys x a.ok λy h=>(b y h).ok,Uo⟩
section
variable{B:ak}(hS:dG B)(hr:cT B=0)(hB:GoodB B)
include hS hr hB
theorem Nk{a b:Int}(ha:bF B B.ents.length a=true)(h0:0<=b)(hb:b<(aR B a).ctors.length):VC prog 103 [bw B,pI a,pI b] (dg (ig B a b)):=by
 have a2:=kW hB ha;obtain⟨i,x,s,d,qi,rfl,_,H,M,u⟩:=hB.fam ha (KJ _);rw[M]at hb;obtain⟨k,rfl⟩:∃k:Nat,b=(k:Int):=⟨b.toNat,Uo⟩
 obtain⟨c,O,_⟩:=ay (l:=x.ctors) (k:=k);obtain⟨j,w,r⟩:=u.ct k c O;obtain⟨e1,e2,e3⟩:=u.ps_eq H;obtain⟨e4,e5,e6⟩:=r.ag_eq H O;have C:=wb hS;rw[hr]at C;have eE:=au cj B.ents;have eC:=au cd x.ctors;have v:=sZ (known:=B.ents.length) (KJ _) (i:Int);rw[ha,show ((B.ents.length:Nat):Int)=((B.ents.map cj).length:Int) by rw[eE]]at v;have S:∀y∈d,Wf y:=λy q=>by
  obtain⟨k,U⟩:=JH q;have:=u.fp k y U;exact⟨this.ok,this.len⟩
 have V:∀y∈j,Wf y:=λy q=>by
  obtain⟨k,U⟩:=JH q;have:=r.fa k y U;exact⟨this.ok,this.len⟩
 have D:∀y∈w,Wf y:=λy q=>⟨(r.fo y q).ok,(r.fo y q).len⟩
 have a3:=u.lp;have a4:=r.la;have a5:=r.lo;have a6:=u.li;have l1:(x.params.map rP).length=d.length:=by rw[u.params];simp
 have l2:(c.args.map rP).length=j.length:=by rw[r.args];simp
 have l3:=KG List.length u.params;have l4:=KG List.length r.args;have l5:=KG List.length r.out;rw[KF]at l3 l4 l5;have E:=Nh (n:=d.length) (fr:=(j.length:Int)) Uo Uo;have hv:=AL (n:=d.length) (fr:=(j.length:Int)) Uo Uo;have W:VO prog 158 [pI (((x.params.map rP).length:Int)+((c.args.map rP).length:Int)-1),pI ((c.args.map rP).length:Int)] 29 1 (((varsM d.length (j.length:Int)).map row).map rP):=by
  rw[l1,l2,Int.add_comm (d.length:Int)];exact hv
 have X:aG ⟨9,(i:Int),0⟩=true:=by simp[aG,aX];omega
 have F:=Ni X (.inl rfl);have Y:=sY F (ys:=varsM d.length (j.length:Int)++w) (λy q=>by
  rcases List.mem_append.1 q with h|h
  ·exact E y h
  ·exact D y h) (by simp[varsM];omega)
 have o:VC prog 157 [ah (row (.mk ⟨9,(i:Int),0⟩ [])),.sl (((varsM d.length (j.length:Int)).map row).map rP++c.out.map rP)] (dg (aO (.mk ⟨9,(i:Int),0⟩ []) (varsM d.length (j.length:Int)++w))):=by
  rw[<- KB,r.out,<- KB];exact Y
 have I:ig B (i:Int) (k:Int)=(aO (.mk ⟨9,(i:Int),0⟩ []) (varsM d.length (j.length:Int)++w)).bind λt=>bk (d++j) t:=by
  unfold ig;rw[e1,e4,e5]
  congr 1
  funext t
  rw[F9]
 refine vf 87 [.tmp 6,.tmp 7] τok func103 ?_;refine ae C ?_;refine vn ?_;refine ae v ?_;refine vn ?_;refine vm i H ?_;refine vn ?_;refine vm i H ?_;refine vm k O ?_;have f1:=au (λt=>[ah t]) x.params;have f2:=au (λt=>[ah t]) c.args;refine vi ?_;refine vi ?_;refine gm W ?_;refine va (p:=rP) ?_ (jM _) (hb:=by simp[varsM];omega);cases L:aO (.mk ⟨9,(i:Int),0⟩ []) (varsM d.length (j.length:Int)++w)with
 |error e=>
  rw[L]at o I;rw[I];have h0:=iX L;subst h0;refine ae o ?_;refine vk ?_;refine vy ?_;exact aE
 |ok y=>
  rw[L]at o I;rw[I];have Z:=Nj F (λy q=>by
   rcases List.mem_append.1 q with h|h
   ·exact E y h
   ·exact D y h) L
  have a0:=wa (x:=y) Z (ys:=d++j) (λy q=>by
   rcases List.mem_append.1 q with h|h
   ·exact S y h
   ·exact V y h) Uk
  have a1:VC prog 98 [pI 4,.sl (x.params.map rP++c.args.map rP),ah (row y)] (dg (bk (d++j) y)):=by
   rw[<- KB,u.params,r.args,<- KB];exact a0
  refine ae o ?_;refine vk ?_;refine vn ?_;refine va (p:=rP) ?_ (jM _);refine va (p:=rP) ?_ (jM _);refine ae a1 ?_;rw[show (Except.ok y:Except Int Tr).bind (λt=>bk (d++j) t)=bk (d++j) y from rfl];cases a7:bk (d++j) y with
  |error e=>exact vk ⟨_,_,rfl,rfl,rfl⟩
  |ok z=>exact vk ⟨_,_,rfl,rfl,rfl⟩
end
theorem AM(n m:Nat):varsM (n+m) 0=varsM n (m:Int)++varsM m 0:=by
 unfold varsM;refine List.ext_getElem? λi=>?_;rcases Nat.lt_or_ge i n with h|h
 ·rw[QH (by simpa using h),JX,JX,List.getElem?_range h,List.getElem?_range Uo]
  exact KG (λz=>some (varX z)) Uo
 ·rw[QU (by simpa using h),JX,JX]
  simp only[KF,List.length_range];rcases Nat.lt_or_ge i (n+m)with g|g
  ·rw[List.getElem?_range g,List.getElem?_range Uo]
   exact KG (λz=>some (varX z)) Uo
  ·rw[QF (by simpa using g),QF Uk]
   rfl
theorem Nl{x:Tr}{ys:List Tr}{e:Int}(h:bk ys x= .error e):e=9:=by
 unfold bk at h;split at h
 ·injection h with h
  exact h.symm
 ·cases h
section
variable{B:ak}(hS:dG B)(hr:cT B=0)(hB:GoodB B)
include hS hr hB
theorem Nm{N:Int}(h0:0<=N)(hN:N<=90000){a b:Int}(ha:bF B B.ents.length a=true)(b5:0<=b)(hb:b<(aR B a).ctors.length){E:List Tr}(hq:∀y∈E,Ft (QB B) N y)(a1:E.length=(ie B a).length){mo:Tr}(V:Ft (QB B) N mo):VC prog 161 [bw B,pI a,pI b,bD (E.map row),ah (row mo)] (dg (jt B a b E mo)):=by
 generalize d:jt B a b E mo=I;have b4:=kW hB ha;obtain⟨i,x,s,F,qi,rfl,_,hi,a4,W⟩:=hB.fam ha (KJ _);have b6:=hb;rw[a4]at hb;obtain⟨k,rfl⟩:∃k:Nat,b=(k:Int):=⟨b.toNat,Uo⟩
 obtain⟨c,hc,_⟩:=ay (l:=x.ctors) (k:=k);obtain⟨D,go,S⟩:=W.ct k c hc;obtain⟨e1,e2,e3⟩:=W.ps_eq hi;obtain⟨e4,e5,e6⟩:=S.ag_eq hi hc;have a5:=wb hS;rw[hr]at a5;have eE:=au cj B.ents;have eC:=au cd x.ctors;have a0:=sZ (known:=B.ents.length) (KJ _) (i:Int);rw[ha,show ((B.ents.length:Nat):Int)=((B.ents.map cj).length:Int) by rw[eE]]at a0;have a':∀y∈D,Wf y:=λy w=>by
  obtain⟨k,hk⟩:=JH w;have:=S.fa k y hk;exact⟨this.ok,this.len⟩
 have b0:∀y∈go,Wf y:=λy w=>⟨(S.fo y w).ok,(S.fo y w).len⟩
 have b7:=W.lp;have b8:=S.la;have b9:=S.lo;have b':=W.lc;have c0:=W.li;unfold jt at d;rw[e1,e4,e5]at d;rw[e1]at a1;have l1:(x.params.map rP).length=F.length:=by rw[W.params];simp
 have l2:(c.args.map rP).length=D.length:=by rw[S.args];simp
 have l3:=KG List.length W.params;have l4:=KG List.length S.args;have l5:=KG List.length S.out;rw[KF]at l3 l4 l5;have f1:=au (λt=>[ah t]) x.params;have f2:=au (λt=>[ah t]) c.args;have f3:=au (λt=>[ah t]) (E.map row);have f4:=au row E;have f5:((E.map row).map rP).length=E.length:=Ud
 have a2:Ft (QB B) ((F.length+D.length:Nat):Int) (.mk ⟨10,(i:Int),(k:Int)⟩ []):=pk (by simp[aG,aX];omega) (.inr rfl) (by
  simp only[QB,cw,bg];simp[ha,a4];omega)
 have a6:∀y∈varsM F.length (D.length:Int)++varsM D.length 0,Ft (QB B) ((F.length+D.length:Nat):Int) y:=λy w=>by
  rcases List.mem_append.1 w with w|w
  ·exact(lY (qk B) Uo Uo y w).mono Uo
  ·exact(lY (qk B) Uo Uo y w).mono Uo
 refine vf 170 [.tmp 10,.tmp 11] τok func161 ?_;refine ae a5 ?_;refine vn ?_;refine ae a0 ?_;refine vn ?_;refine vm i hi ?_;refine vn ?_;refine vm i hi ?_;refine vn ?_;refine aB τok (σ:=Nat) [(1,_),(2,_),(3,_),(4,_),(5,_)] [(5,_)] (λj=>[(13,vI j)]) (λ_=>[]) (λj=>j<=E.length) (λj=>E.length-j) 0 (KV _) ?_;rintro j g1;refine aj<|af (λg=>?_) (λg=>?_)
 ·obtain⟨y,w,_⟩:=ay (l:=E) (k:=j)
  have U:=hq y (JQ w);have a7:=me (row y) (by have:=U.len;omega);rw[nr ⟨U.ok,U.len⟩]at a7;refine az j (x:=row y) (by rw[JX,w];rfl) ?_;refine ae a7 ?_;refine vn ?_;refine vi ?_;exact aw (j+1) (by show j+1<=_;omega)
 clear g g1
 refine vm i hi ?_;refine vm k hc ?_;have b1:=qI ⟨V.ok,V.len⟩ (V.small Uo) (b:=((F.length+D.length:Nat):Int)) (fr:=0) Uo Uo;have hm:=V.lift (qk B) (b:=((F.length+D.length:Nat):Int)) Uo Uo Uo;have hv:=AL (n:=F.length+D.length) (fr:=0) Uo Uo;have O:=sY (x:=.mk ⟨10,(i:Int),(k:Int)⟩ []) ⟨a2.ok,a2.len⟩ (ys:=varsM (F.length+D.length) 0) (λy w=>by
  have:=a6 y (by rw[<- AM];exact w);exact⟨this.ok,this.len⟩) (by simp[varsM];omega)
 refine vi ?_;refine ae (r:=.tup [ah (row (aK mo ((F.length+D.length:Nat):Int) 0)),pI 0]) ?_ ?_
 ·rw[f3,f4,f2,a1,l4,<- Int.natCast_add]
  exact b1
 refine vn ?_;refine vi ?_;refine vi ?_;refine gm (e:=29) (sz:=1) (l:=((varsM (F.length+D.length) 0).map row).map rP) ?_ ?_
 ·rw[f3,f4,f2,a1,l4,<- Int.natCast_add]
  rw[Int.zero_add]at hv;exact hv
 rw[<- AM]at d;cases h1:aO (.mk ⟨10,(i:Int),(k:Int)⟩ []) (varsM (F.length+D.length) 0)with
 |error er=>
  rw[h1]at O d;have e9:=iX h1;subst e9;obtain rfl:(.error 9:Except Int Tr)=I:=d;refine ae O ?_;refine vy ?_;exact aE
 |ok C=>
 rw[h1]at O d;refine ae O ?_;refine vn ?_;have a3:=gG (qk B) a2 (λy w=>a6 y (by rw[<- AM];exact w)) h1;have a8:=sY (x:=aK mo ((F.length+D.length:Nat):Int) 0) ⟨hm.ok,hm.len⟩ (ys:=go++[C]) (λy w=>by
  rcases List.mem_append.1 w with h|h
  ·exact b0 y h
  ·obtain rfl:y=C:=by simpa using h
   exact⟨a3.ok,a3.len⟩) Uk
 have H:VC prog 157 [ah (row (aK mo ((F.length+D.length:Nat):Int) 0)),.sl (c.out.map rP++[[ah (row C)]])] (dg (aO (aK mo ((F.length+D.length:Nat):Int) 0) (go++[C]))):=by
  rw[S.out];have e:(go.map row).map rP++[[ah (row C)]]=((go++[C]).map row).map rP:=by simp[rP]
  rw[e];exact a8
 refine va (p:=rP) ?_ (jM _);refine bi ?_;cases h2:aO (aK mo ((F.length+D.length:Nat):Int) 0) (go++[C])with
 |error er=>
  rw[h2]at H;have e9:=iX h2;subst e9;have d:(.error 9:Except Int Tr)=I:=by rw[<- d];exact(KG (λz=>Except.bind z λt=>(bk D t).bind (cQ E 0 F.length)) h2).symm
  subst d;refine ae H ?_;refine vy ?_;exact aE
 |ok t=>
 rw[h2]at H;have d:(bk D t).bind (cQ E 0 F.length)=I:=by rw[<- d];exact(KG (λz=>Except.bind z λt=>(bk D t).bind (cQ E 0 F.length)) h2).symm
 refine ae H ?_;refine vn ?_;have ht:=gG (qk B) hm (λy w=>by
  rcases List.mem_append.1 w with w|w
  ·exact(S.up_o hi W.kind w).mono Uo
  ·obtain rfl:y=C:=by simpa using w
   exact a3.mono Uo) h2
 have a9:=wa (x:=t) ⟨ht.ok,ht.len⟩ (ys:=D) a' Uo;have L:VC prog 98 [pI 4,.sl (c.args.map rP),ah (row t)] (dg (bk D t)):=by
  rw[S.args];exact a9
 cases h3:bk D t with
 |error er=>
  rw[h3]at L d;have e9:=Nl h3;subst e9;obtain rfl:(.error 9:Except Int Tr)=I:=d;refine ae L ?_;refine vy ?_;exact aE
 |ok u=>
 rw[h3]at L d;have d:cQ E 0 F.length u=I:=d;refine ae L ?_;refine vn ?_;have hu:=lX (qk B) (N:=N+F.length) (ht.mono Uo) (λk y w=>(S.up_a hi W.kind w).mono Uo) h3;refine vi ?_;refine aB τok (σ:=Nat×Tr) [(3,_)] [] (λq=>[(19,vP (ah (row q.2))),(20,vI ((q.1:Int)-1))]) (λ_=>[]) (λq=>q.1<=E.length/\Ft (QB B) (N+q.1) q.2/\cQ E 0 q.1 q.2=I) (λq=>q.1) (F.length,u) ⟨Us,hu,d⟩ ?_ (x1:=⟨rfl,KG (λz=>some (vI z)) Us,trivial⟩)
 clear d hu h3 L a9
 rintro⟨j,z⟩ ⟨hj,hz,o⟩;simp only at hj hz o;refine aj<|af (λg=>?_) (λg=>?_)
 ·have g:(0:Int)<=(j:Int)-1:=g
  obtain⟨M,rfl⟩:∃M,j=M+1:=⟨j-1,Uo⟩
  simp only[cQ]at o;obtain⟨p,hp,_⟩:=ay (l:=E) (k:=M);have b2:E.getD M (varX 0)=p:=by rw[QK,hp];rfl
  rw[b2]at o;have X:=hq p (JQ hp);have Y:=X.lift (qk B) (b:=(M:Int)) Uo Uo Uo;have b3:=qI ⟨X.ok,X.len⟩ (X.small Uo) (b:=(M:Int)) (fr:=0) Uo Uo;have Z:=v7 (x:=z) ⟨hz.ok,hz.len⟩ (u:=aK p M 0) ⟨Y.ok,Y.len⟩ (Y.small Uo) (v:=0) Uo;refine az M (x:=row p) (by rw[JX,hp];rfl) ?_ Us;refine ae (r:=.tup [ah (row (aK p M 0)),pI 0]) ?_ ?_
  ·rw[show ((((M+1:Nat),z).1:Nat):Int)-1=(M:Int) by simp only;omega]
   exact b3
  refine vn ?_;cases hs:bq z (aK p M 0) 0 with
  |error er=>
   rw[hs]at Z o;have e9:=jp hs;subst e9;obtain rfl:(.error 9:Except Int Tr)=I:=o;refine ae Z ?_;refine vy ?_;exact aE
  |ok y=>
   rw[hs]at Z o;have o:cQ E 0 M y=I:=o;have U:=jk (qk B) (N:=N+M) (v:=0) (hz.mono Uo) Y Uo Uo Uo Uo hs;refine ae Z ?_;refine vn ?_;refine vi ?_;exact aw (M,y) ⟨Us,U.mono Us,o⟩ (x:=⟨rfl,KG (λz=>some (vI z)) Us,trivial⟩)
 ·obtain rfl:j=0:=by simp only at g;omega
  simp only[cQ]at o;subst o;exact aE
end
def je(z:Int):Int:=if z=0 then -1 else if z=1 then -2 else if z=2 then -3 else z-100
def rM(m:List Int):List Int:=m.reverse.map je
def ny(m:List Int):PV:=.sl ((rM m).map iP)
theorem wd(m:List Int):(rM m).length=m.length:=by simp[rM]
theorem Nn(m:List Int)(z:Int):rM (m++[z])=je z::rM m:=by simp[rM]
theorem No(m:List Int)(z:Int)(k:Nat):rM (m++List.replicate k z)=List.replicate k (je z)++rM m:=by simp[rM]
theorem Ga(l:List Int):∀x∈l,(iP x).length=1/\∀q∈iP x,q.one=true:=λx _=>⟨rfl,λq a=>by
 obtain rfl:q=pI x:=by simpa[iP]using a
 rfl⟩
theorem Np{m:List Int}{v:Nat}(h:v<m.length):(rM m)[v]?=some (je (bS m v)):=by
 unfold rM bS;rw[KY Uo,JX,List.getElem?_reverse h,QK,Int.toNat_natCast,gE]
 rfl
theorem we(m:List Int)(hm:m.length<=1000000){v:Int}(a:0<=v):VC prog 207 [ny m,pI v] (pI (je (bS m v))):=by
 obtain⟨j,rfl⟩:∃j:Nat,v=(j:Int):=⟨v.toNat,Uo⟩
 have b:=au iP (rM m);have d:=wd m;refine vf 13 [.tmp 4] τok func207 ?_;refine af (λg=>?_) (λg=>?_)
 ·refine vm j (Np Uo) ?_
  exact aE
 ·exact aE (h3:=by
   unfold bS;rw[KX Uo]
   rfl)
theorem wg(m:List Int)(hm:m.length<=1000000)(k:Nat)(a:k<=1000000)(z:Int):VC prog 164 [ny m,pI k,pI (je z)] (ny (m++List.replicate k z)):=by
 have b:=wd m;refine cR 21 [.tmp 6] τok func164 ?_;refine aj<|dC 7 1000 3 1 rfl rfl<|aB τok (σ:=Nat) [(0,_),(1,_),(2,_)] [] (λj=>[(7,.c (.row 1000)),(8,vI j)]) (λj=>[(1000,.rw 3 1 ((List.replicate j (je z)).map iP))]) (λj=>j<=k) (λj=>k-j) 0 (KV _) ?_;rintro j d;refine aj<|af (λg=>?_) (λg=>?_)
 ·refine bi ?_ (hb:=Uk)
  refine vi ?_;exact aw (j+1) (by show j+1<=k;omega) (sw 1000 17) (y':=⟨KG (λl=>some (SE.rw _ _ l)) (by rw[List.replicate_succ',KB];rfl),trivial⟩)
 ·obtain rfl:j=k:=Uo
  refine va (p:=iP) ?_ (Ga _) (hb:=Uk);exact aE (h3:=by unfold ny;rw[No,KB];rfl)
theorem mk_of{pl m:List Int}(h:Mk pl m)(v:Int):bS m v=0 \/bS m v=1 \/bS m v=2 \/∃j:Nat,j<pl.length/\bS m v=100+j:=by
 unfold bS;split
 ·exact .inl rfl
 ·rename_i g
  rcases Nat.lt_or_ge (m.length-1-v.toNat) m.length with a|a
  ·rw[QK,List.getElem?_eq_getElem a]
   exact h _ (List.getElem_mem a)
  ·rw[QK,QF a]
   exact .inl rfl
theorem Gb{pl m:List Int}(h:Mk pl m)(v:Int):je (bS m v)= -3↔bS m v=2:=by
 unfold je;rcases mk_of h v with e|e|e|⟨j,_,e⟩<;>rw[e]
 ·decide
 ·decide
 ·decide
 ·constructor<;>intro q
  ·rw[KY Uo,KY Uo,KY Uo]at q;omega
  ·omega
theorem Gc{pl m:List Int}(h:Mk pl m)(v:Int):je (bS m v)= -2↔bS m v=1:=by
 unfold je;rcases mk_of h v with e|e|e|⟨j,_,e⟩<;>rw[e]
 ·decide
 ·decide
 ·decide
 ·constructor<;>intro q
  ·rw[KY Uo,KY Uo,KY Uo]at q;omega
  ·omega
theorem Nq{pl m:List Int}(h:Mk pl m)(v:Int):(0<=je (bS m v)↔100<=bS m v)/\(100<=bS m v ->je (bS m v)=bS m v-100/\∃j:Nat,j<pl.length/\bS m v=100+j):=by
 unfold je;rcases mk_of h v with e|e|e|⟨j,a,e⟩<;>rw[e]
 ·exact⟨UO,λh=>Uo⟩
 ·exact⟨UO,λh=>Uo⟩
 ·exact⟨UO,λh=>Uo⟩
 ·rw[KY Uo,KY Uo,KY Uo]
  exact⟨Uo,λ_=>⟨rfl,j,a,rfl⟩⟩
theorem wj{x:Tr}(d:Wf x)(h1:x.n.op=1):0<=x.n.a/\kidsT x=[]:=by
 obtain⟨n,e⟩:=x;have h1:n.op=1:=h1;obtain⟨a,b,c⟩:=d.ft.var_lt h1;exact⟨a,by subst c;simp[kidsT]⟩
theorem Gd{x:Tr}(k:Wf x){pl m:List Int}(hM:Mk pl m)(hm:m.length<=1000000):VC prog 208 [bE x,ny m] (.bool (jO x m)):=by
 refine cR 25 [.tmp 4] τok func208 ?_;refine aj<|aB τok (σ:=Tr) [(1,_),(2,_)] [] (λ_=>[]) (λq=>[(2,.st 0 145 ((fc q).map .p))]) (λq=>Wf q/\headT q=headT x) (λq=>(row q).length) x ⟨k,rfl⟩ ?_;rintro z ⟨j,d⟩;refine aj<|af (λg=>?_) (λg=>?_)
 ·obtain⟨f,a,l,hf,s,i,o,r⟩:=nu j g
  refine vt 0 (by rw[l];rfl) ?_;exact aw f ⟨hf,by rw[<- i];exact d⟩
 ·obtain⟨i,o⟩:=ij g
  rw[i]at d;refine af (λe=>?_) (λe=>?_)
  ·refine ae (we m hm (wj j e).1) ?_
   refine af (λb=>?_) (λb=>?_)
   ·have b:=(Gb hM _).1 b
    exact aE (h3:=by unfold jO;rw[<- d,KU e,KU b];rfl)
   ·have b:¬ bS m z.n.a=2:=λh=>b ((Gb hM _).2 h)
    exact aE (h3:=by unfold jO;rw[<- d,KU e,KH b];rfl)
  ·exact aE (h3:=by unfold jO;rw[<- d,KH e];rfl)
theorem iI{x:Tr}(a:Wf x)(h:x.n.op=4 \/x.n.op=5):kidsT x=[kidD x 0,kidD x 1]/\Wf (kidD x 0)/\Wf (kidD x 1)/\(row (kidD x 0)).length<(row x).length/\(row (kidD x 1)).length<(row x).length:=by
 obtain⟨_,_,e,_⟩:=oj a.ok h;have b:(kidsT x)[0]?=some (kidD x 0):=by rw[e];rfl
 have d:(kidsT x)[1]?=some (kidD x 1):=by rw[e];rfl
 exact⟨e,a.kid b,a.kid d,fN a.ok b,fN a.ok d⟩
theorem Nr{x:Tr}(v:Wf x)(p:Nat)(L:p<=1000):VC prog 162 [bE x,pI p] (.bool (dB' p x)):=by
 refine cR 41 [.tmp 4] τok func162 ?_;refine aj<|aB τok (σ:=Nat×Tr) [(1,_),(2,_)] [] (λq=>[(5,vI q.1)]) (λq=>[(2,.st 0 145 ((fc q.2).map .p))]) (λq=>q.1<=p/\Wf q.2/\dB' (p-q.1) q.2=dB' p x) (λq=>p-q.1) (0,x) ⟨KV _,v,rfl⟩ ?_;rintro⟨j,z⟩ ⟨w,i,d⟩;simp only at w i d;refine aj<|af (λg=>?_) (λg=>?_)
 ·simp only at g
  obtain⟨c,C⟩:∃c,p-j=c+1:=⟨p-j-1,Uo⟩
  rw[C]at d;simp only[dB']at d;refine af (λb=>?_) (λb=>?_)
  ·obtain⟨e,s,t,D,E⟩:=iI i (.inl b)
   rw[KU b,Bool.true_and]at d;refine vt 1 (by rw[e];rfl) ?_;refine vi ?_;exact aw (j+1,kidD z 1) ⟨Us,t,by rw[<- d,show p-(j+1)=c by omega]⟩
  ·refine vy (p:=z.n.op≠4) ?_ b
   exact aE (h3:=by rw[<- d,KH b];rfl)
 ·simp only at g
  obtain rfl:j=p:=Uo
  rw[Nat.sub_self]at d;simp only[dB']at d;refine af (λb=>?_) (λb=>?_)
  ·have b:z.n.op≠4:=b
   exact aE (h3:=by rw[<- d,KH b];rfl)
  have b:z.n.op=4:=Classical.not_not.1 b;obtain⟨e,s,t,D,E⟩:=iI i (.inl b);rw[KU b,Bool.true_and]at d;refine vt 0 (by rw[e];rfl) ?_;refine aB τok (σ:=Tr) [(1,_),(2,_)] [] (λ_=>[]) (λq=>[(2,.st 0 145 ((fc q).map .p))]) (λq=>Wf q/\headT q=headT (kidD z 0)) (λq=>(row q).length) (kidD z 0) ⟨s,rfl⟩ ?_;rintro u ⟨q1,k⟩;refine aj<|af (λl=>?_) (λl=>?_)
  ·obtain⟨f,a,F,hf,M,o,H,I⟩:=nu q1 l
   refine vt 0 (by rw[F];rfl) ?_;exact aw f ⟨hf,by rw[<- o];exact k⟩
  ·obtain⟨o,H⟩:=ij l
   rw[o]at k;rw[<- k]at d;refine af (λr=>?_) (λr=>?_)
   ·exact aE (h3:=by rw[<- d,KU r];rfl)
   ·exact aE (h3:=by rw[<- d,KH r];rfl)
theorem wl{α:Type}{p q:α ->Bool}{l:List α}(h:∀y∈l,p y=q y):l.all p=l.all q:=by
 induction l with
 |nil=>rfl
 |cons y r a=>
  rw[List.all_cons,List.all_cons,h y Ud,a λz b=>h z (by simp[b])]
theorem pr(N:Nat):∀{x:Tr},Wf x ->(row x).length<=N ->(Wf (headT x)/\(headT x).n.op≠6/\(row (headT x)).length<=(row x).length)/\∀y∈argsT x,Wf y/\(row y).length<(row x).length:=by
 induction N with
 |zero=>intro x d h;have:=aZ x;omega
 |succ N o=>
  intro x d h
  by_cases e:x.n.op=6
  ·obtain⟨f,a,q,hf,r,i,k,v⟩:=nu d e
   obtain⟨⟨s,t,w⟩,u⟩:=o hf Uo;have l:=fN d.ok (j:=1) (y:=a) (by rw[q];rfl);rw[i,k];refine⟨⟨s,t,Uo⟩,λy b=>?_⟩;rcases List.mem_append.1 b with b|b
   ·have:=u y b
    exact⟨this.1,Uo⟩
   ·obtain rfl:y=a:=by simpa using b
    exact⟨r,l⟩
  ·obtain⟨i,k⟩:=ij e
   rw[i,k];exact⟨⟨d,e,KJ _⟩,Ud⟩
def kn(B:ak)(pl:List Int)(rc:RcF)(x f:Tr)(m:List Int):Bool:=
 if f.n.op=1 then (if bS m f.n.a<100 then true else decide (pl.getD (bS m f.n.a-100).toNat 0<(argsT x).length) && jO (fK x (pl.getD (bS m f.n.a-100).toNat 0)) m)
 else if f.n.op=11 then lT B rc f m
 else if f.n.op=4 \/f.n.op=5 then rc (kidD f 0) m && rc (kidD f 1) (m++[0])
 else if f.n.op=7 then (rc (kidD f 0) m && rc (kidD f 1) m) && rc (kidD f 2) (m++[0])
 else if f.n.op=12 then lU rc m (m++List.replicate f.n.b.toNat 0) (kidsT f)
 else true
theorem AN(B:ak)(pl:List Int)(g:Nat)(x:Tr)(m:List Int):fB B pl (g+1) x m=((argsT x).all (λy=>fB B pl g y m) && kn B pl (fB B pl g) x (headT x) m):=rfl
section
variable{B:ak}{pl:List Int}{rc rc':RcF}{R:Nat}
theorem Ge(h:∀y m,Wf y ->(row y).length<R ->rc y m=rc' y m):∀(n:Nat) (t:Tr) (m:List Int),Wf t ->(row t).length<R ->gN rc n t m=gN rc' n t m
 |0,t,m,b,hl=>h t m b hl
 |n+1,t,m,b,hl=>by
  simp only[gN]
  by_cases a:t.n.op=5
  ·obtain⟨_,w0,d,e,i⟩:=iI b (.inr a)
   rw[KX a,KX a,h _ _ w0 Uo,Ge h n _ _ d Uo]
  ·rw[KY a,KY a,h _ _ b hl]
theorem Gf(h:∀y m,Wf y ->(row y).length<R ->rc y m=rc' y m)(a:Int)(d:Bool)(m:List Int):∀(l:List Tr) (k:Nat),(∀y∈l,Wf y/\(row y).length<R) ->nh B rc a d m k l=nh B rc' a d m k l
 |[],k,_=>rfl
 |t::r,k,hl=>by
  simp only[nh];rw[Ge h _ t m (hl t Ud).1 (hl t Ud).2,Gf h a d m r (k+1) λy b=>hl y (by simp[b])]
theorem Gg(h:∀y m,Wf y ->(row y).length<R ->rc y m=rc' y m)(m m':List Int):∀(l:List Tr),(∀y∈l,Wf y/\(row y).length<R) ->lU rc m m' l=lU rc' m m' l
 |[],_=>rfl
 |[_],_=>rfl
 |t::b::r,hl=>by
  simp only[lU];rw[h t m (hl t Ud).1 (hl t Ud).2,h b m' (hl b Ud).1 (hl b Ud).2,Gg h m m' r λy a=>hl y (by simp[a])]
theorem Ns(h:∀y m,Wf y ->(row y).length<R ->rc y m=rc' y m){f:Tr}(hf:Wf f)(a:f.n.op=11)(hl:(row f).length<=R)(m:List Int):lT B rc f m=lT B rc' f m:=by
 have b:=hH hf.ok a;have d:2<=(kidsT f).length:=by rw[b.1];omega
 obtain⟨_,e,l⟩:=cq hf (k:=0);obtain⟨_,i,o⟩:=cq hf (k:=1);unfold lT;rw[h _ _ e Uo,h _ _ i Uo,Gf h _ _ _ _ _ λy j=>by
  have:=vq hf y (List.mem_of_mem_drop j);exact⟨this.1,Uo⟩]
theorem Gh(h:∀y m,Wf y ->(row y).length<R ->rc y m=rc' y m)(x:Tr){f:Tr}(hf:Wf f)(hl:(row f).length<=R)(m:List Int):kn B pl rc x f m=kn B pl rc' x f m:=by
 unfold kn
 by_cases j:f.n.op=1
 ·rw[KX j,KX j]
 rw[KY j,KY j]
 by_cases a:f.n.op=11
 ·rw[KX a,KX a,Ns h hf a hl]
 rw[KY a,KY a]
 by_cases b:f.n.op=4 \/f.n.op=5
 ·obtain⟨_,l,o,q,r⟩:=iI hf b
  rw[KX b,KX b,h _ _ l Uo,h _ _ o Uo]
 rw[KY b,KY b]
 by_cases i:f.n.op=7
 ·obtain⟨e,_⟩:=qx hf.ok i
  have s:(kidsT f).length=3:=by rw[e];rfl
  obtain⟨_,l,q⟩:=cq hf (k:=0);obtain⟨_,o,r⟩:=cq hf (k:=1);obtain⟨_,t,v⟩:=cq hf (k:=2);rw[KX i,KX i,h _ _ l Uo,h _ _ o Uo,h _ _ t Uo]
 rw[KY i,KY i]
 by_cases d:f.n.op=12
 ·rw[KX d,KX d,Gg h _ _ _ λy u=>by
   have:=vq hf y u;exact⟨this.1,Uo⟩]
 rw[KY d,KY d]
end
theorem AO(B:ak)(pl:List Int):∀(g a:Nat) (x:Tr) (m:List Int),Wf x ->(row x).length<=g ->(row x).length<=a ->fB B pl g x m=fB B pl a x m:=by
 intro g
 induction g with
 |zero=>intro a x m _ h;have:=aZ x;omega
 |succ g e=>
  intro a x m i h l;cases a with
  |zero=>have:=aZ x;omega
  |succ a=>
   obtain⟨⟨j,o,k⟩,d⟩:=pr _ i (KJ _);rw[AN,AN,wl λy b=>e a y m (d y b).1 (by have:=(d y b).2;omega) (by have:=(d y b).2;omega),Gh (R:=(row x).length) (λy m b q=>e a y m b Uo Uo) x j k]
def dQ(B:ak)(pl:List Int)(x:Tr)(m:List Int):Bool:=fB B pl (row x).length x m
theorem s5(B:ak)(pl:List Int){x:Tr}(d:Wf x)(m:List Int):dQ B pl x m=((argsT x).all (λy=>dQ B pl y m) && kn B pl (dQ B pl) x (headT x) m):=by
 obtain⟨⟨e,k,i⟩,b⟩:=pr _ d (KJ _);obtain⟨g,j⟩:∃g,(row x).length=g+1:=⟨(row x).length-1,by have:=aZ x;omega⟩
 unfold dQ;rw[j,AN,wl (q:=λy=>fB B pl (row y).length y m) λy a=>AO B pl _ _ y m (b y a).1 (by have:=(b y a).2;omega) (KJ _),Gh (R:=(row x).length) (λy m a l=>AO B pl _ (row y).length y m a Uo (KJ _)) x e i]
def nA(rc:RcF)(n:Nd)(m:List Int):Nat ->List Tr ->Bool
 |_,[]=>true
 |i,t::r=>rc t (m++List.replicate (kb n i).toNat 0) && nA rc n m (i+1) r
theorem Gi(rc:RcF){n:Nd}(a:n.op=12)(m:List Int):∀(l:List Tr) (i:Nat),i%2=0 ->l.length%2=0 ->lU rc m (m++List.replicate n.b.toNat 0) l=nA rc n m i l
 |[],_,_,_=>rfl
 |[_],_,_,h=>by simp at h
 |t::b::r,i,h,hl=>by
  have d:kb n i=0:=by unfold kb;rw[KX a,KY Uo]
  have e:kb n (i+1)=n.b:=by unfold kb;rw[KX a,KX Uo]
  simp only[lU,nA];rw[Gi rc a m r (i+1+1) Uo (by simp only[JV]at hl;omega),d,e];simp[Bool.and_assoc]
def mh(x:Tr)(m:List Int):Bool:=decide ((headT x).n.op=1) && decide (100<=bS m (headT x).n.a)
section
variable{B:ak}{pl:List Int}{x:Tr}{m:List Int}
theorem Nt(b:Wf x)(h:mh x m=true):dQ B pl x m=((decide (pl.getD (bS m (headT x).n.a-100).toNat 0<(argsT x).length) && jO (fK x (pl.getD (bS m (headT x).n.a-100).toNat 0)) m) && (argsT x).all (λy=>dQ B pl y m)):=by
 unfold mh at h;simp only[Bool.and_eq_true,decide_eq_true_eq]at h;rw[s5 B pl b];unfold kn;rw[KX h.1,KY Uo,Bool.and_comm]
theorem Nu(a:Wf x)(h:x.n.op=11):dQ B pl x m=lT B (dQ B pl) x m:=by
 obtain⟨b,d⟩:=ij (x:=x) Uo;rw[s5 B pl a,b,d];unfold kn;rw[KY Uo,KX h]
 rfl
theorem Nv(j:Wf x)(h:mh x m=false)(l:x.n.op≠11):dQ B pl x m=nA (dQ B pl) x.n m 0 (kidsT x):=by
 by_cases o:x.n.op=6
 ·obtain⟨f,a,w,hf,D,s,v,E⟩:=nu j o
  have t:kb x.n 0=0:=by simp[kb,bh,o]
  have u:kb x.n 1=0:=by simp[kb,bh,o]
  rw[w];simp only[nA];rw[t,u,s5 B pl j,s5 B pl hf,v,s,List.all_append];have z:kn B pl (dQ B pl) x (headT f) m=kn B pl (dQ B pl) f (headT f) m:=by
   unfold kn
   by_cases d:(headT f).n.op=1
   ·have:bS m (headT f).n.a<100:=by
     unfold mh at h;rw[s,KU d,Bool.true_and,decide_eq_false_iff_not]at h;omega
    rw[KX d,KX d,KX this,KX this]
   ·rw[KY d,KY d]
  rw[z];simp
  generalize (argsT f).all _=p
  generalize kn _ _ _ _ _ _=q
  generalize dQ B pl a m=r
  cases p<;>cases q<;>cases r<;>rfl
 obtain⟨s,v⟩:=ij o;rw[s5 B pl j,s,v];unfold kn;rw[List.all_nil,Bool.true_and]
 by_cases d:x.n.op=1
 ·have:bS m x.n.a<100:=by
   unfold mh at h;rw[s,KU d,Bool.true_and,decide_eq_false_iff_not]at h;omega
  rw[KX d,KX this,(wj j d).2]
  rfl
 rw[KY d,KY l]
 by_cases i:x.n.op=4 \/x.n.op=5
 ·obtain⟨e,_⟩:=iI j i
  have t:kb x.n 0=0:=by unfold kb;rw[KY Uo];simp[bh]
  have u:kb x.n 1=1:=by unfold kb;rw[KY Uo];simp[bh];omega
  rw[KX i,e];simp only[nA];rw[t,u];simp
 rw[KY i]
 by_cases k:x.n.op=7
 ·obtain⟨e,_⟩:=qx j.ok k
  have t:kb x.n 0=0:=by simp[kb,bh,k]
  have u:kb x.n 1=0:=by simp[kb,bh,k]
  have C:kb x.n 2=1:=by simp[kb,bh,k]
  rw[KX k,e];simp only[nA];rw[t,u,C];simp[Bool.and_assoc]
 rw[KY k]
 by_cases b:x.n.op=12
 ·rw[KX b]
  exact Gi _ b m _ 0 rfl (by have:=fA j.ok b;omega)
 rw[KY b];have w:=(qt j.ok).1;have:kidsT x=[]:=by
  refine List.length_eq_zero_iff.1 ?_;have F:cA x.n=0:=by simp[cA,i,o,k,l,b]
  omega
 rw[this]
 rfl
end
end Go.Q
namespace Go.Wx
section
variable{P:Program}{τ:Tau}{n:Nat}{A:AS}{K:Exit ->AS ->Prop}{c:Operand}{x y:Code}
theorem AP(j:VCode P n x A K)(h:rd A c (λa=>a= .c (.p (.bool true))):=by rfl):VCode P n (.cond c x y) A K:=by
 refine VCode.mk λk X l s w d=>?_;obtain⟨a,o,q,r⟩:=bM h;subst r;have e:=j.run k X l s w d;obtain⟨C,ρ,b⟩:=d;obtain⟨_,v,t,hr⟩:=b.op (Agr.rfl' A [c]) Ud o q;have hr:RV C (.bool true) v:=hr;cases hr;unfold EvCode at e ⊢;exact λa i=>wp_cond_true (i.eval t) (e a i)
theorem AQ(j:VCode P n y A K)(h:rd A c (λa=>a= .c (.p (.bool false))):=by rfl):VCode P n (.cond c x y) A K:=by
 refine VCode.mk λk X l s w d=>?_;obtain⟨a,o,q,r⟩:=bM h;subst r;have e:=j.run k X l s w d;obtain⟨C,ρ,b⟩:=d;obtain⟨_,v,t,hr⟩:=b.op (Agr.rfl' A [c]) Ud o q;have hr:RV C (.bool false) v:=hr;cases hr;unfold EvCode at e ⊢;exact λa i=>wp_cond_false (i.eval t) (e a i)
end
end Go.Wx
namespace Go.Q
theorem s6(l:List Tr):∀x∈l,(trP x).length=6/\∀q∈trP x,q.one=true:=λx _=>by
 rw[kR];refine⟨rfl,λq a=>?_⟩;simp only[fL,JJ,JZ,or_false]at a;rcases a with rfl|rfl|rfl|rfl|rfl|rfl<;>rfl
theorem AR{l:List Tr}{i:Nat}{k:List PV ->Prop}{y:Tr}(a:l[i]?=some y)(b:k (fc y)):pS (l.map trP) i k:=xK (fc y) (by rw[JX,a];exact KG some (kR y)) b
def Gj(B:ak)(pl:List Int)(R:Nat):Prop:=∀(y:Tr) (N:Int) (m:List Int),Ft (QB B) N y ->(row y).length<R ->Mk pl m ->m.length+4*(row y).length<=100000 ->VC prog 163 [bw B,bE y,ny m,.sl (pl.map iP)] (.bool (dQ B pl y m))
theorem Gk{α:Type}{p:α ->Bool}{l:List α}{i:Nat}{y:α}(h:l[i]?=some y):(l.drop i).all p=(p y && (l.drop (i+1)).all p):=by
 have a:=aM h;rw[List.drop_eq_getElem_cons a,List.all_cons];rw[List.getElem?_eq_getElem a]at h;rw[JB h]
theorem Nw{s:Tr}(j:Wf s)(m:List Int):pi s m=(jO s m||(decide (s.n.op=1) && decide (bS m s.n.a=1))):=by
 unfold pi jO
 by_cases e:s.n.op=6
 ·obtain⟨f,a,k,hf,l,i,d,o⟩:=nu j e
  rw[KH (show ¬ s.n.op=1 by omega),KH (show ¬ (argsT s).length=0 by rw[d];simp)]
  by_cases b:(headT s).n.op=1
  ·simp[b]
  ·simp[b]
 ·obtain⟨i,d⟩:=ij e
  rw[i,d]
  by_cases b:s.n.op=1
  ·simp[b]
  ·simp[b]
section
variable{B:ak}{pl:List Int}(hB:GoodB B)(hpl:∀p∈pl,0<=p/\p<=15)
include hB hpl
theorem Nx{x:Tr}{N:Int}(E:Ft (QB B) N x)(H:Gj B pl (row x).length){m:List Int}(hM:Mk pl m)(b5:m.length+4*(row x).length<=100000):VC prog 163 [bw B,bE x,ny m,.sl (pl.map iP)] (.bool (dQ B pl x m)):=by
 have v:=aC E;have b4:=E.len;have b6:=aZ x;refine cR 218 [.tmp 8] τok func163 ?_;refine aD<|aD<|aD<|dC 10 1000 145 6 rfl rfl<|eo τok (σ:=Unit) [(2,_),(3,_),(4,_),(5,_)] [(4,_),(5,_)] (λ_=>[(9,.c (.ptr 9 0)),(10,.c (.row 1000))]) (λ_=>[(9,.st 0 145 ((fc (headT x)).map .p)),(1000,.rw 145 6 ((argsT x).map trP))]) (λ_=>True) ?_ ?_
 ·refine aB τok (σ:=Tr×List Tr) [(2,_),(3,_),(4,_),(5,_),(9,_)] [(4,_),(5,_)] (λq=>[(10,.c (.row 1000))]) (λq=>[(9,.st 0 145 ((fc q.1).map .p)),(1000,.rw 145 6 (q.2.map trP))]) (λq=>Wf q.1/\headT q.1=headT x/\argsT q.1++q.2=argsT x) (λq=>(row q.1).length) (x,[]) ⟨v,rfl,Ud⟩ ?_
  rintro⟨z,ar⟩ ⟨g1,I,F⟩;simp only at g1 I F;have b7:=oG v 4096 v.len;have hl:=KG List.length F;rw[JK]at hl;refine aj<|af (λg=>?_) (λg=>?_)
  ·obtain⟨f,a,V,hf,ha,e1,e2,b8⟩:=nu g1 g
   refine vt 1 (by rw[V];rfl) ?_;refine va ?_ (s6 _);refine vt 0 (by rw[V];rfl) ?_;exact aw (f,a::ar) ⟨hf,by rw[<- e1];exact I,by rw[<- F,e2];simp⟩ (sw 1000 32) (y':=⟨rfl,KG (λl=>some (SE.rw _ _ l)) (by rw[List.map_cons,kR a];rfl),trivial⟩)
  ·obtain⟨e1,e2⟩:=ij g
   rw[e1]at I;rw[e2,List.nil_append]at F;subst I F;exact aw () trivial
 rintro _ _;obtain⟨⟨h1,h2,h3⟩,h4⟩:=pr _ v (KJ _);refine eo τok (σ:=Unit) [(2,_),(3,_),(4,_),(5,_)] [(4,_),(5,_)] (λ_=>[]) (λ_=>[]) (λ_=>mh x m=false) ?_ ?_
 ·have a3:=oG v 4096 v.len
  have eA:=au trP (argsT x);refine af (λg=>?_) (λg=>?_)
  ·have X:=wj h1 g
   refine ae (we m Uo X.1) ?_;obtain⟨c1,c2⟩:=Nq hM (headT x).n.a;refine af (λI=>?_) (λI=>?_)
   ·have F:=c1.1 I
    obtain⟨c3,j,hj,c4⟩:=c2 F;obtain⟨p,hp,_⟩:=ay (l:=pl) (k:=j) hj;have b9:=hpl p (JQ hp);have L:mh x m=true:=by unfold mh;rw[KU g,KU F];rfl
    have r:=Nt (B:=B) (pl:=pl) v L;have a4:pl.getD (bS m (headT x).n.a-100).toNat 0=p:=by
     rw[show (bS m (headT x).n.a-100).toNat=j by omega,QK,hp]
     rfl
    rw[a4]at r;refine ae (we m Uo X.1) ?_;refine vm (p:=iP) j hp ?_ Uo;refine af (λg5=>?_) (λg5=>?_)
    ·exact aE (h3:=by rw[r,KH (show ¬ p<((argsT x).length:Int) by omega)];rfl)
    rw[KU (show p<((argsT x).length:Int) by omega),Bool.true_and]at r;obtain⟨y,hy,_⟩:=ay (l:=argsT x) (k:=p.toNat);have eD:fK x p=y:=by unfold fK;rw[QK,hy];rfl
    rw[eD]at r;refine vt p.toNat hy ?_;refine AR hy<|bV (Gd (h4 y (JQ hy)).1 hM Uo) (λM=>?_) (λM=>?_)
    ·rw[M,Bool.true_and]at r
     refine aB τok (σ:=Nat) [(2,_),(3,_),(4,_),(10,_)] [(4,_),(1000,_)] (λi=>[(12,vI i)]) (λ_=>[]) (λi=>i<=(argsT x).length/\dQ B pl x m=((argsT x).drop i).all (λy=>dQ B pl y m)) (λi=>(argsT x).length-i) 0 ⟨KV _,r⟩ ?_;rintro i ⟨O,d⟩;refine aj<|af (λY=>?_) (λY=>?_)
     ·obtain⟨z,W,_⟩:=ay (l:=argsT x) (k:=i)
      rw[Gk W]at d;have S:=JQ W;refine vt i W ?_;refine AR W<|bV (H z N m (E.args z S) (h4 z S).2 hM (by have:=(h4 z S).2;omega)) (λo=>?_) (λo=>?_)
      ·refine vk ?_
       refine vi ?_;exact aw (i+1) ⟨Uo,by rw[d,o,Bool.true_and]⟩
      ·refine vk ?_
       exact aE (h3:=by rw[d,o];rfl)
     ·rw[JY Uo]at d
      exact aE (h3:=by rw[d];rfl)
    ·exact aE (h3:=by rw[r,M];rfl)
   ·exact aw () (by unfold mh;rw[KU g,KH Uo];rfl)
  ·exact aw () (by unfold mh;rw[KH g];rfl)
 rintro _ a5;refine VCode.seq<|aD<|af (λg=>?_) (λg=>?_)
 ·refine AP ?_
  have V:=hH v.ok g;have eK:=au trP (kidsT x);have kl:((kidsT x).length:Int)=2+x.n.b:=by rw[V.1];exact V.2.1
  obtain⟨a6,w0,l0⟩:=cq v (k:=0);obtain⟨Z,w1,l1⟩:=cq v (k:=1);have f0:=E.kidD (k:=0) Uo;have f1:=E.kidD (k:=1) Uo;have r:=Nu (B:=B) (pl:=pl) (m:=m) v g;unfold lT at r;have hq:=E.node';have ha:bF B B.ents.length x.n.a=true:=by
   simp[QB,cw,bg,g]at hq;exact hq
  refine aD<|vt 0 a6 ?_;refine bV (H _ _ m f0.2 l0 hM Uo) (λs0=>?_) (λs0=>?_)
  ·rw[s0,Bool.true_and]at r
   refine vt 1 Z ?_;refine bV (H _ _ m f1.2 l1 hM Uo) (λM=>?_) (λM=>?_)
   ·rw[M,Bool.true_and]at r
    refine vk ?_;refine aD<|vt 1 Z ?_;refine eo τok (σ:=Bool) [(2,_),(3,_),(4,_),(5,_),(13,_)] [(4,_),(5,_),(13,_)] (λb=>[(14,vP (.bool b))]) (λ_=>[]) (λb=>b=pi (kidD x 1) m) ?_ ?_
    ·have ed:pi (kidD x 1) m=(jO (kidD x 1) m||(decide ((kidD x 1).n.op=1) && decide (bS m (kidD x 1).n.a=1))):=Nw w1 m
     refine bV (Gd w1 hM Uo) (λo=>?_) (λo=>?_)
     ·exact aw true (by rw[ed,o];rfl)
     ·refine af (λO=>?_) (λO=>?_)
      ·refine ae (we m Uo (wj w1 O).1) ?_
       refine af (λd=>?_) (λd=>?_)
       ·have d:=(Gc hM _).1 d
        exact aw true (by rw[ed,KU O,KU d];simp)
       ·have d:¬ bS m (kidD x 1).n.a=1:=λh=>d ((Gc hM _).2 h)
        exact aw false (by rw[ed,o,KH d];simp)
      ·exact aw false (by rw[ed,o,KH O];rfl)
    rintro C a7;rw[<- a7]at r;obtain⟨a,ea⟩:∃a,x.n.a=a:=⟨_,rfl⟩
    rw[ea]at ha r;obtain⟨ei,en,s',ps,qi,rfl,_,a8,a9,hF⟩:=hB.fam ha (KJ _);have eC:=au cd en.ctors;refine aD<|vm ei a8 ?_ Uo;refine aD ?_;have a':∀k,k<(kidsT x).length-2 ->∃t,(kidsT x)[2+k]?=some t/\(kidsT x).drop (2+k)=t::(kidsT x).drop (2+(k+1)):=λk V=>ay;refine aB τok (σ:=Nat) [(2,_),(3,_),(4,_),(5,_),(14,_),(15,_)] [(4,_),(5,_)] (λk=>[(16,vI k)]) (λ_=>[]) (λk=>k<=(kidsT x).length-2/\dQ B pl x m=nh B (dQ B pl) (ei:Int) C m k ((kidsT x).drop (2+k))) (λk=>(kidsT x).length-2-k) 0 ⟨KV _,r⟩ ?_;rintro k ⟨O,d⟩;refine aD<|af (λY=>?_) (λY=>?_)
    ·obtain⟨t,ht,hd⟩:=a' k Uo
     rw[hd]at d;simp only[nh]at d;obtain⟨cnt,U⟩:∃c:Nat,(if (C && decide (k<(aR B (ei:Int)).ctors.length))=true then ((aR B (ei:Int)).ctors.getD k default).args.length else 0)=c:=⟨_,rfl⟩
     rw[U]at d;rw[a9]at U;refine VCode.seq (VCode.blk<|aD<|eo τok (σ:=Unit) [(2,_),(3,_),(4,_),(5,_),(14,_),(15,_),(16,_)] [(4,_),(5,_)] (λ_=>[(17,vI cnt)]) (λ_=>[]) (λ_=>cnt<=16) ?_ ?_)
     ·cases C with
      |false=>exact aw () (by rw[<- U];simp) (x:=⟨KG (λz=>some (vI z)) (by rw[<- U];rfl),trivial⟩)
      |true=>
       refine af (λk4=>?_) (λk4=>?_)
       ·obtain⟨c,hc,_⟩:=ay (l:=en.ctors) (k:=k)
        obtain⟨ga,go,hC⟩:=hF.ct k c hc;have l4:=KG List.length hC.args;rw[KF]at l4;have b':=hC.la;have e5:c.args.length=cnt:=by
         rw[<- U,KX Uk,QK,hc]
         rfl
        refine vm k hc ?_;exact aw () Uo (x:=⟨KG (λz=>some (vI z)) (by rw[KF,e5]),trivial⟩)
       ·exact aw () (by rw[<- U,KY Uk];omega) (x:=⟨KG (λz=>some (vI z)) (by rw[<- U,KY Uk];rfl),trivial⟩)
     rintro _ a0;obtain⟨D,wi,li⟩:=cq v (k:=2+k);have fi:=(E.kidD (k:=2+k) Uo).2;rw[ht]at D;obtain rfl:=JB D;refine aj<|vi ?_;refine vt (2+k) ht ?_;refine aB τok (σ:=Nat×Tr×List Int×Int) [(2,_),(3,_),(4,_),(5,_),(14,_),(15,_),(16,_),(18,_)] [(4,_),(5,_)] (λq=>[(17,vI q.1),(19,vP (ny q.2.2.1))]) (λq=>[(18,.st 0 145 ((fc q.2.1).map .p))]) (λq=>q.1<=16/\Ft (QB B) q.2.2.2 q.2.1/\(row q.2.1).length<(row x).length/\Mk pl q.2.2.1/\q.2.2.1.length+4*(row q.2.1).length<=100000/\gN (dQ B pl) q.1 q.2.1 q.2.2.1=gN (dQ B pl) cnt (kidD x (2+k)) m) (λq=>(row q.2.1).length) (cnt,kidD x (2+k),m,N+kb x.n (2+k)) ⟨a0,fi,li,hM,Us,rfl⟩ ?_;rintro⟨c,u,mm,NN⟩ ⟨r1,r2,r3,r4,r5,w⟩;simp only at r1 r2 r3 r4 r5 w;have c0:=aZ u;have wu:=aC r2;refine aj<|af (λk4=>?_) (λk4=>?_)
     ·simp only at k4
      obtain⟨c',rfl⟩:∃c',c=c'+1:=⟨c-1,Uo⟩
      simp only[gN]at w;refine af (λk5=>?_) (λk5=>?_)
      ·obtain⟨e,v0,v1,l0,l1⟩:=iI wu (.inr k5)
       have g0:=(r2.kidD (k:=0) (by rw[e];simp)).2;have g1:=(r2.kidD (k:=1) (by rw[e];simp)).2;rw[KX k5]at w;refine vt 0 (by rw[e];rfl) ?_;refine bV (H _ _ mm g0 Uo r4 Uo) (λo=>?_) (λo=>?_)
       ·rw[o,Bool.true_and]at w
        refine vk ?_;refine ae (wg mm Uo 1 Uo 2) ?_;refine vt 1 (by rw[e];rfl) ?_;refine vi ?_;exact aw (c',kidD u 1,mm++[2],_) ⟨Uo,g1,Us,r4.snoc Uo,Uk,w⟩ (x:=⟨KG (λz=>some (vI z)) Us,rfl,trivial⟩)
       ·refine vk ?_
        exact aE (h3:=by rw[d,<- w,o];rfl)
      ·rw[KY k5]at w
       refine bV (H _ _ mm r2 r3 r4 r5) (λo=>?_) (λo=>?_)
       ·refine aj ?_
        refine vi ?_;exact aw (k+1) ⟨Uo,by rw[d,<- w,o,Bool.true_and]⟩
       ·exact aE (h3:=by rw[d,<- w,o];rfl)
     ·simp only at k4
      obtain rfl:c=0:=Uo
      simp only[gN]at w;refine bV (H _ _ mm r2 r3 r4 r5) (λo=>?_) (λo=>?_)
      ·refine aj ?_
       refine vi ?_;exact aw (k+1) ⟨Uo,by rw[d,<- w,o,Bool.true_and]⟩
      ·exact aE (h3:=by rw[d,<- w,o];rfl)
    ·rw[JY Uo]at d
     exact aj<|aE (h3:=by rw[d];rfl)
   ·refine vk ?_
    exact aE (h3:=by rw[r,M];rfl)
  ·refine vk ?_
   exact aE (h3:=by rw[r,s0];rfl)
 ·refine AQ ?_
  refine aj ?_;show VCode _ _ _ _ _;have r:=Nv (B:=B) (pl:=pl) v a5 g;have eK:=au trP (kidsT x);have c5:=iy v.ok;refine aj<|aB τok (σ:=Nat) [(2,_),(3,_),(4,_),(5,_)] [(4,_),(5,_)] (λi=>[(20,vI i)]) (λ_=>[]) (λi=>i<=(kidsT x).length/\dQ B pl x m=nA (dQ B pl) x.n m i ((kidsT x).drop i)) (λi=>(kidsT x).length-i) 0 ⟨KV _,r⟩ ?_;rintro i ⟨O,d⟩;refine aj<|af (λY=>?_) (λY=>?_)
  ·have hi:i<(kidsT x).length:=Uo
   obtain⟨D,wi,li⟩:=cq v hi;have fi:=(E.kidD hi).2;obtain⟨b1,b2⟩:=oE v.ok i;obtain⟨q,hq⟩:∃q:Nat,kb x.n i=(q:Int):=⟨(kb x.n i).toNat,Uo⟩
   have a1:=La x.n i Uo;rw[hq]at a1;have b0:=wg m Uo q Uo 0;have W:=ay hi;obtain⟨z,a2,b3⟩:=W;rw[D]at a2;obtain rfl:=JB a2;rw[b3]at d;simp only[nA]at d;rw[hq,Int.toNat_natCast]at d;refine vt i D ?_;refine ae a1 ?_;refine ae b0 ?_;refine bV (H _ _ _ fi li (hM.zeros q) Uk) (λs=>?_) (λs=>?_)
   ·refine vk ?_
    refine vi ?_;exact aw (i+1) ⟨Uo,by rw[d,s,Bool.true_and]⟩
   ·refine vk ?_
    exact aE (h3:=by rw[d,s];rfl)
  ·rw[JY Uo]at d
   exact aE (h3:=by rw[d];rfl)
theorem Fs':∀R,Gj B pl R
 |0=>λy N m _ h=>Uo
 |R+1=>λy N m e hl hM b=>Nx hB hpl e (λz i m' j k d a=>Fs' R z i m' j Uo d a) hM b
end
end Go.Q
namespace Go.Wx
section
variable{P:Program}{τ:Tau}{n:Nat}{A:AS}{K:Exit ->AS ->Prop}{c:Code}
def AC.nzc:AC ->AC
 | .p x=>.p x.nz
 |c=>c
theorem Ny(j:Nat){T:Nat}{i:Nat}{cs:List AC}(h:VCode P n c (A.upd [] [(j,.st i T (cs.map AC.nzc))]) K)(k:look A.m j=some (.st i T cs):=by rfl):VCode P n c A K:=by
 refine h.of λU X V s w ⟨C,ρ,l⟩=>?_;obtain⟨b,v,D,E,W,F,H⟩:=l.ent j _ k;exact⟨C,_,l.modSt (wr:=[]) (cs':=cs.map AC.nzc) (us':=v) k D ((Kp.refl [] w).weak Ud) E (by simpa using F) (λq c u d I=>by
  rw[JX]at d;cases e:cs[q]? with
  |none=>rw[e]at d;cases d
  |some o=>
   rw[e]at d;obtain rfl:=JB d;obtain⟨L,r⟩:=H q o u e I;refine⟨L,λM=>?_⟩;cases o with
   |p x=>exact RV.nz (r λz O=>by cases O)
   |_=>exact r M) (s':=s) (λt a S=>by cases S) (λ_ _=>rfl)⟩
end
end Go.Wx
namespace Go.Q
theorem Gl{rc rc':RcF}(h:∀y m,Wf y ->rc y m=rc' y m):∀(n:Nat) (t:Tr) (m:List Int),Wf t ->iD rc n t m=iD rc' n t m
 |0,t,m,a=>h t m a
 |n+1,t,m,a=>by
  simp only[iD]
  by_cases b:t.n.op=5
  ·obtain⟨_,w0,d,e,i⟩:=iI a (.inr b)
   rw[h _ _ w0,Gl h n _ _ d]
  ·rw[KH b]
   rfl
def jR(i:Nat):List Int:=(List.range i).map λk:Nat=>100+(k:Int)
theorem Nz(n:Nat):ib n n=jR n:=by
 unfold ib jR;refine List.map_congr_left λi a=>?_;rw[KX (List.mem_range.1 a)]
theorem NA{pl:List Int}{n:Nat}(h:pl.length=n):Mk pl (jR n):=λv a=>by
 obtain⟨k,b,rfl⟩:=List.mem_map.1 a;exact .inr (.inr (.inr ⟨k,by have:=List.mem_range.1 b;omega,rfl⟩))
theorem AT(i:Nat):rM (jR (i+1))=(i:Int)::rM (jR i):=by
 unfold jR;rw[List.range_succ,KB];show rM (_++[100+(i:Int)])=_;rw[Nn];unfold je;rw[KY Uo,KY Uo,KY Uo];rw[show 100+(i:Int)-100=i by omega]
theorem Gm(B:ak)(x:Tr):∀(n i:Nat),decide (lW B x n i=0)=(List.range n).all λk=>pj B x (i+k)
 |0,i=>rfl
 |n+1,i=>by
  rw[List.range_succ_eq_map,List.all_cons,List.all_map,Nat.add_zero];cases a:pj B x i with
  |false=>
   have e:lW B x (n+1) i=18:=KY (by rw[a];decide);rw[e]
   rfl
  |true=>
   have e:lW B x (n+1) i=lW B x n (i+1):=KX a;rw[e,Gm B x n (i+1),Bool.true_and];exact wl λk _=>by simp[Function.comp,Nat.add_comm,Nat.add_left_comm,Nat.add_assoc]
def s7(B:ak)(x:Tr)(i:Nat):Bool:=dB' ((placesM x).getD i 0).toNat (kidD x (2*i)) && iD (dQ B (placesM x)) (((placesM x).getD i 0).toNat+1) (kidD x (2*i+1)) (jR x.n.b.toNat)
theorem NB(B:ak){x:Tr}{i:Nat}(h:Wf (kidD x (2*i+1))):pj B x i=s7 B x i:=by
 unfold pj s7;rw[Nz,Gl (λy m a=>AO B (placesM x) 4096 (row y).length y m a a.len (KJ _)) _ _ _ h]
 rfl
def nB(B:ak)(x:Tr)(i:Nat):Bool:=((List.range x.n.b.toNat).drop i).all (s7 B x)
theorem NC(B:ak){x:Tr}{i:Nat}(h:i<x.n.b.toNat):nB B x i=(s7 B x i && nB B x (i+1)):=by
 unfold nB;exact Gk (List.getElem?_range h)
theorem ND(B:ak){x:Tr}(b:Wf x)(a:x.n.op=12):decide (gw B x=0)=nB B x 0:=by
 unfold gw nB;rw[Gm,List.drop_zero];refine wl λk d=>?_;have d:=List.mem_range.1 d;have hf:=fA b.ok a;rw[KW,NB B (cq b).2.1]
section
variable{B:ak}(hB:GoodB B)
include hB
theorem NE{x:Tr}{N:Int}(F:Ft (QB B) N x)(b:x.n.op=12):VC prog 105 [bw B,bE x] (.bool (decide (gw B x=0))):=by
 have s:=aC F;have X:=F.len;rw[ND B s b]
 generalize H:nB B x 0=R0
 have hf:=fA s.ok b;have I:=iy s.ok;have L:funsT x=x.ks.map (·.n):=by unfold funsT;rw[KX b]
 have a0:(x.ks.length:Int)=x.n.b:=(dp s.ok b).1;have a3:(placesM x).length=x.ks.length:=by simp[placesM]
 have hpl:∀p∈placesM x,0<=p/\p<=15:=λp t=>by
  obtain⟨k,E⟩:=JH t;have I:=aM E;obtain⟨f,M,_,_,_,_,_,a1,a2,_⟩:=vG s.ok b (i:=k) Uo;unfold placesM at E;rw[JX,M]at E;obtain rfl:=JB E;exact⟨a1,a2⟩
 refine cR 102 [.tmp 4] τok func105 ?_;refine aj<|dC 5 1000 3 1 rfl rfl<|dC 6 1001 3 1 rfl rfl<|aB τok (σ:=Nat) [(2,_),(3,_)] [(2,_),(3,_)] (λi=>[(5,.c (.row 1000)),(6,.c (.row 1001)),(7,vI i)]) (λi=>[(1000,.rw 3 1 (((placesM x).take i).map iP)),(1001,.rw 3 1 ((rM (jR i)).map iP))]) (λi=>i<=x.ks.length) (λi=>x.ks.length-i) 0 (KV _) ?_;rintro i Y;have e1:=au iP ((placesM x).take i);have e2:=au iP (rM (jR i));have e3:(rM (jR i)).length=i:=by rw[wd];simp[jR]
 have e4:((placesM x).take i).length=i:=by rw[VJ];omega
 refine aj<|af (λg=>?_) (λg=>?_)
 ·obtain⟨f,C,_⟩:=ay (l:=x.ks) (k:=i)
  refine vm i (x:=f.n) (by rw[L,JX,C];rfl) ?_;refine bi ?_;refine va (p:=iP) ?_ (Ga _);refine vi ?_;exact aw (i+1) (by show i+1<=_;omega) (λk=>sw 1000 28 (sw 1001 32 k)) (y':=⟨KG (λl=>some (SE.rw _ _ l)) (by
   rw[QQ,KB];unfold placesM;rw[JX,C]
   rfl),KG (λl=>some (SE.rw _ _ l)) (by rw[AT];rfl),trivial⟩)
 obtain rfl:i=x.ks.length:=Uo
 have et:(placesM x).take x.ks.length=placesM x:=JG Uo;rw[et]at e1 e4 ⊢;have hn:x.n.b.toNat=x.ks.length:=Uo
 have d:=Fs' (B:=B) (pl:=placesM x) hB hpl;refine nV 5 1000 ?_;refine nV 6 1001 ?_;refine aB τok (σ:=Nat) [(2,_),(3,_),(5,_),(6,_)] [(2,_),(3,_)] (λi=>[(8,vI i)]) (λ_=>[]) (λi=>i<=x.ks.length/\R0=nB B x i) (λi=>x.ks.length-i) 0 ⟨KV _,H.symm⟩ ?_
 clear g Y
 rintro i ⟨Y,o⟩;refine aj<|af (λg=>?_) (λg=>?_)
 ·rw[NC B Uo]at o
  obtain⟨p,t,_⟩:=ay (l:=placesM x) (k:=i);have a4:=hpl p (JQ t);obtain⟨q,rfl⟩:∃q:Nat,p=(q:Int):=⟨p.toNat,Uo⟩
  have O:((placesM x).getD i 0).toNat=q:=by rw[QK,t];rfl
  unfold s7 at o;rw[O,hn]at o;obtain⟨h0,w0,l0⟩:=cq s (k:=2*i);obtain⟨h1,w1,l1⟩:=cq s (k:=2*i+1);have f1:=(F.kidD (k:=2*i+1) Uo).2;refine vi ?_;refine vt (2*i) h0 ?_;refine vm (p:=iP) i t ?_;refine bV (Nr w0 q Uo) (λS=>?_) (λS=>?_)
  ·rw[S,Bool.true_and]at o
   generalize U:iD (dQ B (placesM x)) (q+1) (kidD x (2*i+1)) (jR x.ks.length)=BD at o
   refine vk ?_;refine vi ?_;refine vi ?_;refine vt (2*i+1) h1 ?_;refine aB τok (σ:=Nat×Tr×List Int×Int) [(2,_),(3,_),(5,_),(6,_),(8,_),(9,_)] [(2,_),(3,_)] (λz=>[(10,vP (ny z.2.2.1)),(11,vI z.1)]) (λz=>[(9,.st 0 145 ((fc z.2.1).map .p))]) (λz=>z.1<=q+1/\Ft (QB B) z.2.2.2 z.2.1/\Mk (placesM x) z.2.2.1/\z.2.2.1.length+4*(row z.2.1).length<=100000/\iD (dQ B (placesM x)) (q+1-z.1) z.2.1 z.2.2.1=BD) (λz=>(row z.2.1).length) (0,kidD x (2*i+1),jR x.ks.length,N+kb x.n (2*i+1)) ⟨KV _,f1,NA Uo,by rw[wd]at e3;simp only;omega,U⟩ ?_;rintro⟨j,u,w,NN⟩ ⟨r1,r2,D,Z,a⟩;simp only at r1 r2 D Z a;have wu:=aC r2;refine aj<|vm (p:=iP) i t ?_;refine af (λV=>?_) (λV=>?_)
   ·simp only at V
    obtain⟨c,hc⟩:∃c,q+1-j=c+1:=⟨q-j,Uo⟩
    rw[hc]at a;simp only[iD]at a;refine af (λr=>?_) (λr=>?_)
    ·refine vk ?_
     have r:¬ u.n.op=5:=r;exact aE (h3:=by rw[o,<- a,KH r];rfl)
    have r:u.n.op=5:=Classical.not_not.1 r;rw[KU r,Bool.true_and]at a;obtain⟨e,v0,v1,l0,l1⟩:=iI wu (.inr r);have y0:=(r2.kidD (k:=0) (by rw[e];simp)).2;have y1:=(r2.kidD (k:=1) (by rw[e];simp)).2;refine vt 0 (by rw[e];rfl) ?_;refine bV (d _ _ _ w y0 (Nat.lt_succ_self _) D Uo) (λv=>?_) (λv=>?_)
    ·rw[v,Bool.true_and]at a
     refine vk ?_;refine vm (p:=iP) i t ?_;refine af (λW=>?_) (λW=>?_)
     ·simp only at W
      rw[KX Uo]at a;refine ae (wg w Uo 1 Uo 1) ?_;refine vt 1 (by rw[e];rfl) ?_;refine vi ?_;exact aw (j+1,kidD u 1,w++[1],_) ⟨Us,y1,D.snoc Uo,Uk,by rw[<- a,show q+1-(j+1)=c by omega]⟩
     ·simp only at W
      rw[KY Uo]at a;refine ae (wg w Uo 1 Uo 0) ?_;refine vt 1 (by rw[e];rfl) ?_;refine vi ?_;exact aw (j+1,kidD u 1,w++[0],_) ⟨Us,y1,D.snoc Uo,Uk,by rw[<- a,show q+1-(j+1)=c by omega]⟩
    ·refine vk ?_
     exact aE (h3:=by rw[o,<- a,v];rfl)
   ·simp only at V
    rw[show q+1-j=0 by omega]at a;simp only[iD]at a;refine bV (d _ _ _ w r2 (Nat.lt_succ_self _) D Z) (λv=>?_) (λv=>?_)
    ·refine vi ?_
     exact aw (i+1) ⟨Uo,by rw[o,<- a,v,Bool.true_and]⟩
    ·exact aE (h3:=by rw[o,<- a,v];rfl)
  ·refine vk ?_
   exact aE (h3:=by rw[o,S];rfl)
 ·have e0:nB B x i=true:=by
   unfold nB;rw[JY Uk]
   rfl
  exact aE (h3:=by rw[o,e0];rfl)
end
section
variable{B:ak}{N:Int}
theorem AU(n:Nat):List.replicate n [PV.int .i64 0]=(ib n 0).map iP:=by
 apply List.ext_getElem
 ·simp[ib]
 ·intro i a b
  simp[ib,iP]
theorem NF(hB:GoodB B){x:Tr}(s:Ft (QB B) N x)(o:x.n.op=12):VC prog 234 [bw B,ah (row x)] (pI (gw B x)):=by
 generalize d:gw B x=e;unfold gw at d;have wx:=aC s;have hl:=dp s.ok o;have a0:=s.len;obtain⟨b,w⟩:∃b:Nat,x.n.b=(b:Int):=⟨x.n.b.toNat,Uo⟩
 have t:x.n.b.toNat=b:=Uo
 rw[t]at d;have z:(placesM x).length=b:=by simp[placesM];omega
 have hpl:∀p∈placesM x,0<=p/\p<=15:=λp v=>by
  obtain⟨k,C⟩:=JH v;have a5:=aM C;obtain⟨f,L,_,_,_,_,_,a1,a2,_⟩:=vG s.ok o (i:=k) Uo;unfold placesM at C;rw[JX,L]at C;obtain rfl:=JB C;exact⟨a1,a2⟩
 have a6:(lV x).length=b:=by simp[lV];omega
 have a7:(jr x).length=b:=by simp[jr];omega
 have D:∀j,(ib b j).length=b:=λj=>by simp[ib]
 refine cR 96 [.tmp 4] τok func234 ?_;refine aj<|aI 0 (aL wx) ?_;refine CU b ?_ w w;refine lF 6 5 1000 3 1 rfl rfl rfl UO<|dC 8 1002 29 1 rfl rfl<|dC 9 1003 29 1 rfl rfl<|aB τok (σ:=Nat) [(1,_),(6,_),(23,_)] [] (λi=>[(7,.c (.row 1001)),(8,.c (.row 1002)),(9,.c (.row 1003)),(10,vI ((1+(rows (x.ks.take i)).length:Nat):Int)),(24,vI i)]) (λi=>[(6,.st 0 308 [.p (.int .i64 B.vars),.p (.sl (B.orders.map eZ)),.p (.sl (B.ents.map cj)),.p (.int .i64 B.nat),.p (.sl (B.prims.map iU)),.row 1000]),(1000,.rw 3 1 (((placesM x).take i).map iP)),(1001,.rw 310 1 ((ib b i).map iP)),(1002,.rw 29 1 ((((jr x).take i).map row).map rP)),(1003,.rw 29 1 ((((lV x).take i).map row).map rP))]) (λi=>i<=b) (λi=>b-i) 0 (KV _) ?_ (f:=sw 1001 22) (x1:=⟨rfl,rfl,rfl,KG (λn:Int=>some (vI n)) (by simp[rows]),rfl,trivial⟩) (y1:=⟨rfl,rfl,KG (λl=>some (SE.rw _ _ l)) (AU b),rfl,rfl,trivial⟩);rintro i hi;have M:∀k,k<=b ->((placesM x).take k).length=k:=λk C=>by rw[VJ];omega
 dsimp only
 refine aj<|af (λE=>?_) (λE=>?_)
 ·have E:(i:Int)<x.n.b:=E
  obtain⟨f,hf,O,S,a8,U,a9,a3,a4,r1,r2,r3,r4⟩:=vG s.ok o (i:=i) Uo;have V:=KG List.length r1;simp only[JK,JV,JU]at V;have W:(x.n::(rows (x.ks.take i)++[f.n])).length=1+(rows (x.ks.take i)).length+1:=Uk
  have e2:(x.n::(rows (x.ks.take i)++(f.n::row (kidD x (2*i))))).length=1+(rows (x.ks.take i)).length+1+(row (kidD x (2*i))).length:=Uk
  have a':=D i;obtain⟨u,hu,_⟩:=ay (l:=ib b i) (k:=i);have tp:(placesM x).take (i+1)=(placesM x).take i++[f.n.a]:=dB (by unfold placesM;rw[JX,hf];rfl);have tt:(lV x).take (i+1)=(lV x).take i++[kidD x (2*i)]:=dB (by unfold lV;rw[JX,List.getElem?_range Uo];rfl);have tb:(jr x).take (i+1)=(jr x).take i++[kidD x (2*i+1)]:=dB (by unfold jr;rw[JX,List.getElem?_range Uo];rfl);have l1:=M i hi;refine aI (1+(rows (x.ks.take i)).length) U ?_;refine bi ?_ (hb:=Uk);refine vk ?_;refine vi ?_;refine vm (p:=iP) i hu ?_;refine eH hu<|vi ?_;refine ae (endP s (y:=kidD x (2*i)) r1 O (by rw[W];omega)) ?_;refine vi ?_;refine bH (1+(rows (x.ks.take i)).length+1) ((x.n::(rows (x.ks.take i)++[f.n])).length+(row (kidD x (2*i))).length) ?_ (df _) (h1:=Uo) (h2:=rfl) (h3:=Uo) (h4:=by rw[KF];omega);rw[dH r1 W.symm rfl];refine bi ?_ (hb:=Uk);refine ae (endP s (y:=kidD x (2*i+1)) r2 S (by rw[W,e2])) ?_;refine bH ((x.n::(rows (x.ks.take i)++[f.n])).length+(row (kidD x (2*i))).length) ((x.n::(rows (x.ks.take i)++(f.n::row (kidD x (2*i))))).length+(row (kidD x (2*i+1))).length) ?_ (df _) (h1:=rfl) (h2:=rfl) (h3:=Uo) (h4:=by rw[KF];omega);rw[dH r2 Uo rfl];refine bi ?_ (hb:=Uk);refine vi ?_;exact aw (i+1) (by show i+1<=b;omega) (λk=>sw 1000 35 (sw 1003 53 (sw 1002 63 k))) (x:=⟨rfl,rfl,rfl,KG (λn:Int=>some (vI n)) (by rw[r3];omega),rfl,trivial⟩) (y':=⟨rfl,KG (λl=>some (SE.rw _ _ l)) (by rw[tp,k7];rfl),KG (λl=>some (SE.rw _ _ l)) (by rw[<- Mq Uo,List.map_set];rfl),KG (λl=>some (SE.rw _ _ l)) (by rw[tb,k7,k7];rfl),KG (λl=>some (SE.rw _ _ l)) (by rw[tt,k7,k7];rfl),trivial⟩)
 have E:¬ (i:Int)<x.n.b:=E;obtain rfl:i=b:=Uo
 rw[show (placesM x).take i=placesM x from JG Uo,show (lV x).take i=lV x from JG Uo,show (jr x).take i=jr x from JG Uo];have eB:=au rP ((jr x).map row);have b0:=au row (jr x);refine nV 65 1002 ?_;refine nV 9 1003 ?_;refine nV 7 1001 ?_;refine uE 6 5 1000 ?_;refine aB τok (σ:=Nat) [(6,_),(7,_),(9,_),(65,_),(66,_)] [(6,_)] (λj=>[(67,vI j)]) (λ_=>[]) (λj=>j<=i/\lW B x (i-j) j=e) (λj=>i-j) 0 ⟨KV _,d⟩ ?_
 clear d
 rintro j ⟨hj,a⟩;refine aj<|af (λF=>?_) (λF=>?_)
 ·have F:(j:Int)<((((jr x).map row).map rP).length:Int):=F
  obtain⟨_,_,f0,f1⟩:=gM s o (i:=j) Uo;obtain⟨p,v,_⟩:=ay (l:=placesM x) (k:=j);obtain⟨p0,b1⟩:=hpl p (JQ v);obtain⟨q,rfl⟩:∃q:Nat,p=(q:Int):=⟨p.toNat,Uo⟩
  have X:((jr x).map row)[j]?=some (row (kidD x (2*j+1))):=by rw[JX];unfold jr;rw[JX,List.getElem?_range Uo];rfl
  have Y:((lV x).map row)[j]?=some (row (kidD x (2*j))):=by rw[JX];unfold lV;rw[JX,List.getElem?_range Uo];rfl
  have ok:pj B x j=(dB' q (kidD x (2*j)) && iD (fB B (placesM x) 4096) (q+1) (kidD x (2*j+1)) (ib i i)):=by
   unfold pj;rw[QK,v,t]
   rfl
  obtain⟨r,hr⟩:∃r,i-j=r+1:=⟨i-j-1,Uo⟩
  rw[hr]at a;simp only[lW]at a;rw[ok]at a;have H:=MR f0 q Uo;have I:=MQ (MU hB hpl Uo 4096) f1 Uo (Mr z) (by have:=D i;have:=f1.len;omega) f1.len q Uo;refine az j X ?_;refine az j Y ?_;refine vm (p:=iP) j v ?_;cases Z:dB' q (kidD x (2*j))with
  |false=>
   rw[Z]at H a;obtain rfl:18=e:=a;refine ae H ?_;exact kA9
  |true=>
  rw[Z]at H;rw[Z,Bool.true_and]at a;refine ae H ?_;refine vm (p:=iP) j v ?_;cases hd:iD (fB B (placesM x) 4096) (q+1) (kidD x (2*j+1)) (ib i i)with
  |false=>
   rw[hd]at I a;obtain rfl:18=e:=a;refine ae I ?_;exact kA9
  |true=>
  rw[hd]at I a;have a:lW B x r (j+1)=e:=a;refine ae I ?_;refine vk ?_;refine vi ?_;exact aw (j+1) ⟨Uo,by rw[show i-(j+1)=r by omega];exact a⟩
 ·have F:¬ (j:Int)<((((jr x).map row).map rP).length:Int):=F
  rw[show i-j=0 by omega]at a;obtain rfl:0=e:=a;exact aE
end
theorem Fv':VD prog 172 .returning [0,1,2] [] []:=by
 refine vh ⟨_,func172,rfl,UO⟩ λo i w=>?_;obtain⟨v0,q,r,rfl⟩:=EM i;refine callsD_of_wpS func172 rfl λa t b=>?_;apply wpS_seq;apply wpS_region;simp[wpOpsS,go_sem,recoverD,b,Exit.thenS,Instr.typeAssert,underlying242,Tryz.zeroValue242];refine wpS_of_wp (Go.wp_mono (mC τok (n:=13) _ ⟨[(4,.bool false)],[]⟩ _ (λe s d=>e= .normal/\s.d=[]/\Kp [] w d) ?_ _ (lH Ud rfl Ud)) ?_)
 ·exact⟨rfl,rfl,Kp.alloc _ _⟩
 rintro e u d ⟨s,j,rfl,k,l⟩;exact qm j k rfl b ⟨⟨_,rfl⟩,rfl,l⟩
def AW(x y z:PV):List (Nat×SE):=[(0,.st 1 29 [.p x]),(1,.st 2 3 [.p y]),(2,.st 3 35 [.p z])]
theorem NG(er:Int){x y z:PV}:VD prog 172 (.panicking (fI er)) [0,1,2] (AW x y z) (AW (.raw (.slice none 0 0)) (pI 0) (pI er)):=by
 refine⟨⟨_,func172,rfl,UO⟩,λw X C ρ d=>?_⟩;refine callsD_of_wpS func172 rfl λb t i=>?_;apply wpS_seq;apply wpS_region;simp[wpOpsS,go_sem,recoverD,i,Exit.thenS,Instr.typeAssert,underlying242,Tryz.zeroValue242];refine wpS_of_wp (Go.wp_mono (vj (n:=13) (m2:=AW (.raw (.slice none 0 0)) (pI 0) (pI er)) (q:=3) (p:=4) (k:=3) d (aj ?_) (lH Ud rfl (by simp[ini]))) ?_)
 ·refine vk ?_
  exact⟨rfl,rfl,rfl,rfl,trivial⟩
 rintro e u v ⟨rfl,s,j,l,o,a,r⟩;exact uH j l rfl ⟨⟨_,rfl⟩,rfl,o,a,r⟩
section
variable{B:ak}{cx:Ctx}(hB:GoodB B)(hcx:CxOk B cx)(hcl:cx.length<=90000)
include hB hcx hcl
theorem NH{x:Tr}(a:Ft (QB B) (cx.length:Int) x){n:Nat}(hn:n<=100000):VG prog 128 [.c (.ptr 0 0),.c (.ptr 1 0)] [(0,.st 1 245 ((iZ B cx n).map .p)),(1,.st 2 29 [.p (ah (row x))])] (match cz B cx GW x 4096 n with
  | .ok q=>.ok (.c (.p (ah (row q.1))),[(0,.st 1 245 ((iZ B cx q.2).map .p)),(1,.st 2 29 [.p (ah (row x))])])
  | .error e=>.error (fI e)):=by
 have d:=a.len;have b:=L7 hB hcx hcl GW x 4096 n a (by unfold len;omega) (Int.le_refl _) Uo (by unfold GW;omega);refine cJ 9 [.tmp 3] τok func128 ?_;refine aj<|ae (qz a) ?_;cases hr:cz B cx GW x 4096 n with
 |error e=>
  rw[hr]at b;refine bG b ?_;exact rfl
 |ok q=>
  rw[hr]at b;refine ax b ?_;refine ae (Fa (qr hB hcx hcl GW x 4096 n q.1 q.2 a (by unfold len;omega) (Int.le_refl _) hr).1) ?_;exact dD
theorem AX{x:Tr}(b:Ft (QB B) (cx.length:Int) x)(fuel:Int):VG prog 127 [.c (.p (bw B)),.c (.p (aH (cx.map aA))),.c (.p (ah (row x))),.c (.p (pI fuel)),.c (.fn 128 [100])] [(100,.st 1 29 [.p (ah (row x))])] (.ok (match dW B cx x fuel with
  | .ok q=>(.c (.p (.tup [ah (row q.1),pI q.2,pI 0])),[(100,.st 1 29 [.p (ah (row x))])])
  | .error e=>(.c (.p (.tup [.sl [],pI 0,pI e])),[]))):=by
 have hn:min (max fuel 0) 100000=((bA fuel:Nat):Int):=by unfold bA;omega
 have a:=NH hB hcx hcl b (n:=bA fuel) (by unfold bA;omega);unfold dW
 generalize cz B cx GW x 4096 (bA fuel)=r at a ⊢
 rcases r with e|q
 all_goals
  refine pf 30 [.cell 10 29,.cell 11 3,.cell 12 35] τok func127 ?_;refine aj<|⟨⟨rfl,rfl,rfl⟩,rfl,λd=>?_⟩;refine aj ?_
  first
   |refine mL (λk=>sw 0 21 (sw 1 100 k)) a ?_ (he:=by rw[hn];repeat first|exact VQ|refine And.intro rfl ?_)
    refine jn (λk=>k+10) (λ_=>0) (NG e) ?_;exact .inl ⟨_,_,_,id,rfl,rfl,rfl,rfl,trivial,rfl⟩
   |refine aT (λk=>sw 0 21 (sw 1 100 k)) (λk=>k-99) a ?_ (he:=by rw[hn];repeat first|exact VQ|refine And.intro rfl ?_)
    refine vk ?_;refine jn (λk=>k+10) (λ_=>0) Fv' ?_;exact dD
theorem NI{x:Tr}(b:Ft (QB B) (cx.length:Int) x)(n:Int):VC prog 70 [bw B,aH (cx.map aA),ah (row x),pI n] (match dW B cx x n with
  | .ok q=>.tup [ah (row q.1),pI q.2,pI 0]
  | .error e=>.tup [.sl [],pI 0,pI e]):=by
 have a:=AX hB hcx hcl b n
 generalize dW B cx x n=r at a ⊢
 rcases r with e|q
 all_goals
  refine vf 20 [.tmp 8,.tmp 9,.tmp 10] τok func70 ?_;refine aT (λk=>sw 100 6 k) (λ_=>0) a ?_;exact aE
end
end Go.Q
namespace Go.Wx
structure M2(P:Program)(K T:TypeId):Prop where
 eq:∀(a b c d:Int) (w:World),(Op.equal K (.agg #[iV a,iV b]) (.agg #[iV c,iV d])).run P w= .ok (decide (a=c/\b=d)) w
 ck:∀(e:Bool) (a b:Int) (w:World),(Instr.checkKey e 10000 K (.agg #[iV a,iV b])).run P w= .ok () w
 k:∃fs,P.underlying K=some (.struct fs)
 t:P.underlying T=some (.map K 3)
 z:∀w,(zeroValue 3).run P w= .ok (iV 0) w
def fS(x y:Int):Value:=.agg #[iV x,iV y]
def mi(es:List MapEntry)(l:List (Int×Int×Int)):Prop:=es.map (λe=>(e.key,e.val))=l.map λt=>(fS t.1 t.2.1,iV t.2.2)
def eU(x y:Int):List (Int×Int×Int) ->Nat ->Option (Nat×Int)
 |[],_=>none
 |t::r,i=>if x=t.1/\y=t.2.1 then some (i,t.2.2)else eU x y r (i+1)
def QG(g:Lv.G)(o:Obj):Prop:=∃es clock l,o= .map es clock/\mi es.toList l/\∀x y,g x y=(eU x y l 0).map (·.2)
theorem AY(x y:Int):∀(l:List (Int×Int×Int)) (i:Nat) (p:Nat×Int),eU x y l i=some p ->i<=p.1/\∃t,l[p.1-i]?=some t/\t.1=x/\t.2.1=y/\t.2.2=p.2
 |t::r,i,p,h=>by
  simp only[eU]at h;split at h
  ·rename_i hc
   obtain rfl:=JB h;exact⟨KJ _,t,Ud,hc.1.symm,hc.2.symm,rfl⟩
  ·obtain⟨e,a,b,d⟩:=AY x y r (i+1) p h
   refine⟨Uo,a,?_,d⟩;rw[show p.1-i=(p.1-(i+1))+1 by omega]
   simpa using b
theorem Gn(x y v:Int):∀(l:List (Int×Int×Int)) (i:Nat) (p:Nat×Int),eU x y l i=some p ->∀a c,(eU a c (l.set (p.1-i) (x,y,v)) i).map (·.2)=if a=x/\c=y then some v else (eU a c l i).map (·.2)
 |t::r,i,p,h,a,c=>by
  simp only[eU]at h;split at h
  ·rename_i hc
   obtain rfl:=JB h;rw[Nat.sub_self,List.set_cons_zero];simp only[eU]
   by_cases e:a=x/\c=y
   ·rw[KX e,KX e];rfl
   ·rw[KY e,KY e,KY (by rw[<- hc.1,<- hc.2];exact e)]
  ·rename_i hc
   obtain⟨b,_⟩:=AY x y r (i+1) p h;rw[show p.1-i=(p.1-(i+1))+1 by omega,List.set_cons_succ];simp only[eU]
   by_cases e:a=t.1/\c=t.2.1
   ·rw[KX e,KX e,KY (by rintro⟨rfl,rfl⟩;exact hc e)]
   ·rw[KY e,KY e]
    exact Gn x y v r (i+1) p h a c
theorem Gp(x y v:Int):∀(l:List (Int×Int×Int)) (i:Nat),eU x y l i=none ->∀a c,(eU a c (l++[(x,y,v)]) i).map (·.2)=if a=x/\c=y then some v else (eU a c l i).map (·.2)
 |[],i,_,a,c=>by
  simp only[List.nil_append,eU];split<;>rfl
 |t::r,i,h,a,c=>by
  simp only[eU]at h;split at h
  ·cases h
  ·rename_i hc
   simp only[List.cons_append,eU]
   by_cases e:a=t.1/\c=t.2.1
   ·rw[KX e,KX e,KY (by rintro⟨rfl,rfl⟩;exact hc e)]
   ·rw[KY e,KY e]
    exact Gp x y v r (i+1) h a c
section
variable{P:Program}{K T:TypeId}(hM:M2 P K T)
include hM
theorem Gq(x y:Int)(w:World):∀(es:List MapEntry) (l:List (Int×Int×Int)) (i:Nat),mi es l ->
  (Instr.findAsking K (fS x y) es i).run P w= .ok ((eU x y l i).map λp=>(p.1,iV p.2)) w
 |[],[],i,_=>by simp[Instr.findAsking,eU]
 |e::es,t::l,i,h=>by
  simp only[mi,List.map_cons,List.cons.injEq,Prod.mk.injEq]at h;obtain⟨⟨h1,h2⟩,h3⟩:=h;have a:=Gq x y w es l (i+1) h3;simp only[Instr.findAsking,Sem.run_bind,h1,fS,hM.eq,Result.andThen_ok,eU];simp only[fS]at a
  by_cases b:x=t.1/\y=t.2.1
  ·simp[b,h2]
  ·simp[b,a]
 |[],_::_,_,h=>by simp[mi]at h
 |_::_,[],_,h=>by simp[mi]at h
theorem Gs(x y:Int)(w:World)(es:List MapEntry)(l:List (Int×Int×Int))(h:mi es l):
  (Instr.findKey K (fS x y) es).run P w= .ok ((eU x y l 0).map λp=>(p.1,iV p.2)) w:=by
 obtain⟨b,a⟩:=hM.k;simp only[Instr.findKey,Sem.run_bind,run_underlying a,Result.andThen_ok]
 match es,l,h with
 |[],[],_=>simp[Instr.findNow,eU]
 |e::es,t::l,h=>
  simp only[Instr.findNow,Instr.sameNow,fS];exact Gq hM x y w _ _ 0 h
 |[],_::_,h=>simp[mi]at h
 |_::_,[],h=>simp[mi]at h
theorem Gt{w:World}{b:Nat}{g:Lv.G}{o:Obj}(r:w.heap[b]?=some o)(s:QG g o)(x y:Int)(ok:Bool):
  (Instr.lookup T (.map (some b)) (fS x y) ok).run P w= .ok (if ok then .tuple #[iV ((g x y).getD 0),.bool (g x y).isSome]else iV ((g x y).getD 0)) w:=by
 obtain⟨k,d,l,rfl,t,u⟩:=s;have i:(getObj b).run P w= .ok (.map k d) w:=by simp[getObj,Sem.run,r]
 have a:=Gs hM x y w k.toList l t;have j:∀e w,(Instr.checkKey e 10000 K (fS x y)).run P w= .ok () w:=λ_ _=>hM.ck _ _ _ _;simp only[Instr.lookup,Sem.run_bind,run_underlying hM.t,Result.andThen_ok,i,j,u];cases q:eU x y l 0 with
 |none=>rw[q]at a;simp[a,hM.z]
 |some p=>rw[q]at a;simp[a]
theorem AZ{w:World}{b:Nat}{g:Lv.G}{o:Obj}(H:w.heap[b]?=some o)(S:QG g o)(x y v:Int):
  ∃I,QG (Lv.putG g x y v) I/\(Instr.mapUpdate T (.map (some b)) (fS x y) (iV v)).run P w= .ok () {w with heap:=w.heap.setIfInBounds b I}:=by
 obtain⟨k,d,l,rfl,u,L⟩:=S;have q:(getObj b).run P w= .ok (.map k d) w:=by simp[getObj,Sem.run,H]
 have j:=Gs hM x y w k.toList l u;have r:∀o,(setObj b o).run P w= .ok () {w with heap:=w.heap.setIfInBounds b o}:=λo=>by simp[setObj,Sem.run,H]
 have z:∀e w,(Instr.checkKey e 10000 K (fS x y)).run P w= .ok () w:=λ_ _=>hM.ck _ _ _ _;have M:k.size=l.length:=by
  have:=KG List.length u
  simpa using this
 cases C:eU x y l 0 with
 |none=>
  rw[C]at j;refine⟨.map (k.push {key:=fS x y,val:=iV v,born:=d}) (d+1),⟨_,_,l++[(x,y,v)],rfl,?_,λa c=>?_⟩,by simp[Instr.mapUpdate,run_underlying hM.t,q,z,j,r]⟩
  ·simp only[mi,Array.toList_push,KB,u,List.map_cons,List.map_nil]
   rw[u]
  ·rw[Gp x y v l 0 C a c,<- L]
   rfl
 |some p=>
  rw[C]at j;obtain⟨_,t,E,U,V,X⟩:=AY x y l 0 p C;rw[Nat.sub_zero]at E;have W:p.1<l.length:=(List.getElem?_eq_some_iff.1 E).1;have D:((k[p.1]?).map (·.key)).getD (fS x y)=fS x y:=by
   have:=KG (λl=>l[p.1]?) u;simp only[JX,E,Option.map_some,Array.getElem?_toList]at this;cases s:k[p.1]? with
   |none=>simp
   |some e=>
    rw[s]at this;simp only[Option.map_some,QZ,Prod.mk.injEq]at this;simp[this.1,U,V]
  have F:(Instr.keyThatStays (fS x y) (fS x y)).run P w= .ok (fS x y) w:=by
   unfold Instr.keyThatStays;rw[show (10000:Nat)=9999+1 from rfl,show Instr.sameBits (9999+1) (fS x y) (fS x y)=true by simp[Instr.sameBits,fS]];simp
  refine⟨.map (k.modify p.1 λe=>{e with key:=fS x y,val:=iV v}) d,⟨_,_,l.set p.1 (x,y,v),rfl,?_,λa c=>?_⟩,?_⟩
  ·unfold mi
   apply List.ext_getElem?;intro i;have:=KG (λl=>l[i]?) u;simp only[JX,Array.getElem?_toList]at this ⊢;simp only[Array.getElem?_modify,List.getElem?_set]
   by_cases O:p.1=i
   ·subst O
    have s:p.1<k.size:=Uo
    simp[W,s]
   ·simp[O,this]
  ·have:=Gn x y v l 0 p C a c
   rw[Nat.sub_zero]at this;rw[this,<- L]
   rfl
  ·simp only[Instr.mapUpdate,Sem.run_bind,run_underlying hM.t,Result.andThen_ok,q,z]
   rw[j];simp only[Option.map_some,Result.andThen_ok,Sem.run_bind];rw[D,F];simp[r]
def wn(x y:Int):AV:=.agg [.p (pI x),.p (pI y)]
omit hM in
theorem A0{C:Mem}{ρ:Nat ->Value}{x y:Int}{v:Value}(h:RA C ρ (wn x y) v):v=fS x y:=by
 obtain⟨d,rfl,e,h⟩:=h
 match d,e with
 |[a,b],_=>
  have i:RV C (pI x) a:=h 0 _ a rfl rfl;have j:RV C (pI y) b:=h 1 _ b rfl rfl;cases i;cases j
  rfl
theorem wo{g:Lv.G}{x y:Int}{k:PV ->Prop}(e:k (.tup [pI ((g x y).getD 0),.bool (g x y).isSome])):yw P T (QG g) (wn x y) true k:=⟨_,λC ρ s b w o j l r=>by
 rw[A0 j];refine⟨_,.tup _ [_,_] rfl λi p q a d=>?_,Gt hM l r x y true⟩
 match i,a,d with
 |0,a,d=>obtain rfl:=JB a;obtain rfl:=JB d;exact .int _ _
 |1,a,d=>obtain rfl:=JB a;obtain rfl:=JB d;exact .bool _,e⟩
theorem A1{g:Lv.G}{x y:Int}{k:PV ->Prop}(a:k (pI ((g x y).getD 0))):yw P T (QG g) (wn x y) false k:=⟨_,λC ρ j b w o d e i=>by
 rw[A0 d];exact⟨_,.int _ _,Gt hM e i x y false⟩,a⟩
theorem qK{g:Lv.G}{x y v:Int}{k:(Obj ->Prop) ->Prop}(d:k (QG (Lv.putG g x y v))):De P T (QG g) (wn x y) (vI v) k:=⟨_,λC ρ q e b w o i a j l=>by
 rw[A0 i];have a:RV C (pI v) e:=a;cases a;exact AZ hM j l x y v,d⟩
omit hM in
theorem qg0:QG (λ_ _=>none) (.map #[] 0):=⟨#[],0,[],rfl,rfl,λ_ _=>rfl⟩
end
end Go.Wx
namespace Go.Q
theorem Gu(e:Bool)(d:Nat)(n:Int)(w:World):(Instr.checkKey e (d+1) 3 (iV n)).run prog w= .ok () w:=by
 simp only[Instr.checkKey,Sem.run_bind,run_underlying underlying3,Result.andThen_ok]
 rfl
theorem m2e:M2 prog 234 169:=by
 refine⟨λa b c d w=>?_,λe a b w=>?_,⟨_,underlying234⟩,underlying169,λw=>UD⟩
 ·have hf:prog.underlying 234=some (.struct (prog.fieldsOf 234)):=by rw[Program.fieldsOf,underlying234]
  have h:=run_equalIn_struct (P:=prog) w 9999 234 #[iV a,iV b] #[iV c,iV d] hf UD;show (Op.equalIn 10000 234 _ _).run prog w=_;rw[h];simp[Program.fieldsOf,underlying234,Op.eqFields,part,go_sem,underlying3]
  by_cases i:a=c<;>by_cases j:b=d<;>simp[i,j,go_sem]
 ·show (Instr.checkKey e (9998+1+1) 234 _).run prog w=_
  rw[Instr.checkKey];simp only[Sem.run_bind,run_underlying underlying234,Result.andThen_ok];rw[<- Array.forIn_toList];simp[part,go_sem,Gu]
theorem m2p:M2 prog 117 176:=by
 refine⟨λa b c d w=>?_,λe a b w=>?_,⟨_,underlying117⟩,underlying176,λw=>UD⟩
 ·have hf:prog.underlying 117=some (.struct (prog.fieldsOf 117)):=by rw[Program.fieldsOf,underlying117]
  have h:=run_equalIn_struct (P:=prog) w 9999 117 #[iV a,iV b] #[iV c,iV d] hf UD;show (Op.equalIn 10000 117 _ _).run prog w=_;rw[h];simp[Program.fieldsOf,underlying117,Op.eqFields,part,go_sem,underlying3]
  by_cases i:a=c<;>by_cases j:b=d<;>simp[i,j,go_sem]
 ·show (Instr.checkKey e (9998+1+1) 117 _).run prog w=_
  rw[Instr.checkKey];simp only[Sem.run_bind,run_underlying underlying117,Result.andThen_ok];rw[<- Array.forIn_toList];simp[part,go_sem,Gu]
theorem Gv(g:G)(x y v:Int):VG prog 166 [.c (.row 0),.c (.p (.agg [pI x,pI y])),vI v] [(0,.ob 1 (QG g))] (.ok (.c (.p (.tup [])),[(0,.ob 1 (QG (dF g x y v)))])):=by
 have i:∀b,g x y=some b ->¬ b<v ->g=dF g x y v:=λb j l=>by
  funext a c
  by_cases e:a=x/\c=y
  ·obtain⟨rfl,rfl⟩:=e;simp[dF,putG,j,cg,l]
  ·exact(sq _ _ _ _ _ _ e).symm
 refine cJ 24 [] τok func166 ?_;refine aj<|wo m2e ?_;cases d:g x y with
 |none=>
  have hr:dF g x y v=putG g x y v:=by simp[dF,d,cg]
  rw[hr];exact qK m2e<|dD
 |some b=>
  refine af (λj=>?_) (λj=>?_)
  ·have k:b<v:=j
   have hr:dF g x y v=putG g x y v:=by simp[dF,d,cg,k]
   rw[hr];exact qK m2e<|dD
  ·rw[<- i b d j]
   exact dD
def s8(r:Except Int G):Except (List PanicEntry) (AV×List (Nat×SE)):=match r with
 | .error n=>.ok (.c (.p (.tup [.raw (.map none),pI n])),[])
 | .ok g=>.ok (.tp [.row 0,.p (pI 0)],[(0,.ob 0 (QG g))])
theorem Gw(vars:Int)(os:List be):VG prog 108 (vals [pI vars,.sl (os.map eZ)]) [] (s8 (fx vars os)):=by
 have eO:=au eZ os;generalize F:s8 (fx vars os)=L;refine cJ 146 [.tmp 4,.tmp 5] τok func108 ?_;refine aj ?_;have t:∀n,fx vars os= .error n ->L=s8 (.error n):=λn h=>by rw[<- F,h]
 refine af (λh1=>?_) (λh1=>?_)
 ·rw[t 1 (by unfold fx;rw[KX Uo])]
  exact .inl ⟨_,_,_,id,rfl,rfl,rfl,rfl,trivial,rfl⟩
 refine af (λh2=>?_) (λh2=>?_)
 ·rw[t 1 (by unfold fx;rw[KX Uo])]
  exact .inl ⟨_,_,_,id,rfl,rfl,rfl,rfl,trivial,rfl⟩
 refine af (λh3=>?_) (λh3=>?_)
 ·rw[t 5 (by unfold fx;rw[KY Uo,KX Uo])]
  exact .inl ⟨_,_,_,id,rfl,rfl,rfl,rfl,trivial,rfl⟩
 obtain⟨n,hn⟩:∃n:Nat,(n:Int)=vars+1:=⟨vars.toNat+1,Uo⟩
 have a3:n<=17:=Uo
 have hcl:fx vars os=match jj vars os (lK n)with
  |none=>.error 1
  |some g=>match j5 n n 0 g with
   |none=>.error 7
   |some g'=>.ok g':=by
  have e:vars.toNat+1=n:=Uo
  unfold fx;rw[KY Uo,KY Uo,e]
  rfl
 refine rN (QG λ_ _=>none) ?_ qg0;refine vi ?_;refine aB τok (σ:=Nat) [(0,_),(1,_),(6,_),(29,_)] [] (λk=>[(30,vI k)]) (λk=>[(27,.ob 0 (QG (bQ (λv g=>putG (putG g v v 0) 0 v 0) k (λ_ _=>none))))]) (λk=>k<=n) (λk=>n-k) 0 (KV _) ?_;rintro k U;refine aj<|af (λh4=>?_) (λh4=>?_)
 ·refine qK m2e ?_
  refine qK m2e<|vi ?_;exact aw (k+1) Uo
 obtain rfl:k=n:=Uo
 clear h4 U
 refine aB τok (σ:=Nat×G) [(0,_),(6,_),(41,_),(42,_)] [] (λx=>[(43,vI x.1)]) (λx=>[(27,.ob 0 (QG x.2))]) (λx=>x.1<=os.length/\jj vars os (lK k)=jj vars (os.drop x.1) x.2/\lL 1000 x.2) (λx=>os.length-x.1) (0,lK k) ⟨KV _,rfl,KE k⟩ ?_;obtain⟨n,rfl⟩:∃n,n=k:=⟨k,rfl⟩
 rintro⟨k,g⟩ ⟨U,r,i⟩;simp only at U r i;refine aj<|af (λH=>?_) (λH=>?_)
 ·obtain⟨x,hx,hd⟩:=ay (l:=os) (k:=k)
  have j:jj vars os (lK n)=if dO vars x then none else jj vars (os.drop (k+1)) (dF g x.low x.high x.add):=by rw[r,hd];rfl
  have a0:dO vars x=true ->L=s8 (.error 1):=λh=>t 1 (by rw[hcl,j,h];rfl);refine vm (p:=eZ) k hx ?_
  iterate 6
   refine af (λc=>?_) (λc=>?_)
   ·rw[a0 (by unfold dO;exact KU Uo)]
    exact .inl ⟨_,_,_,id,rfl,rfl,rfl,rfl,trivial,rfl⟩
  have ok:dO vars x=false:=by unfold dO;exact KH Uo
  rw[ok]at j;refine aT (λ_=>27) (λ_=>0) (Gv g x.low x.high x.add) ?_;refine vi ?_;exact aw (k+1,dF g x.low x.high x.add) ⟨by show k+1<=_;omega,j,Kx i Uo Uo⟩
 have u:jj vars os (lK n)=some g:=by rw[r,JY Uo];rfl
 rw[u]at hcl;simp only at hcl
 clear r u H U
 refine vi ?_;refine aB τok (σ:=Nat×G) [(0,_),(6,_),(88,_)] [] (λx=>[(89,vI x.1)]) (λx=>[(27,.ob 0 (QG x.2))]) (λx=>x.1<=n/\j5 n n 0 g=j5 n (n-x.1) x.1 x.2/\lL (pw x.1) x.2) (λx=>n-x.1) (0,g) ⟨KV _,rfl,i⟩ ?_
 clear i
 rintro⟨m,Z⟩ ⟨hm,M,i⟩;simp only at hm M i;refine aj<|af (λH=>?_) (λH=>?_);rotate_left
 ·obtain rfl:m=n:=by have H:¬ (m:Int)<vars+1:=H;omega
  have:j5 m m 0 g=some Z:=by rw[M,Nat.sub_self];rfl
  rw[show L=s8 (.ok Z) by rw[<- F,hcl,this]];exact .inr ⟨_,λ_=>27,rfl,rfl,⟨rfl,trivial⟩,rfl⟩
 have H:(m:Int)<vars+1:=H;have a4:m<n:=Uo
 obtain⟨V,a5⟩:=Ie' m Uo;have hJ:=Ez V i m;refine vi ?_;refine aB τok (σ:=Nat×G) [(0,_),(6,_),(88,_),(89,_),(10,_),(93,_)] [] (λx=>[(94,vI x.1)]) (λx=>[(27,.ob 0 (QG x.2))]) (λx=>x.1<=n/\x.2=bQ (kO n m) x.1 Z) (λx=>n-x.1) (0,Z) ⟨KV _,rfl⟩ ?_;rintro⟨b,s⟩ ⟨W,w⟩;simp only at W w;refine aj<|af (λX=>?_) (λX=>?_)
 ·have X:(b:Int)<vars+1:=X
  have a1:J (pw m) m b 0 s:=w▸EB (n:=n) hJ b;refine vi ?_;refine aB τok (σ:=Nat×G) [(0,_),(6,_),(88,_),(89,_),(10,_),(93,_),(94,_),(11,_),(98,_)] [] (λx=>[(99,vI x.1)]) (λx=>[(27,.ob 0 (QG x.2))]) (λx=>x.1<=n/\x.2=bQ (Lv.step m b) x.1 s) (λx=>n-x.1) (0,s) ⟨KV _,rfl⟩ ?_;rintro⟨a,o⟩ ⟨O,E⟩;simp only at O E;refine aj<|af (λz=>?_) (λz=>?_)
  ·have z:(a:Int)<vars+1:=z
   have a2:J (pw m) m b a o:=E▸EA a1 a;have C:Lv.step m b a o=bQ (Lv.step m b) (a+1) s:=by rw[E];rfl
   refine wo (g:=o) (x:=(b:Int)) (y:=(m:Int)) m2e<|wo (g:=o) (x:=(m:Int)) (y:=(a:Int)) m2e ?_;have d:(o b m=none \/o m a=none) ->o=bQ (Lv.step m b) (a+1) s:=λh=>by
    rw[<- C];rcases step_cases m b a o with ⟨p,q,hp,hq,_⟩|e
    ·rcases h with h|h
     ·rw[h]at hp;cases hp
     ·rw[h]at hq;cases hq
    ·exact e.symm
   cases ha:o b m with
   |none=>
    refine vi ?_;exact aw (a+1,o) ⟨by show a+1<=_;omega,d (.inl ha)⟩
   |some p=>
    cases hb:o m a with
    |none=>
     refine vi ?_;exact aw (a+1,o) ⟨by show a+1<=_;omega,d (.inr hb)⟩
    |some q=>
     have hs:=KA a2 ha hb;refine vi ?_ (by simp only[Option.getD_some];omega) (by simp only[Option.getD_some];omega);refine aT (λ_=>27) (λ_=>0) (Gv o b a (p+q)) ?_;refine vi ?_;exact aw (a+1,dF o b a (p+q)) ⟨by show a+1<=_;omega,by rw[<- C,Em ha hb]⟩
  ·have z:¬ (a:Int)<vars+1:=z
   obtain rfl:a=n:=Uo
   refine vi ?_;exact aw (b+1,o) ⟨by show b+1<=_;omega,by rw[E,w];rfl⟩
 have X:¬ (b:Int)<vars+1:=X;obtain rfl:b=n:=Uo
 have Y:lL (pw (m+1)) s:=w▸KI V i;have D:j5 b b 0 g=if jG b s then none else j5 b (b-(m+1)) (m+1) s:=by
  rw[M,show b-m=(b-(m+1))+1 by omega,w];rfl
 refine vi ?_;refine aB τok (σ:=Nat) [(0,_),(6,_),(88,_),(89,_),(133,_)] [(27,_)] (λk=>[(134,vI k)]) (λ_=>[]) (λk=>k<=b/\∀v,v<k ->qo s v=false) (λk=>b-k) 0 ⟨KV _,λv hv=>Uo⟩ ?_;rintro k ⟨U,I⟩;refine aj<|af (λz=>?_) (λz=>?_)
 ·have z:(k:Int)<vars+1:=z
  refine A1 m2e<|af (λh8=>?_) (λh8=>?_)
  ·have S:jG b s=true:=by
    unfold jG;rw[List.any_eq_true];exact⟨k,List.mem_range.2 Uo,by unfold qo;exact KU h8⟩
   rw[t 7 (by rw[hcl,D,S];rfl)];exact .inl ⟨_,_,_,id,rfl,rfl,rfl,rfl,trivial,rfl⟩
  ·refine vi ?_
   refine aw (k+1) ⟨by show k+1<=_;omega,λv hv=>?_⟩
   by_cases e:v=k
   ·subst e;unfold qo;exact KH h8
   ·exact I v Uo
 ·have z:¬ (k:Int)<vars+1:=z
  obtain rfl:k=b:=Uo
  have S:jG k s=false:=by
   unfold jG;rw[List.any_eq_false];intro v hv;simp[I v (List.mem_range.1 hv)]
  rw[S]at D;refine vi ?_;exact aw (m+1,s) ⟨by show m+1<=_;omega,D,Y⟩
theorem NJ{vars:Int}{os:List be}:VC prog 58 [pI vars,.sl (os.map eZ)] (pI (qq vars os)):=by
 have a:=Gw vars os;unfold qq;refine vf 14 [.tmp 4] τok func58 ?_;cases h:fx vars os with
 |error n=>
  rw[h]at a;refine aT (λ_=>10) (λ_=>0) a ?_;exact aE
 |ok g=>
  rw[h]at a;refine aT (λ_=>10) (λ_=>0) a ?_;exact aE
theorem bT{p q:Bool}(h:p=q):ge' [PV.nz (.bool p)]= .bool q:=by rw[h];rfl
theorem A2(l:List Atom)(hl:l.length<=1000000000)(vars:Int):VC prog 222 [cF l,pI vars] (.bool (cN l vars)):=by
 have E:=au atP l;have j:vars<0 \/16<vars \/l.length<1 \/4<l.length ->false=cN l vars:=λh=>by unfold cN;rw[KX h]
 refine vf 53 [.tmp 4] τok func222 ?_;refine af (λt=>?_) (λt=>?_)
 ·exact⟨_,_,rfl,rfl,bT (j Uo)⟩
 refine af (λu=>?_) (λu=>?_)
 ·exact⟨_,_,rfl,rfl,bT (j Uo)⟩
 refine af (λv=>?_) (λv=>?_)
 ·exact⟨_,_,rfl,rfl,bT (j Uo)⟩
 refine af (λw=>?_) (λw=>?_)
 ·exact⟨_,_,rfl,rfl,bT (j Uo)⟩
 rw[show cN l vars=fX vars l (-1) by unfold cN;rw[KY Uo]];generalize d:fX vars l (-1)=e;refine aB τok (σ:=Nat×Int) [(1,_),(24,_),(25,_)] [] (λq=>[(5,vI q.2),(26,vI q.1)]) (λ_=>[]) (λq=>q.1<=l.length/\fX vars (l.drop q.1) q.2=e) (λq=>l.length-q.1) (0,-1) ⟨KV _,d⟩ ?_;rintro⟨k,b⟩ ⟨z,hr⟩;simp only at z hr;refine aj<|af (λi=>?_) (λi=>?_);rotate_left
 ·have i:¬ (k:Int)<((l.map atP).length:Int):=i
  rw[JY Uo]at hr;exact⟨_,_,rfl,rfl,bT hr⟩
 have i:(k:Int)<((l.map atP).length:Int):=i;obtain⟨x,C,D⟩:=ay (l:=l) (k:=k);rw[D]at hr;simp only[fX]at hr;have a:x.var<=b \/vars<x.var \/x.add<0 \/1000<x.add ->false=e:=λh=>by rw[<- hr,KX h]
 refine vm (p:=atP) k C ?_;refine af (λc1=>?_) (λc1=>?_)
 ·exact⟨_,_,rfl,rfl,bT (a (.inl c1))⟩
 have c1:¬ x.var<=b:=c1;refine af (λo=>?_) (λo=>?_)
 ·exact⟨_,_,rfl,rfl,bT (a (.inr (.inl o)))⟩
 refine af (λr=>?_) (λr=>?_)
 ·exact⟨_,_,rfl,rfl,bT (a (.inr (.inr (.inl r))))⟩
 refine af (λs=>?_) (λs=>?_)
 ·exact⟨_,_,rfl,rfl,bT (a (.inr (.inr (.inr s))))⟩
 rw[KY Uo]at hr;refine vi ?_;exact aw (k+1,x.var) ⟨by show k+1<=_;omega,hr⟩
def qL(g:G)(x:Atom):List (Nat×SE):=[(0,.st 1 169 [.row 2]),(1,.st 2 220 [.p (pI x.var),.p (pI x.add)]),(2,.ob 3 (QG g))]
theorem NK(g:G)(x y:Atom)(i:0<=x.add/\x.add<=1000)(j:0<=y.add/\y.add<=1000):VG prog 293 [.c (.p (.agg (atP y))),.c (.ptr 0 0),.c (.ptr 1 0)] (qL g x) (.ok (.c (.p (.bool (dw g x y))),qL g x)):=by
 generalize a:dw g x y=e;unfold dw at a;refine cJ 27 [.tmp 4] τok func293 ?_;refine aj<|wo m2e ?_;cases b:g x.var y.var with
 |none=>
  rw[b]at a;exact .inl ⟨_,_,_,id,rfl,rfl,rfl,bT a,⟨rfl,rfl,rfl,trivial⟩,rfl⟩
 |some d=>
  rw[b]at a;refine vi ?_;refine af (λh=>?_) (λh=>?_)
  ·exact .inl ⟨_,_,_,id,rfl,rfl,rfl,bT ((KU h).symm.trans a),⟨rfl,rfl,rfl,trivial⟩,rfl⟩
  ·exact .inl ⟨_,_,_,id,rfl,rfl,rfl,bT ((KH h).symm.trans a),⟨rfl,rfl,rfl,trivial⟩,rfl⟩
theorem NL(g:G)(x:Atom)(l:List Atom)(hl:l.length<=1000000)(j:0<=x.add/\x.add<=1000)(o:∀y∈l,0<=y.add/\y.add<=1000):VG prog 294 [.c (.p (cF l)),.c (.fn 293 [0,1])] (qL g x) (.ok (.c (.p (pI (od (dw g x) l 0))),qL g x)):=by
 have s:=au atP l;generalize a:od (dw g x) l 0=e;refine cJ 19 [.tmp 4] τok func294 ?_;refine aj<|aB τok (σ:=Nat) [(0,_),(1,_),(6,_),(7,_)] [(0,_),(1,_),(2,_)] (λk=>[(8,vI k)]) (λ_=>[]) (λk=>k<=l.length/\od (dw g x) (l.drop k) k=e) (λk=>l.length-k) 0 ⟨KV _,a⟩ ?_;rintro k ⟨t,hr⟩;refine aj<|af (λq=>?_) (λq=>?_);rotate_left
 ·rw[JY Uo]at hr
  exact .inl ⟨_,_,_,id,rfl,rfl,rfl,KG (PV.int .i64) hr,⟨rfl,rfl,rfl,trivial⟩,rfl⟩
 obtain⟨y,b,r⟩:=ay (l:=l) (k:=k);rw[r]at hr;simp only[od]at hr;have d:=NK g x y j (o y (JQ b));refine vm (p:=atP) k b ?_;cases i:dw g x y with
 |true=>
  rw[i]at d hr;refine aT id (λk=>k+1) d ?_;exact .inl ⟨_,_,_,id,rfl,rfl,rfl,KG (PV.int .i64) hr,⟨rfl,rfl,rfl,trivial⟩,rfl⟩
 |false=>
  rw[i]at d hr;refine aT id (λk=>k+1) d ?_;refine vi ?_;exact aw (k+1) ⟨Uo,hr⟩
theorem NM(g:G)(x:Atom)(l:List Atom)(hl:l.length<=1000000)(a:0<=x.add/\x.add<=1000)(b:∀y∈l,0<=y.add/\y.add<=1000):VG prog 292 [.c (.p (cF l)),.c (.fn 293 [0,1])] (qL g x) (.ok (.c (.p (.bool (l.any (dw g x)))),qL g x)):=by
 refine cJ 9 [.tmp 4] τok func292 ?_;refine aj<|aT id (λk=>k+1) (NL g x l hl a b) ?_;rw[<- EE (dw g x) l 0 UO];refine af (λh=>?_) (λh=>?_)
 ·exact .inl ⟨_,_,_,id,rfl,rfl,rfl,bT (KU h).symm,⟨rfl,rfl,rfl,trivial⟩,rfl⟩
 ·exact .inl ⟨_,_,_,id,rfl,rfl,rfl,bT (KH h).symm,⟨rfl,rfl,rfl,trivial⟩,rfl⟩
theorem NO(vars:Int)(os:List be)(a b:List Atom)(ha:a.length<=1000000)(hb:b.length<=1000000):VC prog 287 [pI vars,.sl (os.map eZ),cF a,cF b] (.bool (j6 vars os a b)):=by
 have F:=au atP a;have q:=Gw vars os;have r:=A2 a Uo vars;have s:=A2 b Uo vars;generalize d:j6 vars os a b=t;unfold j6 at d;refine vf 44 [.tmp 8] τok func287 ?_;cases h:fx vars os with
 |error n=>
  rw[h]at q d;have hn:=closedF_err h;refine aT (λ_=>16) (λ_=>0) q ?_;refine vy ?_ (show n≠0 by omega);exact⟨_,_,rfl,rfl,bT d⟩
 |ok g=>
  rw[h]at q d;simp only at d;refine aT (λ_=>16) (λ_=>0) q ?_;refine vn ?_ UO;cases i:cN a vars with
  |false=>
   rw[i]at r d;exact ae r<|⟨_,_,rfl,rfl,bT d⟩
  |true=>
  rw[i]at r d;refine ae r ?_;cases j:cN b vars with
  |false=>
   rw[j]at s d;exact ae s<|⟨_,_,rfl,rfl,bT d⟩
  |true=>
  rw[j]at s d;rw[Bool.true_and,Bool.true_and]at d;refine ae s ?_;have C:=j7 i;have u:=j7 j;refine aB τok (σ:=Nat) [(3,_),(9,_),(33,_),(34,_)] [(9,_),(16,_)] (λk=>[(35,vI k)]) (λ_=>[]) (λk=>k<=a.length/\((a.drop k).all λx=>b.any (dw g x))=t) (λk=>a.length-k) 0 ⟨KV _,d⟩ ?_
  clear d
  rintro k ⟨H,hr⟩;refine aj<|af (λD=>?_) (λD=>?_);rotate_left
  ·rw[JY Uo]at hr
   exact⟨_,_,rfl,rfl,bT hr⟩
  obtain⟨x,v,E⟩:=ay (l:=a) (k:=k);rw[E,List.all_cons]at hr;have o:=C.2 x (JQ v);have e:=NM g x b hb ⟨o.1,o.2.1⟩ λy w=>⟨(u.2 y w).1,(u.2 y w).2.1⟩
  refine vm (p:=atP) k v ?_;cases z:b.any (dw g x)with
  |false=>
   rw[z]at e hr;exact aT (λk=>[9,12,16].getD k 0) (λ_=>0) e<|⟨_,_,rfl,rfl,bT hr⟩
  |true=>
   rw[z]at e hr;refine aT (λk=>[9,12,16].getD k 0) (λ_=>0) e ?_;refine vi ?_;exact aw (k+1) ⟨Uo,hr⟩
open Go.Wx Cd Tm Lv
theorem br_at:Br2 rAt atP (λx=>I64 x.var/\I64 x.add):=⟨λ_=>rfl,λx d C e i h=>by
 match e,i with
 |[a,b],_=>exact⟨by rw[gH (h 0 _ a rfl rfl),gH (h 1 _ b rfl rfl)],d⟩,λ_ _ _ h=>h.2⟩
theorem Fz':lO rAt atP:=λC a x ⟨e,_⟩=>e▸bL (.int _ _) (bL (.int _ _) iz)
theorem wq{x:Tr}(e:Ok .tm x)(d:(row x).length<=4096)(h2:x.n.op=2):VC prog 189 [ah (row x)] (cF (bX x)):=by
 have hr:=jL e;have a:kidsT x=[]:=by unfold kidsT;cases x;exact KX h2
 have i:atmsT x=x.ks.map (·.n):=by unfold atmsT;rw[KX h2]
 rw[a,i]at hr;simp only[cB,JD]at hr;have b:=KG List.length hr;simp only[JV,KF]at b;have r:=au ndP (row x);have o:(((row x).map ndP).take (row x).length).drop 1=(x.ks.map (·.n)).map ndP:=by
  rw[JG Uo,hr]
  rfl
 have s:=au ndP (x.ks.map (·.n));have t:=au (λk:Tr=>k.n) x.ks;refine vf 23 [.tmp 2] τok func189 ?_;refine bH 1 (row x).length ?_ (λy q=>by
  obtain⟨_,_,rfl⟩:=List.mem_map.1 q
  rfl)
 rw[o];refine dC 3 1000 220 2 rfl rfl<|aB τok (σ:=Nat) [(7,_),(8,_)] [] (λj=>[(3,.c (.row 1000)),(9,vI j)]) (λj=>[(1000,.rw 220 2 (((bX x).take j).map atP))]) (λj=>j<=x.ks.length) (λj=>x.ks.length-j) 0 (KV _) ?_;intro j u;refine aj<|af (λg=>?_) (λg=>?_)
 ·have g:(j:Int)<(((x.ks.map (·.n)).map ndP).length:Int):=g
  obtain⟨k,a,_⟩:=ay (l:=x.ks) (k:=j);refine aI j (x:=k.n) (by rw[JX,a];rfl) ?_;refine bi ?_ (hb:=Uk);refine vi ?_;exact aw (j+1) (by show j+1<=_;omega) (sw 1000 20) (y':=⟨KG (λl=>some (SE.rw _ _ l)) (by
   rw[QQ,KB];unfold bX;rw[JX,a]
   rfl),trivial⟩)
 ·have g:¬ (j:Int)<(((x.ks.map (·.n)).map ndP).length:Int):=g
  rw[JG (by simp[bX];omega)];exact aE
theorem Gx{x y:Operand}{p q:Nd}{k:PV ->Prop}(d:k (.bool (decide (p=q)))):oQ prog .eql 46 x y (.c (.p (.agg (ndP p)))) (.c (.p (.agg (ndP q)))) k:=by
 refine⟨_,λC ρ va o w e i=>?_,d⟩;have rd:∀{p:Nd} {v:Value},RA C ρ (.c (.p (.agg (ndP p)))) v ->v=iw p:=λ{p v} h=>by
  have h:RV C (.agg (ndP p)) v:=h;cases h with
  |agg r j l hh=>
   match j,l with
   |[a,b,c],_=>rw[gH (hh 0 _ a rfl rfl),gH (hh 1 _ b rfl rfl),gH (hh 2 _ c rfl rfl)]
 obtain rfl:=rd e;obtain rfl:=rd i;exact⟨_,.bool _,Fm _ _ p q w⟩
section
variable{Q:Nd ->Prop}{N:Int}{x y:Tr}
theorem NP{a b:List Nd}(ha:a.length<=4096)(hb:b.length<=4096):VC prog 135 [ah a,ah b] (.bool (decide (a=b))):=by
 have t:=au ndP a;have u:=au ndP b;have r:a≠b ->PV.bool false= .bool (decide (a=b)):=λh=>by rw[KH h]
 refine vf 26 [.tmp 4] τok func135 ?_;refine af (λg=>?_) (λg=>?_)
 ·exact⟨_,_,rfl,rfl,r λh=>by subst h;omega⟩
 refine vl τok (σ:=Nat) [(0,_),(1,_),(12,_)] (λi=>[(13,vI i)]) (λi=>i<=a.length/\a.take i=b.take i) (λi=>a.length-i) 0 ⟨KV _,Ud⟩ ?_;rintro i ⟨v,j⟩;refine af (λg=>?_) (λg=>?_)
 ·obtain⟨p,o,w⟩:=ay (l:=a) (k:=i)
  obtain⟨q,d,s⟩:=ay (l:=b) (k:=i);refine vm i o ?_;refine vm i d ?_;refine sO ?_
  by_cases h:p=q
  ·rw[KU h]
   refine vk ?_;refine vi ?_;exact aw (i+1) ⟨Uo,by rw[QQ,QQ,j,o,d,h]⟩
  ·rw[KH h]
   exact vk ⟨_,_,rfl,rfl,r λe=>h (by subst e;rw[o]at d;exact JB d)⟩
 ·exact aE (h3:=by
   rw[JG Uo,JG Uo]at j;rw[KU j]
   rfl)
theorem NQ(a:Ft Q N x)(b:Ft Q N y):VC prog 135 [ah (row x),ah (row y)] (.bool (decide (row x=row y))):=NP a.len b.len
theorem A3{a b:List Int}(ha:∀x∈a,I64 x)(hb:∀x∈b,I64 x)(h1:a.length<=1000)(h2:b.length<=1000):VC prog 290 [.sl (a.map iP),.sl (b.map iP)] (.bool (decide (a=b))):=by
 have s:=au iP a;have t:=au iP b;have o:a≠b ->PV.bool false= .bool (decide (a=b)):=λh=>by rw[KH h]
 refine vf 26 [.tmp 4] τok func290 ?_;refine af (λg=>?_) (λg=>?_)
 ·exact⟨_,_,rfl,rfl,o λh=>by subst h;omega⟩
 refine vl τok (σ:=Nat) [(0,_),(1,_),(12,_)] (λi=>[(13,vI i)]) (λi=>i<=a.length/\a.take i=b.take i) (λi=>a.length-i) 0 ⟨KV _,Ud⟩ ?_;rintro i ⟨h1,h2⟩;refine af (λg=>?_) (λg=>?_)
 ·obtain⟨p,j,u⟩:=ay (l:=a) (k:=i)
  obtain⟨q,d,r⟩:=ay (l:=b) (k:=i);refine vm i j ?_;refine vm i d ?_;refine af (λh=>?_) (λh=>?_)
  ·exact vk ⟨_,_,rfl,rfl,o λe=>h (by subst e;rw[j]at d;exact JB d)⟩
  ·have h:¬ p≠q:=h
   refine vk ?_;refine vi ?_;exact aw (i+1) ⟨Uo,by rw[QQ,QQ,h2,j,d,Decidable.not_not.1 h]⟩
 ·exact aE (h3:=by
   rw[JG Uo,JG Uo]at h2;rw[KU h2]
   rfl)
theorem Gy(a:Ft Q N x)(d:x.n.op=12):VC prog 291 [ah (row x)] (.sl ((placesM x).map iP)):=by
 have w:=aC a;have F:=dp a.ok d;have t:=a.len;obtain⟨b,z⟩:∃b:Nat,x.n.b=(b:Int):=⟨x.n.b.toNat,Uo⟩
 have hpl:(placesM x).length=b:=by simp[placesM];omega
 refine cR 27 [.tmp 2] τok func291 ?_;refine aj<|aI 0 (aL w) ?_;refine dC 3 1000 3 1 rfl rfl<|aB τok (σ:=Nat) [(0,_),(8,_)] [] (λi=>[(3,.c (.row 1000)),(4,vI ((1+(rows (x.ks.take i)).length:Nat):Int)),(9,vI i)]) (λi=>[(1000,.rw 3 1 (((placesM x).take i).map iP))]) (λi=>i<=b) (λi=>b-i) 0 (KV _) ?_ (x1:=⟨rfl,KG (λn:Int=>some (vI n)) (by simp[rows]),rfl,trivial⟩);intro i H;have I:((placesM x).take i).length=i:=by rw[VJ];omega
 refine aj<|af (λe=>?_) (λe=>?_)
 ·have e:(i:Int)<x.n.b:=e
  obtain⟨f,hf,_⟩:=ay (l:=x.ks) (k:=i);obtain⟨u,v,j,C,_,o,q,_,r,r1,r2⟩:=lM a.ok d hf;have D:(placesM x).take (i+1)=(placesM x).take i++[f.n.a]:=dB (by unfold placesM;rw[JX,hf];rfl);have s:=KG List.length r1;simp only[JK,JV]at s;have E:(rows (x.ks.take (i+1))).length=(rows (x.ks.take i)).length+(1+((row u).length+(row v).length)):=by
   rw[dB hf,bF',JK];rw[j];simp[rows,row];omega
  refine aI (1+(rows (x.ks.take i)).length) r ?_;refine bi ?_ (hb:=Uk);refine vi ?_;refine ae (endP a (y:=u) r1 o Uk) ?_;refine ae (endP a (y:=v) r2 q Uk) ?_;refine vi ?_;exact aw (i+1) (by show i+1<=b;omega) (sw 1000 18) (x:=⟨rfl,KG (λn:Int=>some (vI n)) (by rw[E];simp;omega),rfl,trivial⟩) (y':=⟨KG (λl=>some (SE.rw _ _ l)) (by rw[D,KB];rfl),trivial⟩)
 ·have e:¬ (i:Int)<x.n.b:=e
  rw[show (placesM x).take i=placesM x from JG Uo];exact aE
theorem Gz(a:Ok .tm x)(h2:x.n.op=2):(bX x).length<=1000000:=by
 obtain⟨_,b,_,d⟩:=Fo a h2;unfold bX;rw[KF];omega
theorem GA{B:ak}(hI:BoI B)(a:Ft Q N x)(b:Ft Q N y)(h1:x.n.op=2)(h2:y.n.op=2):VC prog 287 [.int .i64 B.vars,.sl (B.orders.map eZ),cF (bX x),cF (bX y)] (.bool (j6 B.vars B.orders (bX x) (bX y))):=NO _ _ _ _ (Gz a.ok h1) (Gz b.ok h2)
end
section
variable{B:ak}(hI:BoI B)(hB:GoodB B)
include hI hB
variable{cx:Ctx}(hcx:CxOk B cx)(hcl:cx.length<=260)
include hcx hcl
theorem A5{x:Tr}(a:Ft (QB B) (cx.length:Int) x)(n:Int):VC prog 70 [bw B,aH (cx.map aA),ah (row x),pI n] (match dW B cx x n with
  | .ok q=>.tup [ah (row q.1),pI q.2,pI 0]
  | .error e=>.tup [.sl [],pI 0,pI e]):=NI hB hcx (by omega) a n
end
def gQ(B:ak)(c:PV)(n er:PV):List PV:=[.int .i64 B.vars,.sl (B.orders.map eZ),.sl (B.ents.map cj),.int .i64 B.nat,.sl (B.prims.map iU),c,n,er]
abbrev jy(B:ak)(cx:Ctx)(n:Int):List PV:=gQ B (aH (cx.map aA)) (pI n) (pI 0)
def mj(B:ak)(cx:Ctx)(r:Except Int (Bool×Nat)):List PV×PV:=match r with
 | .ok q=>(jy B cx q.2,.bool q.1)
 | .error e=>(gQ B (aH (cx.map aA)) .unk (pI e),.bool false)
def nC(B:ak)(cx:Ctx)(x y:Tr)(u:Bool)(n:Nat)(r:Except Int (Bool×Nat)):Prop:=VP prog 254 317 (jy B cx n) (mj B cx r).1 [ah (row x),ah (row y),.bool u] (mj B cx r).2
def ws(B:ak)(g:Nat)(rc:RcC):Prop:=∀(cx:Ctx) (x y:Tr) (u:Bool) (n:Nat),CxOk B cx ->cx.length<=260 ->Ft (QB B) (cx.length:Int) x ->Ft (QB B) (cx.length:Int) y ->n<=g ->n<=100000 ->nC B cx x y u n (rc cx x y u n)
section
variable{B:ak}{cx:Ctx}{n:Nat}
theorem GB(hI:BoI B)(hB:GoodB B)(hcx:CxOk B cx)(hcl:cx.length<=260){x:Tr}(d:Ft (QB B) (cx.length:Int) x):(∀e,dW B cx x (n:Int)= .error e ->VP prog 269 317 (jy B cx n) (gQ B (aH (cx.map aA)) (pI 0) (pI e)) [ah (row x)] (.tup [.sl [],.bool false]))/\∀q,dW B cx x (n:Int)= .ok q ->VP prog 269 317 (jy B cx n) (jy B cx q.2) [ah (row x)] (.tup [ah (row q.1),.bool true]):=by
 have a:=A5 hI hB hcx hcl d (n:Int);refine⟨λe b=>?_,λq i=>?_⟩
 ·rw[b]at a
  have j:e≠0:=by rcases whnf_er _ _ _ _ _ b with rfl|rfl<;>decide
  refine aP (r:=.ok (_,_)) 38 [.tmp 4,.tmp 5] τok func269 ?_;refine aj<|ae a ?_;refine vk ?_;exact vF j<|eP9
 ·rw[i]at a
  refine aP (r:=.ok (_,_)) 38 [.tmp 4,.tmp 5] τok func269 ?_;refine aj<|ae a ?_;refine vk ?_;exact vz<|eP9
theorem NR(hI:BoI B){f g:Tr}{N:Int}(hf:Ft (QB B) N f)(e:Ft (QB B) N g)(f2:f.n.op=2)(j:g.n.op=2)(u:Bool){c fu:PV}:VP prog 282 317 (gQ B c fu (pI 0)) (gQ B c fu (pI 0)) [ah (row f),ah (row g),.bool u] (.bool (iC B f g u)):=by
 have i:=GA hI hf e f2 j;have l:=GA hI e hf j f2;generalize b:iC B f g u=d;unfold iC at b;refine aP (r:=.ok (_,_)) 57 [.tmp 8] τok func282 ?_;refine aj<|ae (wq hf.ok hf.len f2) ?_;refine ae (wq e.ok e.len j) ?_;refine aI 0 (aL (aC hf)) ?_;refine aI 0 (aL (aC e)) ?_;refine af (λa=>?_) (λa=>?_)
 ·rw[KU (p:=f.n.a=g.n.a) a,Bool.true_and]at b
  cases k:j6 B.vars B.orders (bX f) (bX g)with
  |false=>
   rw[k]at i b;obtain rfl:false=d:=b;refine ae i ?_;exact kP9
  |true=>
   rw[k]at i;rw[k,Bool.true_and]at b;refine ae i ?_;cases u with
   |true=>
    obtain rfl:true=d:=b;exact kP9
   |false=>
    rw[Bool.false_or]at b;rw[b]at l;refine ae l ?_;exact kP9
 ·rw[KH (p:=f.n.a=g.n.a) a]at b
  obtain rfl:false=d:=b;exact kP9
variable{g:Nat}{rc:RcC}
theorem GD(hrc:ws B g rc)(hle:om rc)(hcx:CxOk B cx)(hcl:cx.length<=260)(hn:n<=g)(hn1:n<=100000){xs ys:List Tr}(t:∀x∈xs,Ft (QB B) (cx.length:Int) x)(u:∀x∈ys,Ft (QB B) (cx.length:Int) x)(hl:xs.length=ys.length)(F:xs.length<=100000):VP prog 271 317 (jy B cx n) (mj B cx (dh rc cx xs ys n)).1 [bD (xs.map row),bD (ys.map row)] (mj B cx (dh rc cx xs ys n)).2:=by
 generalize j:dh rc cx xs ys n=d;have L:=au rP (xs.map row);have M:=au row xs;refine aP (r:=.ok (_,_)) 25 [.tmp 6] τok func271 ?_;refine aj<|aB τok (σ:=Nat×Nat) [(0,_),(1,_),(2,_),(9,_)] [] (λq=>[(10,vI q.1)]) (λq=>[(0,.st 1 317 ((jy B cx q.2).map .p))]) (λq=>q.1<=xs.length/\q.2<=n/\dh rc cx (xs.drop q.1) (ys.drop q.1) q.2=d) (λq=>xs.length-q.1) (0,n) ⟨KV _,KJ _,j⟩ ?_
 clear j
 rintro⟨i,m⟩ ⟨H,I,a⟩;simp only at H I a
 dsimp only
 refine aj<|af (λs=>?_) (λs=>?_)
 ·have s:(i:Int)<(((xs.map row).map rP).length:Int):=s
  obtain⟨x,D,v⟩:=ay (l:=xs) (k:=i);obtain⟨y,E,w⟩:=ay (l:=ys) (k:=i);rw[v,w]at a;simp only[dh]at a;have o:=hrc cx x y false m hcx hcl (t x (JQ D)) (u y (JQ E)) Uo Uo;unfold nC at o;refine az i (x:=row x) (by rw[JX,D];rfl) ?_;refine az i (x:=row y) (by rw[JX,E];rfl) ?_;cases z:rc cx x y false m with
  |error e=>
   rw[z]at o a;obtain rfl:.error e=d:=a;refine ax o ?_;exact kP9
  |ok q=>
   obtain⟨b,C⟩:=q;have:=hle _ _ _ _ _ _ z;simp only at this;rw[z]at o a;cases b with
   |false=>
    obtain rfl:.ok (false,C)=d:=a;refine ax o ?_;exact kP9
   |true=>
    have a:dh rc cx (xs.drop (i+1)) (ys.drop (i+1)) C=d:=a;refine ax o ?_;refine vk ?_;refine vi ?_;exact aw (i+1,C) ⟨Us,Us,a⟩
 ·have s:¬ (i:Int)<(((xs.map row).map rP).length:Int):=s
  rw[JY Uo]at a;obtain rfl:.ok (true,m)=d:=a;exact eP9
end
theorem A6{f:FuncId}(r:dM prog f)(h:∀w a n c,n<=c ->(n=0 \/∃b o,a=some ⟨b,o,none⟩) ->Calls prog f #[.slice a n c] w λe w'=>(∃d,e= .returned (.slice d n n)/\(n=0 \/d=a))/\Kp [] w w')(l:List (List PV)):VG prog f [.c (.p (.sl l))] [] (.ok (.c (.cl l),[])):=⟨r,λw X C ρ D E q=>by
 match D,E with
 |[v],_=>
 obtain⟨F,H,hr⟩:=q.slot 0 _ rfl λk I=>by cases I
 obtain rfl:v=F:=JB H;have hr:RV C (.sl l) v:=hr;obtain⟨a,c,rfl,hle,s,u⟩:∃a c,v= .slice a l.length c/\l.length<=c/\(l.length=0 \/∃b o,a=some ⟨b,o,none⟩)/\∀d,(l.length=0 \/d=a) ->RV C (.sl l) (.slice d l.length l.length):=by
  cases hr with
  |nil a c=>exact⟨a,c,rfl,KV _,.inl rfl,λd _=>.nil d 0⟩
  |sl _ L b o c f M O S U=>exact⟨_,c,rfl,O,.inr ⟨b,o,rfl⟩,λd z=>z.elim (λs=>by obtain rfl:=List.length_eq_zero_iff.1 s;exact .nil d 0) λe=>e▸ .sl l L b o l.length f M (KJ _) S U⟩
 refine(h w a l.length c hle s).mono λe w' ⟨⟨d,V,z⟩,k⟩=>⟨_,C,ρ,V,λt b W _=>?_,λk x i=>(by cases i),λj k x y g _ i=>(by cases i),λk x g b o v i=>(by cases i),q.sub.tr k,q.c0,q.cn,k.weak Ud⟩
 obtain⟨rfl,rfl⟩:=bI W;exact⟨_,rfl,u d z,d,rfl⟩⟩
theorem NS(l:List (List PV)):VG prog 289 [.c (.p (.sl l))] [] (.ok (.c (.cl l),[])):=A6 ⟨_,func289,rfl,UO⟩ (λw a n c d e=>by
 refine cO (args:=[_]) 9 [.tmp 2] τok func289 ?_;refine zA τok rfl n n rfl rfl (KJ _) d ?_;rcases e with rfl|⟨b,o,rfl⟩
 ·exact⟨⟨_,rfl,.inl rfl⟩,Kp.refl _ _⟩
 ·rw[oP]
  exact⟨⟨_,rfl,.inr rfl⟩,Kp.refl _ _⟩) l
theorem NT(l:List (List PV)):VG prog 225 [.c (.p (.sl l))] [] (.ok (.c (.cl l),[])):=A6 ⟨_,func225,rfl,UO⟩ (λw a n c d e=>by
 refine cO (args:=[_]) 9 [.tmp 2] τok func225 ?_;refine zA τok rfl n n rfl rfl (KJ _) d ?_;rcases e with rfl|⟨b,o,rfl⟩
 ·exact⟨⟨_,rfl,.inl rfl⟩,Kp.refl _ _⟩
 ·rw[oP]
  exact⟨⟨_,rfl,.inr rfl⟩,Kp.refl _ _⟩) l
theorem ww(l:List (List Nd×List Nd)):∀x∈l.map bdP,x.length=2/\∀q∈x,q.one=true:=λx b=>by
 obtain⟨y,_,rfl⟩:=List.mem_map.1 b;exact⟨rfl,λq a=>by
  simp only[bdP,JJ,JZ,or_false]at a;rcases a with rfl|rfl<;>rfl⟩
theorem GF(l:List (List Nd×List Nd)):∀x∈l,(bdP x).length=2/\∀q∈bdP x,q.one=true:=λx a=>ww l _ (QD a)
def s9(c:PV)(cs:List PV):List (Nat×SE):=[(0,.st 1 27 [.p c]),(1,.st 2 315 [.ptr 2 0]),(2,.st 3 317 (cs.map .p))]
theorem NU{B:ak}{c:List (List PV)}{k fu er:PV}:VD prog 288 .returning [0,1] (s9 (.sl c) (gQ B k fu er)) (s9 (.sl c) (gQ B (.sl c) fu er)):=by
 refine⟨⟨_,func288,rfl,UO⟩,λw X C ρ q=>?_⟩;refine callsD_of_wpS func288 rfl λl r s=>?_;have h:VCode prog 6 (Tryz.f288.body.getD .skip) ⟨ja' (jD [0,1]) 0,s9 (.sl c) (gQ B k fu er)⟩ λe A=>e= .normal/\kI id A (s9 (.sl c) (gQ B (.sl c) fu er)):=by
  exact aj<|⟨rfl,rfl,rfl,rfl,trivial⟩
 have o:=h.run _ _ _ _ _ ⟨C,ρ,q⟩;unfold EvCode at o;refine wpS_of_wp (Go.wp_mono (o _ (lH Ud rfl (by simp[ini]))) ?_);rintro e E F ⟨H,d,u,I,⟨rfl,v⟩,i⟩;obtain⟨z,j,b⟩:=i.le (iu (f:=id) (B:=⟨[],s9 (.sl c) (gQ B (.sl c) fu er)⟩) VQ v rfl);exact qm d u rfl s ⟨⟨_,rfl⟩,rfl,z,j,λt a D=>(by cases D),b.ent,b.sep,b.off,b.sub,b.c0,b.cn,b.kp⟩
section
variable{B:ak}{cx mo:Ctx}{n:Nat}
theorem GG(hcx:CxOk B cx)(i:CxOk B (cx++mo))(hcl:(cx++mo).length<=260)(a:0<mo.length){s t:List Nd}{fu er:PV}{u b:Bool}(d:VP prog 254 317 (jy B (cx++mo) n) (gQ B (aH ((cx++mo).map aA)) fu er) [ah s,ah t,.bool u] (.bool b)):
  VP prog 283 317 (jy B cx n) (gQ B (aH (cx.map aA)) fu er) [aH (mo.map aA),ah s,ah t,.bool u] (.bool b):=by
 have e:aH ((cx++mo).map aA)= .sl ((cx.map aA).map bdP++(mo.map aA).map bdP):=by rw[KB];exact KG PV.sl (KB ..)
 unfold jy at d;rw[e]at d;have el:(cx++mo).length=cx.length+mo.length:=JK;refine Lr 29 [.tmp 10] τok func283 ?_;refine aj ?_;refine aj ?_;refine⟨⟨rfl,rfl,rfl⟩,rfl,λj=>?_⟩;refine aD ?_;refine aT id (λ_=>0) (NS _) ?_;refine⟨⟨by simpa using a,ww _⟩,va ?_ (GF _) (hb:=by simp;omega)⟩;refine vk ?_;refine uE 0 5 21 ?_;refine aj ?_;refine ax d ?_;refine jn (λk=>sw 2 0 (sw 1 5 (sw 0 11 k))) (λk=>1-k) NU ?_;exact dD
end
theorem GH(l:List Tr)(i:Nat)(h:i+1<l.length):l.drop i=l.getD i (varX 0)::l.getD (i+1) (varX 0)::l.drop (i+2):=by
 rw[List.drop_eq_getElem_cons Uo,List.drop_eq_getElem_cons Uo];simp only[QK,List.getElem?_eq_getElem (show i<l.length by omega),List.getElem?_eq_getElem h,Option.getD_some]
section
variable{B:ak}{cx mo:Ctx}{n g:Nat}{rc:RcC}
theorem A7(hcx:CxOk B cx)(a:CxOk B (cx++mo))(hcl:(cx++mo).length<=260)(b:0<mo.length){x y:Tr}{u:Bool}{r:Except Int (Bool×Nat)}(h:nC B (cx++mo) x y u n r):VP prog 283 317 (jy B cx n) (mj B cx r).1 [aH (mo.map aA),ah (row x),ah (row y),.bool u] (mj B cx r).2:=by
 cases r with
 |ok q=>exact GG hcx a hcl b h
 |error e=>exact GG hcx a hcl b h
theorem GI{Q:Nd ->Prop}{N:Int}{x:Tr}(b:Ft Q N x)(a:x.n.op=12):(∀v∈placesM x,I64 v)/\(placesM x).length<=1000:=by
 have k:=dp b.ok a;refine⟨λv d=>?_,by unfold placesM;rw[KF];omega⟩;obtain⟨f,hf,rfl⟩:=List.mem_map.1 d;obtain⟨i,e⟩:=JH hf;obtain⟨_,_,_,_,j,_⟩:=lM b.ok a e;exact(EN j).2.1
variable(hrc:ws B g rc)(hle:om rc)(hcx:CxOk B cx)(hcl:cx.length<=256)(hn:n<=g)(hn1:n<=100000){f h:Tr}(hf:Ft (QB B) (cx.length:Int) f)(hh:Ft (QB B) (cx.length:Int) h)
include hrc hle hcx hcl hn hn1 hf hh
theorem NV(f12:f.n.op=12)(s:f.n=h.n):VP prog 284 317 (jy B cx n) (mj B cx (nf rc cx f h n)).1 [ah (row f),ah (row h),bD ((kidsT f).map row),bD ((kidsT h).map row)] (mj B cx (nf rc cx f h n)).2:=by
 have t:h.n.op=12:=by rw[<- s];exact f12
 have wf:=aC hf;have M:=aC hh;have hl:=dp hf.ok f12;have S:=fA hf.ok f12;have H:=fA hh.ok t;rw[<- s]at H;obtain⟨v,U⟩:∃v:Nat,f.n.b=(v:Int):=⟨f.n.b.toNat,Uo⟩
 obtain⟨V,W⟩:=GI hf f12;obtain⟨X,Y⟩:=GI hh t;have Z:=oq f;have z:=ng hcx Uo hf f12;have u:(cx++aQ f).length=cx.length+v:=by rw[JK];omega
 have eK:=au rP ((kidsT f).map row);have a0:=au row (kidsT f);generalize d:nf rc cx f h n=k;unfold nf at d;have D:=A3 V X W Y;refine aP (r:=.ok (_,_)) 76 [.tmp 10] τok func284 ?_;refine aj<|ae (Gy hf f12) ?_;refine ae (Gy hh t) ?_
 by_cases E:placesM f=placesM h
 rotate_left
 ·rw[KY E]at d
  rw[KH E]at D;obtain rfl:.ok (false,n)=k:=d;refine ae D ?_;exact eP9
 rw[KX E]at d;rw[KU E]at D;refine ae D ?_;refine dC 11 1000 87 2 rfl rfl<|aB τok (σ:=Nat) [(0,_),(3,_),(4,_)] [(0,_)] (λi=>[(11,.c (.row 1000)),(12,vI ((2*i:Nat):Int))]) (λi=>[(1000,.rw 87 2 ((((aQ f).take i).map aA).map bdP))]) (λi=>i<=v) (λi=>v-i) 0 (KV _) ?_;rintro i hi;have l1:((aQ f).take i).length=i:=by rw[VJ];omega
 refine aj<|af (λo=>?_) (λo=>?_)
 ·have o:((2*i:Nat):Int)<((((kidsT f).map row).map rP).length:Int):=o
  obtain⟨_,_,f0,_⟩:=gM hf f12 (i:=i) Uo;have tt:(aQ f).take (i+1)=(aQ f).take i++[(aK (kidD f (2*i)) i 0,none)]:=dB (Ae Uo);have hL:VC prog 85 [ah (row (kidD f (2*i))),pI (((2*i:Nat):Int)/2),pI 0] (.tup [ah (row (aK (kidD f (2*i)) i 0)),pI 0]):=by
   rw[show ((2*i:Nat):Int)/2=(i:Int) by omega];exact lQ f0 Uo Uo
  refine az (2*i) (aF wf) ?_;refine pT Uo Uo Uo<|ae hL ?_;refine bi ?_ (hb:=Uk);refine vi ?_;exact aw (i+1) (by show i+1<=v;omega) (sw 1000 42) (x:=⟨rfl,KG (λn:Int=>some (vI n)) Uo,trivial⟩) (y':=⟨KG (λl=>some (SE.rw _ _ l)) (by rw[tt,KB,KB];rfl),trivial⟩)
 have o:¬ ((2*i:Nat):Int)<((((kidsT f).map row).map rP).length:Int):=o;obtain rfl:i=v:=Uo
 rw[JG Uo];refine nV 11 1000 ?_;refine aB τok (σ:=Nat×Nat) [(0,_),(3,_),(4,_),(11,_)] [] (λq=>[(15,vI ((2*q.1:Nat):Int))]) (λq=>[(0,.st 1 317 ((jy B cx q.2).map .p))]) (λq=>q.1<=i/\q.2<=n/\eJ rc cx (cx++aQ f) ((kidsT f).drop (2*q.1)) ((kidsT h).drop (2*q.1)) q.2=k) (λq=>i-q.1) (0,n) ⟨KV _,KJ _,d⟩ ?_
 clear d o
 rintro⟨j,m⟩ ⟨hj,hm,a⟩;simp only at hj hm a
 dsimp only
 refine aj<|af (λo=>?_) (λo=>?_)
 ·have o:((2*j:Nat):Int)<((((kidsT f).map row).map rP).length:Int):=o
  obtain⟨_,_,f0,f1⟩:=gM hf f12 (i:=j) Uo;obtain⟨_,_,h0,h1⟩:=gM hh t (i:=j) (by rw[<- s];omega);have d1:(kidsT f).drop (2*j)=kidD f (2*j)::kidD f (2*j+1)::(kidsT f).drop (2*(j+1)):=GH (kidsT f) (2*j) Uo;have d2:(kidsT h).drop (2*j)=kidD h (2*j)::kidD h (2*j+1)::(kidsT h).drop (2*(j+1)):=GH (kidsT h) (2*j) Uo;rw[d1,d2]at a;simp only[eJ]at a;have w:=hrc cx (kidD f (2*j)) (kidD h (2*j)) false m hcx Uo f0 h0 Uo Uo;unfold nC at w;refine az (2*j) (aF wf) ?_;refine az (2*j) (aF M) ?_;cases I:rc cx (kidD f (2*j)) (kidD h (2*j)) false m with
  |error e=>
   rw[I]at w a;obtain rfl:.error e=k:=a;refine ax w ?_;exact kP9
  |ok q=>
  obtain⟨b,F⟩:=q;have:=hle _ _ _ _ _ _ I;simp only at this;rw[I]at w a;cases b with
  |false=>
   obtain rfl:.ok (false,F)=k:=a;refine ax w ?_;exact kP9
  |true=>
  have a:gL (rc (cx++aQ f) (kidD f (2*j+1)) (kidD h (2*j+1)) false F) (eJ rc cx (cx++aQ f) ((kidsT f).drop (2*(j+1))) ((kidsT h).drop (2*(j+1))))=k:=a;have C:=A7 hcx z Uo Uo (hrc _ (kidD f (2*j+1)) (kidD h (2*j+1)) false F z Uo (by rw[u];exact f1.mono Uo) (by rw[u];exact h1.mono (by rw[<- s];omega)) Uo Uo);refine ax w ?_;refine vi ?_;refine az (2*j+1) (aF wf) ?_;refine vi ?_;refine az (2*j+1) (aF M) ?_;cases L:rc (cx++aQ f) (kidD f (2*j+1)) (kidD h (2*j+1)) false F with
  |error e=>
   rw[L]at C a;obtain rfl:.error e=k:=a;refine ax C ?_;exact kP9
  |ok q=>
  obtain⟨b,O⟩:=q;have:=hle _ _ _ _ _ _ L;simp only at this;rw[L]at C a;cases b with
  |false=>
   obtain rfl:.ok (false,O)=k:=a;refine ax C ?_;exact kP9
  |true=>
  refine ax C ?_;refine vk ?_;refine vi ?_;exact aw (j+1,O) ⟨Us,Us,a⟩ (x:=⟨KG (λn:Int=>some (vI n)) Us,trivial⟩)
 ·have o:¬ ((2*j:Nat):Int)<((((kidsT f).map row).map rP).length:Int):=o
  rw[JY Uo]at a;obtain rfl:.ok (true,m)=k:=a;exact eP9
end
section
variable{B:ak}{cx:Ctx}{n g:Nat}{rc:RcC}
section
variable(hI:BoI B)(hrc:ws B g rc)(hle:om rc)(hcx:CxOk B cx)(hcl:cx.length<=256)(hn:n<=g)(hn1:n<=100000){f h:Tr}(hf:Ft (QB B) (cx.length:Int) f)(hh:Ft (QB B) (cx.length:Int) h)
include hI hrc hle hcx hcl hn hn1 hf hh
theorem NW(k:f.n.op=h.n.op)(I:f.n.op≠7)(u:Bool):VP prog 270 317 (jy B cx n) (mj B cx (jq B rc cx f h u n)).1 [ah (row f),ah (row h),.bool u] (mj B cx (jq B rc cx f h u n)).2:=by
 have wf:=aC hf;have z:=aC hh;have M:=iy hf.ok;generalize a:jq B rc cx f h u n=d;unfold jq at a;refine aP (r:=.ok (_,_)) 107 [.tmp 8] τok func270 ?_;refine aj<|ae (iY hf) ?_;refine ae (iY hh) ?_;refine aI 0 (aL wf) ?_;refine af (λl=>?_) (λl=>?_)
 ·have l:f.n.op=2:=l
  rw[KX l]at a;subst a;refine ax (NR hI hf hh l (by rw[<- k];exact l) u) ?_;exact eP9
 have l:¬ f.n.op=2:=l;rw[KY l]at a;have L:f.n.op=4 \/f.n.op=5 ->(kidsT f).length=2/\(kidsT h).length=2/\nC B cx (kidD f 0) (kidD h 0) false n (rc cx (kidD f 0) (kidD h 0) false n)/\CxOk B (cx++[(kidD f 0,none)])/\Ft (QB B) ((cx.length+1:Nat):Int) (kidD f 1)/\Ft (QB B) ((cx.length+1:Nat):Int) (kidD h 1):=λg=>by
  obtain⟨E,f0,f1⟩:=dq hf g;obtain⟨F,i,v⟩:=dq hh (by rw[<- k];exact g);exact⟨E,F,hrc _ _ _ _ _ hcx Uo f0 i hn hn1,hcx.snoc f0 λx O=>(by cases O),f1.mono Uo,v.mono Uo⟩
 refine af (λs=>?_) (λs=>?_)
 ·have s:f.n.op=4:=s
  rw[KX s]at a;obtain⟨E,F,i,o,f1,H⟩:=L (.inl s);unfold nC at i;refine az 0 (aF wf) ?_;refine az 0 (aF z) ?_;cases w:rc cx (kidD f 0) (kidD h 0) false n with
  |error e=>
   rw[w]at i a;obtain rfl:.error e=d:=a;refine ax i ?_;exact kP9
  |ok q=>
  obtain⟨b,m⟩:=q;have:=hle _ _ _ _ _ _ w;simp only at this;rw[w]at i a;cases b with
  |false=>
   obtain rfl:.ok (false,m)=d:=a;refine ax i ?_;exact kP9
  |true=>
   have a:rc (cx++[(kidD f 0,none)]) (kidD f 1) (kidD h 1) u m=d:=a;have v:=A7 hcx (mo:=[(kidD f 0,none)]) o (by rw[bB];omega) Nat.one_pos (hrc _ _ _ u m o (by rw[bB];omega) (by rw[bB];exact f1) (by rw[bB];exact H) Uo Uo);rw[a]at v;refine ax i ?_;refine az 0 (aF wf) ?_;refine az 1 (aF wf) ?_;refine az 1 (aF z) ?_;have hr:=v;cases d with
   |error e=>
    refine ax hr ?_;exact kP9
   |ok q=>
    refine ax hr ?_;exact kP9
 have s:¬ f.n.op=4:=s;rw[KY s]at a;refine af (λt=>?_) (λt=>?_)
 ·have t:f.n.op=5:=t
  rw[KX t]at a;obtain⟨E,F,i,o,f1,H⟩:=L (.inr t);unfold nC at i;refine az 0 (aF wf) ?_;refine az 0 (aF z) ?_;cases w:rc cx (kidD f 0) (kidD h 0) false n with
  |error e=>
   rw[w]at i a;obtain rfl:.error e=d:=a;refine ax i ?_;exact kP9
  |ok q=>
  obtain⟨b,m⟩:=q;have:=hle _ _ _ _ _ _ w;simp only at this;rw[w]at i a;cases b with
  |false=>
   obtain rfl:.ok (false,m)=d:=a;refine ax i ?_;exact kP9
  |true=>
   have a:rc (cx++[(kidD f 0,none)]) (kidD f 1) (kidD h 1) false m=d:=a;have v:=A7 hcx (mo:=[(kidD f 0,none)]) o (by rw[bB];omega) Nat.one_pos (hrc _ _ _ false m o (by rw[bB];omega) (by rw[bB];exact f1) (by rw[bB];exact H) Uo Uo);rw[a]at v;refine ax i ?_;refine az 0 (aF wf) ?_;refine az 1 (aF wf) ?_;refine az 1 (aF z) ?_;have hr:=v;cases d with
   |error e=>
    refine ax hr ?_;exact kP9
   |ok q=>
    refine ax hr ?_;exact kP9
 have t:¬ f.n.op=5:=t;rw[KY t]at a;refine af (λj=>?_) (λj=>?_)
 ·have j:f.n.op=12:=j
  rw[KX j]at a;refine aI 0 (aL wf) ?_;refine aI 0 (aL z) ?_;refine Gx ?_
  by_cases hn:f.n=h.n
  rotate_left
  ·rw[KY hn]at a
   obtain rfl:.ok (false,n)=d:=a;rw[KH hn];exact kP9
  rw[KX hn]at a;rw[KU hn];have hr:=NV hrc hle hcx hcl ‹n<=g› hn1 hf hh j hn;rw[a]at hr;cases d with
  |error e=>
   refine ax hr ?_;exact kP9
  |ok q=>
   refine ax hr ?_;exact kP9
 have j:¬ f.n.op=12:=j;rw[KY j]at a;refine aI 0 (aL wf) ?_;refine aI 0 (aL z) ?_;refine Gx ?_
 by_cases hn:f.n=h.n
 rotate_left
 ·rw[KY hn]at a
  obtain rfl:.ok (false,n)=d:=a;rw[KH hn];exact kP9
 rw[KX hn]at a;rw[KU hn];have C:=m8 hf.ok l j;have D:=m8 hh.ok (by rw[<- k];exact l) (by rw[<- k];exact j);have hr:=GD hrc hle hcx Uo ‹n<=g› hn1 (Af hf ⟨s,t,I,j⟩) (Af hh (by rw[<- k];exact⟨s,t,I,j⟩)) (by rw[C.1,D.1];have:=C.2;have:=D.2;rw[<- hn]at this;omega) Uo;rw[a]at hr;cases d with
 |error e=>
  refine ax hr ?_;exact kP9
 |ok q=>
  refine ax hr ?_;exact kP9
end
end
theorem VP.wk{P:Program}{f:FuncId}{T:Nat}{cs c1 d ps:List PV}{r:PV}(h:VP P f T cs c1 ps r)(i:∀C us,cZ C c1 us ->cZ C d us):VP P f T cs d ps r:=.of ⟨h.1,λw C b us j k l o q s t=>((VP.run h).2 w C b us j k l o q s t).mono λe I ⟨v,u,a,z,D,E,F,H⟩=>⟨v,u,a,z,D,E,i _ _ F,H⟩⟩
theorem wA{B:ak}{c n e:PV}{m:Int}(hn:n=pI m)(C:Mem)(us:List Value)(h:cZ C (gQ B c n e) us):cZ C (gQ B c .unk e) us:=by
 subst hn;refine⟨h.1,λi x v a b=>?_⟩
 match i,a with
 |0,a=>exact h.2 0 x v a b
 |1,a=>exact h.2 1 x v a b
 |2,a=>exact h.2 2 x v a b
 |3,a=>exact h.2 3 x v a b
 |4,a=>exact h.2 4 x v a b
 |5,a=>exact h.2 5 x v a b
 |6,a=>
  obtain rfl:=JB a;rw[gH (h.2 6 _ v rfl b)];exact .unk m
 |7,a=>exact h.2 7 x v a b
 |i+8,a=>cases a
section
variable{B:ak}{cx:Ctx}(hI:BoI B)(hB:GoodB B)
include hI hB
theorem xR':∀g,ws B g (db B g):=by
 have zero:∀(cx:Ctx) (x y:Tr) (u:Bool),nC B cx x y u 0 (.error 10):=λcx x y u=>by
  refine VP.wk (c1:=gQ B (aH (cx.map aA)) (pI ((0:Nat):Int)) (pI 10)) ?_ (wA rfl);refine aP (r:=.ok (_,_)) 94 [.tmp 8] τok func254 ?_;refine aj<|vy (p:=((0:Nat):Int)=0) ?_ rfl;exact eP9
 intro g
 induction g with
 |zero=>
  intro cx x y u n _ _ _ _ h _;obtain rfl:n=0:=Uo
  exact zero cx x y u
 |succ g M=>
  intro cx x y u n hcx hcl E F hn hn1;cases n with
  |zero=>exact zero cx x y u
  |succ m=>
  have w:(((m+1:Nat):Int)-1)=(m:Int):=Uo
  have eC:=au bdP (cx.map aA);have W:=au aA cx;have o:=NQ E F;generalize a:db B (g+1) cx x y u (m+1)=d;simp only[db,Nat.add_sub_cancel]at a;rw[KY Uo]at a
  by_cases D:row x=row y
  ·rw[KX D]at a
   rw[KU D]at o;subst a;refine aP (r:=.ok (_,_)) 94 [.tmp 8] τok func254 ?_;refine aj<|vn (p:=((m+1:Nat):Int)=0) ?_;refine vi ?_;rw[w];refine ae o ?_;exact eP9
  rw[KY D]at a;rw[KH D]at o
  by_cases O:256<cx.length
  ·rw[KX O]at a
   subst a;refine VP.wk (c1:=gQ B (aH (cx.map aA)) (pI m) (pI 5)) ?_ (wA rfl);refine aP (r:=.ok (_,_)) 94 [.tmp 8] τok func254 ?_;refine aj<|vn (p:=((m+1:Nat):Int)=0) ?_;refine vi ?_;rw[w];refine ae o ?_;refine vy (p:=(256:Int)<(((cx.map aA).map bdP).length:Int)) ?_;exact eP9
  rw[KY O]at a;obtain⟨X,S⟩:=GB (n:=m) hI hB hcx hcl E;cases i:dW B cx x (m:Int)with
  |error e=>
   rw[i]at a;obtain rfl:.error e=d:=a;refine VP.wk (c1:=gQ B (aH (cx.map aA)) (pI 0) (pI e)) ?_ (wA rfl);refine aP (r:=.ok (_,_)) 94 [.tmp 8] τok func254 ?_;refine aj<|vn (p:=((m+1:Nat):Int)=0) ?_;refine vi ?_;rw[w];refine ae o ?_;refine vn (p:=(256:Int)<(((cx.map aA).map bdP).length:Int)) ?_;refine ax (X e i) ?_;exact eP9
  |ok p=>
  obtain⟨k,U⟩:=p;rw[i]at a;obtain⟨s,V⟩:=vD hB hcx Uo E i;have Y:=sK i;simp only at s V Y;obtain⟨Z,vo⟩:=GB (n:=U) hI hB hcx hcl F;simp only at a;cases j:dW B cx y (U:Int)with
  |error e=>
   rw[j]at a;obtain rfl:.error e=d:=a;refine VP.wk (c1:=gQ B (aH (cx.map aA)) (pI 0) (pI e)) ?_ (wA rfl);refine aP (r:=.ok (_,_)) 94 [.tmp 8] τok func254 ?_;refine aj<|vn (p:=((m+1:Nat):Int)=0) ?_;refine vi ?_;rw[w];refine ae o ?_;refine vn (p:=(256:Int)<(((cx.map aA).map bdP).length:Int)) ?_;refine ax (S _ i) ?_;refine ax (Z e j) ?_;exact eP9
  |ok q=>
  obtain⟨l,H⟩:=q;rw[j]at a;obtain⟨z,y7⟩:=vD hB hcx Uo F j;have l2:=sK j;simp only at z y7 l2;have a:ol B (db B g) cx k l u H=d:=a;unfold ol at a;have nx:=s.nargs;have lx:=s.len;have eA:=au (λt=>[ah t]) ((argsT k).map row);have a0:=au row (argsT k);have eB:=au (λt=>[ah t]) ((argsT l).map row);have a1:=au row (argsT l);refine aP (r:=.ok (_,_)) 94 [.tmp 8] τok func254 ?_;refine aj<|vn (p:=((m+1:Nat):Int)=0) ?_;refine vi ?_;rw[w];refine ae o ?_;refine vn (p:=(256:Int)<(((cx.map aA).map bdP).length:Int)) ?_;refine ax (S _ i) ?_;refine ax (vo _ j) ?_;refine ae (qy s) ?_;refine ae (qy z) ?_;refine aI 0 (aL (aC s.head)) ?_;refine aI 0 (aL (aC z.head)) ?_;refine af (λv=>?_) (λv=>?_)
  ·have v:(headT k).n.op≠(headT l).n.op:=v
   rw[KX (.inl v)]at a;subst a;exact kP9
  have v:(headT k).n.op=(headT l).n.op:=Decidable.not_not.1 v;refine af (λC=>?_) (λC=>?_)
  ·have C:((((argsT k).map row).map λt=>[ah t]).length:Int)≠((((argsT l).map row).map λt=>[ah t]).length:Int):=C
   rw[KX (.inr Uo)]at a;subst a;exact kP9
  have C:¬ ((((argsT k).map row).map λt=>[ah t]).length:Int)≠((((argsT l).map row).map λt=>[ah t]).length:Int):=C;rw[KY Uo]at a;refine vk ?_;have hh:=NW (n:=H) hI M (lR B g) hcx Uo Uo Uo s.head z.head v V u;cases hr:jq B (db B g) cx (headT k) (headT l) u H with
  |error e=>
   rw[hr]at hh a;obtain rfl:.error e=d:=a;refine ax hh ?_;exact eP9
  |ok r=>
  obtain⟨b,I⟩:=r;have l3:=Fq (lR B g) hr;simp only at l3;rw[hr]at hh a;cases b with
  |false=>
   obtain rfl:.ok (false,I)=d:=a;refine ax hh ?_;exact eP9
  |true=>
   have a:dh (db B g) cx (argsT k) (argsT l) I=d:=a;have L:=GD (n:=I) M (lR B g) hcx hcl Uo Uo s.args z.args Uo Uo;rw[a]at L;refine ax hh ?_;cases d with
   |error e=>
    refine ax L ?_;exact eP9
   |ok q=>
    refine ax L ?_;exact eP9
theorem NX(hcx:CxOk B cx)(hcl:cx.length<=260){x y:Tr}(b:Ft (QB B) (cx.length:Int) x)(d:Ft (QB B) (cx.length:Int) y)(f:Int)(u:Bool):VC prog 247 [bw B,aH (cx.map aA),ah (row x),ah (row y),pI f,.bool u] (match lS B cx x y f u with
  | .ok q=>.tup [.bool q.1,pI q.2,pI 0]
  | .error e=>.tup [.bool false,pI 0,pI e]):=by
 have i:=EV';obtain⟨n,hn,hn1⟩:∃n:Nat,min (max f 0) 100000=(n:Int)/\bA f=n:=⟨_,by unfold bA;omega,rfl⟩
 unfold lS;rw[hn1];have a:=xR' hI hB GC cx x y u n hcx hcl b d Uo Uo;unfold nC at a;rw[<- hn]at a;refine vf 43 [.tmp 12,.tmp 13,.tmp 14] τok func247 ?_;cases hr:db B GC cx x y u n with
 |error e=>
  have j:=sM B GC _ _ _ _ _ _ hr;rw[hr]at a;refine ax a ?_;exact vE j<|kA9
 |ok q=>
  rw[hr]at a;refine ax a ?_;exact v0<|kA9
end
theorem NY(l:List Atom):∀x∈l,(atP x).length=2/\∀q∈atP x,q.one=true:=λx _=>⟨rfl,λq a=>by
 simp[atP]at a;rcases a with rfl|rfl<;>rfl⟩
theorem NZ(l:List Atom)(a:0<l.length)(hl:l.length<=1000000):VO prog 223 [cF l] 220 2 (l.map atP):=by
 refine mS 8 [.tmp 2] τok func223 ?_;refine aj<|sF (l:=l.map atP) τok (by rfl) (by rw[KF];exact a)<|va ?_ (NY l);exact⟨7,rfl,rfl⟩
theorem A8{a:List Atom}(ha:a.length<=1000000){b:Int}(C:I64 b):VC prog 188 [cF a,pI b] (.tup [cF (fZ a b),pI (dy a b)]):=by
 have V:=au atP a;unfold I64 at C;have r:∀e,dy a b=e ->e≠0 ->PV.tup [.sl [],pI e]= .tup [cF (fZ a b),pI (dy a b)]:=λe F D=>by
  have hr:fZ a b=[]:=by unfold fZ;rw[KY (by rw[F];exact D)]
  rw[hr,F]
  rfl
 refine vf 39 [.tmp 4,.tmp 5] τok func188 ?_;refine bV (A2 a Uo 16) (λj=>?_) (λj=>?_);rotate_left
 ·exact⟨_,_,rfl,rfl,r 19 (by unfold dy;rw[KX j]) UO⟩
 refine af (λE=>?_) (λE=>?_)
 ·exact⟨_,_,rfl,rfl,r 1 (by unfold dy;rw[KY (by simp[j]),KX E]) UO⟩
 have H:dy a b=if a.any (λx=>decide (1000<x.add+b))then 6 else 0:=by unfold dy;rw[KY (by simp[j]),KY E]
 obtain⟨M,s⟩:=j7 j;have D:0<a.length:=by
  unfold cN at j;split at j
  ·cases j
  ·omega
 refine gm (NZ a D ha) ?_;refine aB τok (σ:=Nat×List Atom) [(1,_),(6,_),(16,_)] [] (λq=>[(17,vI q.1)]) (λq=>[(14,.rw 220 2 (q.2.map atP))]) (λq=>q.1<=a.length/\q.2=(iB a b).take q.1++a.drop q.1/\∀x∈a.take q.1,x.add+b<=1000) (λq=>a.length-q.1) (0,a) ⟨KV _,Ud,λx o=>by simp at o⟩ ?_;rintro⟨i,l⟩ ⟨O,t,z⟩;simp only at O t z;have W:(iB a b).length=a.length:=KF _;refine aj<|af (λu=>?_) (λu=>?_);rotate_left
 ·have u:¬ (i:Int)<((a.map atP).length:Int):=u
  rw[JG Uo,JY Uo,JD]at t;rw[JG Uo]at z;have I:dy a b=0:=by
   rw[H,KY];rw[List.any_eq_true];rintro⟨x,o,h⟩;have:=z x o;simp at h;omega
  refine⟨_,_,rfl,rfl,?_⟩;rw[I,show fZ a b=l by unfold fZ;rw[KX I,t]]
  rfl
 have u:(i:Int)<((a.map atP).length:Int):=u;obtain⟨x,o,L⟩:=ay (l:=a) (k:=i);have d:l[i]?=some x:=by
  rw[t,QU (by rw[VJ];omega),VJ,show i-min i (iB a b).length=0 by omega,L]
  rfl
 have S:=s x (JQ o);refine vm (p:=atP) i d ?_;refine eH d<|vi ?_;refine af (λv=>?_) (λv=>?_)
 ·have v:b>1000-x.add:=v
  exact⟨_,_,rfl,rfl,r 6 (by rw[H,KX];rw[List.any_eq_true];exact⟨x,JQ o,Uk⟩) UO⟩
 have v:¬ b>1000-x.add:=v
 refine vm (p:=atP) i d ?_;refine eH d<|vi ?_;refine vm (p:=atP) i d ?_;refine eH d<|vi ?_;refine aw (i+1,l.set i ⟨x.var,x.add+b⟩) ⟨by show i+1<=_;omega,?_,λy w=>?_⟩ (y':=⟨KG (λl=>some (SE.rw _ _ l)) (by rw[List.map_set];rfl),trivial⟩)
 ·show l.set i _=_
  have U:(iB a b)[i]?=some ⟨x.var,x.add+b⟩:=by unfold iB;rw[JX,o];rfl
  rw[t,L,List.set_append_right _ _ (by rw[VJ];omega),VJ,show i-min i (iB a b).length=0 by omega,List.set_cons_zero,QQ,U];simp
 ·rw[QQ,o]at w
  simp at w;rcases w with w|rfl
  ·exact z y w
  ·omega
open Go.Wx Cd Tm Lv
section
variable{Q:Nd ->Prop}{N:Int}{x y:Tr}
theorem GK{ys:List Tr}(a:Ok .tm x)(hl:(row x).length<=4096)(b:∀y∈ys,Ok .tm y/\(row y).length<=4096)(hn:ys.length<=100000):VC prog 196 [pI 4,bD (ys.map row),ah (row x)] (dg (bk ys x)):=by
 rw[show dg (bk ys x)=_ by unfold bk;rw[apply_ite dg]];exact LM (.inl rfl) a hl b hn
end
theorem GM{vars:Int}{l:List Atom}(h:kh vars l):GL (λx:Atom=>I64 x.var/\I64 x.add) l:=⟨by have:=h.hi;omega,λx a=>by
 have:=h.at_ x a;exact⟨⟨Uo,Uo⟩,⟨Uo,Uo⟩⟩⟩
theorem N0{vars:Int}{a:List Atom}(ha:kh vars a):VC prog 188 [cF a,pI 1] (.tup [cF (fZ a 1),pI (dy a 1)]):=A8 (by have:=ha.hi;omega) (by unfold I64;omega)
theorem A9{vars:Int}{a b:List Atom}(ha:kh vars a)(hb:kh vars b):VC prog 195 [cF a,cF b] (.tup [cF (dx a b),pI (cK a b)]):=K7 ⟨_,func195,rfl,UO⟩ λw C L hS d i=>by
 obtain⟨v,z,rfl,j,l⟩:=uZ i;obtain⟨o,q,rfl,r,M⟩:=br_at.sl (GM ha) j;obtain⟨s,t,rfl,u,O⟩:=br_at.sl (GM hb) l;refine(Ml hS a b o s q t r u).2.mono λe S ⟨D,E,F,⟨H,I⟩,k⟩=>⟨⟨_,F,?_⟩,k⟩
 exact K8 (SV.rv Fz' ⟨D,E,rfl,H.mono λ_ _ _ h=>.inr h,I⟩) (.int _ _)
section
variable{B:ak}(hI:BoI B)(hB:GoodB B)
include hI hB
theorem N1{x:Tr}{N:Int}(b:Ft (QB B) N x)(a:x.n.op=12):VC prog 234 [bw B,ah (row x)] (pI (gw B x)):=NF hB b a
variable{cx:Ctx}(hcx:CxOk B cx)(hcl:cx.length<=260)
include hcx hcl
theorem N2{x y:Tr}(a:Ft (QB B) (cx.length:Int) x)(b:Ft (QB B) (cx.length:Int) y)(n:Int)(u:Bool):VC prog 247 [bw B,aH (cx.map aA),ah (row x),ah (row y),pI n,.bool u] (match lS B cx x y n u with
  | .ok q=>.tup [.bool q.1,pI q.2,pI 0]
  | .error e=>.tup [.bool false,pI 0,pI e]):=NX hI hB hcx hcl a b n u
end
theorem vx':VC prog 190 [pI 0] (.tup []):=by
 refine vf 7 [] τok func190 ?_;exact v0<|aE
theorem fT{e:Int}(he:e≠0):VE prog 190 [pI e] (fI e):=by
 refine nU (r:=.error (fI e)) 7 [] τok func190 ?_;refine aj<|vy ?_ he;exact qe (λw=>by simp[Instr.makeInterface,underlying242,go_sem])<|rfl
theorem pu{B:ak}{cx:Ctx}(hcx:CxOk B cx)(hcl:cx.length<=300){t:Tr}{o:Option Tr}(a:Ft (QB B) (cx.length:Int) t)(b:∀x,o=some x ->Ft (QB B) (cx.length:Int) x):VC prog 194 [aH (cx.map aA),.sl [[ah (row t),ah (nF' o)]]] (aH ((cx++[(t,o)]).map aA)):=by
 have e:aH ((cx++[(t,o)]).map aA)= .sl ((cx.map aA).map bdP++[[ah (row t),ah (nF' o)]]):=by rw[KB];exact KG PV.sl (KB ..)
 rw[e];refine vf 9 [.tmp 4] τok func194 ?_;refine aT id (λ_=>0) (NT _) ?_;refine⟨⟨Nat.one_pos,ww _⟩,bi ?_ (hb:=by simp;omega)⟩;exact⟨_,_,rfl,rfl,rfl⟩
theorem GN{c:List (List Nd×List Nd)}(hc:c.length<=256):VC prog 229 [aH c] (.tup []):=by
 have eC:=au bdP c;refine vf 6 [] τok func229 ?_;refine vn (p:=(256:Int)<((c.map bdP).length:Int)) ?_;exact aE
theorem GO{c:List (List Nd×List Nd)}(hc:256<c.length):VE prog 229 [aH c] (fI 5):=by
 have eC:=au bdP c;refine nU (r:=.error (fI 5)) 6 [] τok func229 ?_;refine aj<|vy (p:=(256:Int)<((c.map bdP).length:Int)) ?_;refine bK (fT UO) ?_;exact rfl
theorem GP(kind:Int){l:List Atom}(hl:l.length<=1000):VC prog 191 [pI kind,cF l] (ah (row (fd kind l))):=by
 have d:=au atP l;generalize b:row (fd kind l)=j;rw[show row (fd kind l)=⟨2,kind,(l.length:Int)⟩::l.map λa=>⟨3,a.var,a.add⟩ by
  have:∀l:List Atom,rows (l.map λa=>Tr.mk ⟨3,a.var,a.add⟩ [])=l.map λa=>(⟨3,a.var,a.add⟩:Nd):=by
   intro l
   induction l with
   |nil=>rfl
   |cons a l o=>simp[rows,row,o]
  simp[fd,row,this]]at b
 refine vf 29 [.tmp 4] τok func191 ?_;refine aB τok (σ:=Nat) [(13,_),(14,_)] [] (λi=>[(5,.c (.row 1000)),(15,vI i)]) (λi=>[(1000,.rw 46 3 ([pI 2,pI kind,pI ((l.map atP).length:Int)]::(l.take i).map λa=>[pI 3,pI a.var,pI a.add]))]) (λi=>i<=l.length) (λi=>l.length-i) 0 (KV _) ?_ (sw 1000 12);intro i q;refine aj<|af (λg=>?_) (λg=>?_)
 ·have g:(i:Int)<l.length:=by simpa[d]using g
  obtain⟨a,e,_⟩:=ay (l:=l) (k:=i);refine vm (p:=atP) i e ?_;refine bi ?_ (hb:=Uk);refine vi ?_;exact aw (i+1) (by show i+1<=_;omega) (sw 1000 26) (y':=⟨KG (λl=>some (SE.rw _ _ l)) (by
   rw[dB e];simp[dN];exact⟨rfl,rfl,rfl⟩),trivial⟩)
 ·have:i=l.length:=by simp[d]at g;omega
  subst this;exact aE (h3:=by
   rw[List.take_length,<- b,d];simp[ah,ge',ndP])
theorem Ba{n:Nat}{fr:Int}(hn:n<=100)(hf:0<=fr/\fr<=100):VO prog 224 [pI n,pI fr] 29 1 (((varsM n fr).map row).map rP):=by
 have ev:∀k,k<n ->(varsM n fr)[k]?=some (varX (fr+((n-1-k:Nat):Int))):=λk a=>by
  unfold varsM;rw[JX,List.getElem?_range a]
  rfl
 have el:(varsM n fr).length=n:=by simp[varsM]
 refine mS 22 [.tmp 4] τok func224 ?_;refine aj<|vi ?_;refine dC 5 1000 29 1 rfl rfl<|aB τok (σ:=Nat×Int) [(1,_)] [] (λq=>[(5,.c (.row 1000)),(6,vI q.2)]) (λq=>[(1000,.rw 29 1 ((((varsM n fr).take q.1).map row).map rP))]) (λq=>q.1<=n/\q.2=(n:Int)-1-q.1) (λq=>n-q.1) (0,(n:Int)-1) ⟨KV _,Us⟩ ?_;rintro⟨k,v⟩ ⟨a,b⟩;simp only at a b;have d:((varsM n fr).take k).length=k:=by rw[VJ];omega
 refine aj<|af (λg=>?_) (λg=>?_)
 ·have g:v≥0:=g
  refine vi ?_;refine bi ?_ (hb:=Uk);refine vi ?_;exact aw (k+1,v-1) ⟨Us,Us⟩ (sw 1000 20) (y':=⟨KG (λl=>some (SE.rw _ _ l)) (by
   rw[dB (ev k Uo),KB,KB,show fr+((n-1-k:Nat):Int)=fr+v by omega]
   rfl),trivial⟩)
 ·have g:¬ v≥0:=g
  exact⟨1000,rfl,KG (λl=>some (SE.rw 29 1 ((List.map row l).map rP))) (JG (l:=varsM n fr) (i:=k) Uo)⟩
section
variable{B:ak}(hB:GoodB B)
include hB
theorem tc{x:Tr}{ys:List Tr}{l:List (List Nd)}{t:List Nd}{Q:Nd ->Prop}(b:Ok .tm x)(hl:(row x).length<=4096)(a:∀y∈ys,Ft Q 90000 y)(hn:ys.length<=1000)(d:l=ys.map row)(e:t=row x):VC prog 196 [pI 4,bD l,ah t] (dg (bk ys x)):=by
 subst d e;exact GK b hl (λy h=>⟨(a y h).ok,(a y h).len⟩) Uo
theorem N3{a:Int}(ha:bF B B.ents.length a=true):VC prog 192 [bw B,pI a] (dg (gx B a)):=by
 obtain⟨i,x,s,u,v,rfl,_,o,D,d⟩:=hB.fam ha (KJ _);obtain⟨E,F,H⟩:=d.ps_eq o;have I:=d.lp;have L:=d.li;have w:∀y∈u,Ft (QB B) 90000 y:=λy q=>by
  obtain⟨k,r⟩:=JH q;exact(d.up_p hB o r).mono (by have:=aM r;omega)
 have C:∀y∈v,Ft (QB B) 90000 y:=λy q=>by
  obtain⟨k,r⟩:=JH q;exact(d.up_i hB o r).mono (by have:=aM r;omega)
 generalize b:gx B (i:Int)=l;unfold gx at b;rw[E,F,H]at b;have j:=tc hB (ys:=v) (x:=s) d.fs.ok d.fs.len C Uo d.indices d.sort;refine vf 31 [.tmp 4,.tmp 5] τok func192 ?_;refine de i o ?_;cases q1:bk v s with
 |error e=>
  have S:=kY q1;rw[q1]at j b;obtain rfl:.error e=l:=b;refine ae j ?_;refine vy (p:=e≠0) ?_;exact aE
 |ok y=>
  rw[q1]at j b;have b:bk u y=l:=b;refine ae j ?_;refine v0 ?_;have q:=lX (qk B) (N:=(u.length:Int)) (d.fs.wk (λm M=>mZ (Nat.le_of_lt (aM o)) M)|>.mono Uo) (λk z O=>(d.up_i hB o O).mono Uo) q1;have t:=tc hB (ys:=u) (x:=y) q.ok q.len w Uo d.params rfl;rw[b]at t;refine ae t ?_;cases l with
  |error e=>exact aE
  |ok z=>exact aE
end
end Go.Q
