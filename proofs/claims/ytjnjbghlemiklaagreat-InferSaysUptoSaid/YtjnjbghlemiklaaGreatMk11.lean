import Derived.Test.YtjnjbghlemiklaaGreatMk10
set_option linter.unusedVariables false
set_option linter.unusedSimpArgs false
set_option linter.unusedSectionVars false
set_option maxRecDepth 100000
set_option maxHeartbeats 4000000
open Go.Proofs.Tryz
namespace Go.Proofs.YtjnjbghlemiklaaGreat
open Go.Wx Lv
theorem J7{vars:Int}{os:List aQ}:VC prog 74 [pI vars,.sl (os.map eg)] (pI (oE vars os)):=by
 have a:=D4 vars os;unfold oE;refine vf 14 [.tmp 4] τok func74 ?_;cases h:ee vars os with
 |error n=>
  rw[h]at a;refine bS (λ_=>10) (λ_=>0) a ?_;exact⟨_,_,rfl,rfl,rfl⟩
 |ok g=>
  rw[h]at a;refine bS (λ_=>10) (λ_=>0) a ?_;exact⟨_,_,rfl,rfl,rfl⟩
open Go.Wx Cd Tm Lv
section
variable{B:aq}(hB:dG B)
include hB
theorem oT':VC prog 37 [aY B] (pI (cS B)):=by
 have s:=ak aU B.ents;have j:=hB.e;generalize a:cS B=d;unfold cS at a;refine vf 39 [.tmp 2] τok func37 ?_;refine af J7 ?_;refine ae (λg=>?_) (λg=>?_)
 ·rw[if_pos g]at a
  exact⟨_,_,rfl,rfl,congrArg (PV.int .i64) a⟩
 rw[if_neg g]at a;refine ae (λo=>?_) (λo=>?_)
 ·rw[if_pos (by omega)]at a
  exact⟨_,_,rfl,rfl,congrArg (PV.int .i64) a⟩
 rw[if_neg (by omega)]at a;refine aB τok (σ:=Nat) [(1,_),(20,_),(21,_)] [(1,_)] (λi=>[(22,vI i)]) (λ_=>[]) (λi=>i<=B.ents.length/\bg (jW B (B.ents.drop i) i) (if gN B=true then 0 else 22)=d) (λi=>B.ents.length-i) 0 ⟨KV _,a⟩ ?_
 clear a
 rintro i ⟨t,b⟩;refine aj τok ?_;refine ae (λq=>?_) (λq=>?_);rotate_left
 ·rw[JY (by omega)]at b
  have b:(if gN B=true then 0 else 22)=d:=b;refine bB (JL hB) (λf=>?_) (λf=>?_)
  ·rw[if_pos f]at b
   exact⟨_,_,rfl,rfl,congrArg (PV.int .i64) b⟩
  ·rw[if_neg (by rw[f];decide)]at b
   exact⟨_,_,rfl,rfl,congrArg (PV.int .i64) b⟩
 obtain⟨x,h,r⟩:=ay (l:=B.ents) (k:=i);rw[r]at b;have b:bg (bg (eV B i x) (jW B (B.ents.drop (i+1)) (i+1))) _=d:=b;rw[lO]at b;refine vm (p:=aU) i h ?_;refine af (Ab' (known:=i) (by omega) (hB.x x (JQ h))) ?_;refine ae (λe=>?_) (λe=>?_)
 ·rw[kN e]at b
  exact⟨_,_,rfl,rfl,congrArg (PV.int .i64) b⟩
 rw[jt e]at b;refine vi ?_;exact au (i+1) ⟨by show i+1<=_;omega,b⟩
theorem yA{t:List Nd}(d:t.length<=1000000000){below:Int}(hb:I64 below):VC prog 43 [aY B,pI below,ah t] (pI (eW B below t)):=by
 generalize a:eW B below t=e;unfold eW at a;refine vf 23 [.tmp 6] τok func43 ?_;refine af (oT' hB) ?_;refine ae (λg=>?_) (λg=>?_)
 ·rw[if_pos g]at a
  exact⟨_,_,rfl,rfl,congrArg (PV.int .i64) a⟩
 rw[if_neg g]at a;refine ae (λb=>?_) (λb=>?_)
 ·rw[if_pos b]at a
  exact⟨_,_,rfl,rfl,congrArg (PV.int .i64) a⟩
 rw[if_neg b]at a;have h:=yz (B:=B) (known:=B.ents.length) (KJ _) (self:=-1) d hb;rw[a,show ((B.ents.length:Nat):Int)=((B.ents.map aU).length:Int) by rw[ak]]at h;refine af h ?_;exact⟨_,_,rfl,rfl,rfl⟩
theorem tH{c:List (List Nd×List Nd)}{t:List Nd}(hc:c.length<=1000000)(o:∀q∈c,q.1.length<=1000000000/\q.2.length<=1000000000)(r:t.length<=1000000000):VC prog 25 [aY B,aJ c,ah t] (pI (cZ B c t)):=by
 have eC:=ak bdP c;generalize a:cZ B c t=d;unfold cZ at a;refine vf 53 [.tmp 6] τok func25 ?_;refine af (oT' hB) ?_;refine ae (λg=>?_) (λg=>?_)
 ·rw[if_pos g]at a
  exact⟨_,_,rfl,rfl,congrArg (PV.int .i64) a⟩
 rw[if_neg g]at a;refine ae (λs=>?_) (λs=>?_)
 ·rw[if_pos (by omega)]at a
  exact⟨_,_,rfl,rfl,congrArg (PV.int .i64) a⟩
 rw[if_neg (by omega)]at a;refine aB τok (σ:=Nat) [(1,_),(2,_),(3,_),(20,_),(21,_)] [(3,_)] (λi=>[(22,vI i)]) (λ_=>[]) (λi=>i<=c.length/\bg (gm B (c.drop i) i) (eW B c.length t)=d) (λi=>c.length-i) 0 ⟨KV _,a⟩ ?_
 clear a
 rintro i ⟨C,b⟩;refine aj τok ?_;refine ae (λu=>?_) (λu=>?_);rotate_left
 ·rw[JY (by omega)]at b
  have b:eW B c.length t=d:=b;have h:=yA hB r (below:=((c.map bdP).length:Int)) (by unfold I64;omega);rw[eC,b]at h;refine af (show VC _ _ [aY B,pI ((c.map bdP).length:Int),ah t] _ by rw[eC];exact h) ?_;exact⟨_,_,rfl,rfl,rfl⟩
 obtain⟨q,j,v⟩:=ay (l:=c) (k:=i);rw[v]at b;have b:bg (bg (eW B i q.1) (if q.2.length=0 then gm B (c.drop (i+1)) (i+1)else bg (eW B i q.2) (gm B (c.drop (i+1)) (i+1)))) _=d:=b;rw[lO]at b;obtain⟨q1,w⟩:=o q (JQ j);have D:=ak ndP q.2;refine vm (p:=bdP) i j ?_;refine af (yA hB q1 (below:=(i:Int)) (by unfold I64;omega)) ?_;refine ae (λe=>?_) (λe=>?_)
 ·rw[kN e]at b
  exact⟨_,_,rfl,rfl,congrArg (PV.int .i64) b⟩
 rw[jt e]at b;refine ae (λz=>?_) (λz=>?_)
 ·rw[if_pos (by omega)]at b
  refine vi ?_;exact au (i+1) ⟨by show i+1<=_;omega,b⟩
 rw[if_neg (by omega)]at b;refine af (yA hB w (below:=(i:Int)) (by unfold I64;omega)) ?_;refine ae (λf=>?_) (λf=>?_)
 ·rw[lO,kN f]at b
  exact⟨_,_,rfl,rfl,congrArg (PV.int .i64) b⟩
 rw[lO,jt f]at b;refine vi ?_;exact au (i+1) ⟨by show i+1<=_;omega,b⟩
end
def qW(C:Mem)(w:World)(bj:Nat)(B:aq)(n:Nat):Prop:=
 ∃v1 v2 v3,Bk w.heap bj [iV B.vars,v1,v2,iV B.nat,v3,iV (n:Int)] 132/\SV rOr C B.orders v1/\SV rEn C B.ents v2/\SV rPr C B.prims v3
def J8{α:Type}(D:World ->α ->Value ->Prop)(X:List Nat)(w:World)(bj:Nat)(B:aq)(r:Except Int (α×Nat))(e:Ending)(w':World):Prop:=
 (match r with
  | .ok q=>∃u,e= .returned u/\D w' q.1 u/\qW (Im X w') w' bj B q.2
  | .error er=>e= .panicked (dV er))/\Kp [bj] w w'
def DSp(X:List Nat)(w':World)(x:Tr)(u:Value):Prop:=∃h a,u= .tuple #[h,a]/\TmV (Im X w') (headT x) h/\TmsV (Im X w') (argsT x) a
def Mt(k:Nat)(t:Tr):Prop:=∀m∈row t,m.op=11 ->m.a<(k:Int)
def D5(B:aq)(g:Nat)(rc:RcJ):Prop:=∀(X:List Nat) (w:World) (bj:Nat) (cx:Ctx) (k:Nat) (t:Tr) (n:Nat) (vc v:Value),(XL X w) ->bj∈X ->CxOk B cx ->cx.length<=260 ->qW (Im X w) w bj B n ->n<=100000 ->
 Ft (QB B) (cx.length:Int) t ->Mt k t ->k*5000+(row t).length<=g ->SV rBd (Im X w) (cx.map aA) vc ->TmV (Im X w) t v ->
 CC 47 #[pt bj,vc,v] w (J8 (λw' x u=>TmV (Im X w') x u) X w bj B (rc cx t n))
def DSo(X:List Nat)(w':World)(q:Int×List Atom)(u:Value):Prop:=∃a c,u= .tuple #[iV q.1,.slice a q.2.length c]/\Sl rAt (Im X w') a q.2
def PaP(C:Mem)(w:World)(r:Except Int Tr)(e:Ending)(w':World):Prop:=
 (match r with
  | .ok z=>∃u,e= .returned u/\TmV (Cn C w w') z u
  | .error er=>e= .panicked (dV er))/\Kp [] w w'
structure MoS where
 i:Nat
 cx:Ctx
 m:Tr
 n:Nat
 vc:Value
 vm:Value
def ja(l:List Int):PV:=.sl (l.map iP)
def o8(B:aq)(pl:List Int):PV:=.agg [.int .i64 B.vars,.sl (B.orders.map eg),.sl (B.ents.map aU),.int .i64 B.nat,.sl (B.prims.map iB),ja pl]
theorem br_int:Br2 uZ' iP I64:=⟨λ_=>rfl,λx b C d e h=>by
 match d,e with
 |[a],_=>exact⟨by rw[fM (h 0 _ a rfl rfl)],b⟩,λ_ _ _ h=>h.2⟩
theorem J9{f:FuncId}{D:List PV}{l:List Int}(r:dx prog f)(h:∀(w:World) (C:Mem) (vs:List Value),Sub C w ->cM C D vs ->Calls prog f vs.toArray w λe w'=>∃v,e= .returned v/\Own uZ' 230 w.heap.size w' v l/\Kp [] w w'):VO prog f D 230 1 (l.map iP):=.of ⟨r,λw C vs hS H=>by
 refine(h w C vs hS H).mono λe w' ⟨u,I,E,k⟩=>?_;obtain⟨s,q1,F⟩:=E.row;refine⟨u,C,s,I,by rw[List.length_map];exact q1,λx d=>by obtain⟨_,_,rfl⟩:=List.mem_map.1 d;rfl,by rw[List.length_map];exact F.length,λi V x L d=>?_,⟨hS.tr k,λ_ _ _ h=>h,λb o v h=>.inl ⟨o,v,h⟩,k⟩,λg M b o z O=>?_⟩
 ·rw[JX]at d
  obtain⟨y,S,rfl⟩:=Option.map_eq_some_iff.1 d;obtain⟨T,a,rfl,_⟩:=F.get S;rw[L]at a;obtain rfl:=JB a;refine⟨rfl,λj p q t U=>?_⟩
  match j,t,U with
  |0,rfl,rfl=>exact⟨rfl,.int _ _⟩
  |j+1,t,_=>cases t
 ·have:=E.block g (by rw[<- ma q1];exact M)
  have:=(hS b o z O).lt;omega⟩
section
variable{Q:Nd ->Prop}{N:Int}{x y:Tr}{m:List Int}
theorem o9{pl:List Int}(hm:Mk pl m)(hpl:pl.length<=1000):∀v∈m,I64 v:=λv a=>by
 rcases hm v a with rfl|rfl|rfl|⟨j,b,rfl⟩<;>exact⟨by omega,by omega⟩
theorem pb(hm:∀v∈m,I64 v)(hl:m.length<=1000000):VO prog 212 [ja m] 230 1 (m.map iP):=J9 ⟨_,func212,rfl,by decide⟩ λw C j hS b=>by
 obtain⟨v,rfl,d⟩:=Cz b;obtain⟨a,c,rfl,f,l⟩:=br_int.sl ⟨by omega,hm⟩ d;exact(IY hS m a c f hl).2.mono λe o ⟨⟨u,h,i⟩,k⟩=>⟨u,h,i,k⟩
theorem yB{v:Int}(b:0<=v)(hl:m.length<=1000000):VC prog 236 [ja m,pI v] (pI (bN m v)):=by
 have d:=ak iP m;refine vf 17 [.tmp 4] τok func236 ?_;unfold bN;refine ae (λg=>?_) (λg=>?_)
 ·have g:v≥((m.map iP).length:Int):=g
  rw[if_pos (by omega)];exact⟨_,_,rfl,rfl,rfl⟩
 ·have g:¬ v≥((m.map iP).length:Int):=g
  rw[if_neg (by omega)];obtain⟨u,a,_⟩:=ay (l:=m) (k:=m.length-1-v.toNat);refine vi ?_;refine vi ?_;refine vm (p:=iP) (m.length-1-v.toNat) a ?_ (by omega);rw[List.getD_eq_getElem?_getD,a];exact⟨_,_,rfl,rfl,rfl⟩
theorem tI(a:Ft Q N x):VC prog 211 [ah (row x)] (.tup [ah (row (headT x)),bJ ((argsT x).map row)]):=Iu a.ok a.len
theorem Ka(b:Ft Q N x)(hl:m.length<=1000000):VC prog 237 [ah (row x),ja m] (.bool (i2 x m)):=by
 have e:=az b.head;have f:=cY b.head.ok.pl;unfold i2;refine vf 26 [.tmp 4] τok func237 ?_;refine af (tI b) ?_;refine vm (p:=ndP) 0 (aI e) ?_;refine ae (λg=>?_) (λg=>?_)
 ·rw[decide_eq_true (p:=(headT x).n.op=1) g,Bool.true_and]
  refine vm (p:=ndP) 0 (aI e) ?_;refine af (yB (m:=m) (v:=(headT x).n.a) f.2.2.1 hl) ?_;refine ae (λd=>?_) (λd=>?_)
  ·rw[decide_eq_true (p:=bN m (headT x).n.a=2) d]
   exact⟨_,_,rfl,rfl,rfl⟩
  ·rw[decide_eq_false (p:=bN m (headT x).n.a=2) d]
   exact⟨_,_,rfl,rfl,rfl⟩
 ·rw[decide_eq_false (p:=(headT x).n.op=1) g,Bool.false_and]
  exact⟨_,_,rfl,rfl,rfl⟩
end
def qX(B:aq)(pl:List Int)(g:Nat)(rc:RcF):Prop:=∀(N:Int) (x:Tr) (m:List Int),Ft (QB B) N x ->Mk pl m ->m.length+4*(row x).length<=100000 ->(row x).length<=g ->VC prog 213 [o8 B pl,ah (row x),ja m] (.bool (rc x m))
section
variable{B:aq}{pl:List Int}{g:Nat}{rc:RcF}{N:Int}{m:List Int}
theorem yC(o:qX B pl g rc){ys:List Tr}{L:List (List PV)}(q:L=(ys.map row).map rP)(h:∀y∈ys,Ft (QB B) N y/\m.length+4*(row y).length<=100000/\(row y).length<=g)(hl:ys.length<=100000)(hm:Mk pl m):VC prog 235 [o8 B pl,ja m,.sl L] (.bool (ys.all λy=>rc y m)):=by
 subst q;generalize b:(ys.all λy=>rc y m)=d;have v:=ak rP (ys.map row);have w:=ak row ys;refine cN 21 [.tmp 6] τok func235 ?_;refine aj τok ?_;refine aB τok (σ:=Nat) [(1,_),(3,_),(9,_),(10,_)] [(3,_)] (λi=>[(11,vI i)]) (λ_=>[]) (λi=>i<=ys.length/\((ys.drop i).all λy=>rc y m)=d) (λi=>ys.length-i) 0 ⟨KV _,b⟩ ?_
 clear b
 rintro i ⟨z,a⟩;refine aj τok ?_;refine ae (λe=>?_) (λe=>?_)
 ·have e:(i:Int)<(((ys.map row).map rP).length:Int):=e
  obtain⟨y,j,r⟩:=ay (l:=ys) (k:=i);rw[r,List.all_cons]at a;obtain⟨s,t,u⟩:=h y (JQ j);have f:=o N y m s hm t u;refine vm (p:=rP) i (x:=row y) (by rw[JX,j];rfl) ?_;cases hr:rc y m with
  |false=>
   rw[hr]at f a;have a:false=d:=a;subst a;refine af f ?_;exact⟨_,_,rfl,rfl,rfl⟩
  |true=>
   rw[hr]at f;rw[hr,Bool.true_and]at a;refine af f ?_;refine vi ?_;exact au (i+1) ⟨by omega,a⟩
 ·have e:¬ (i:Int)<(((ys.map row).map rP).length:Int):=e
  rw[List.drop_of_length_le (by omega)]at a;have a:true=d:=a;subst a;exact⟨_,_,rfl,rfl,rfl⟩
end
theorem j3{α β:Type}(f:α ->β)(l:List α)(x:α):(l++[x]).map f=l.map f++[f x]:=by simp
section
variable{B:aq}{pl:List Int}{g:Nat}{rc:RcF}{N:Int}{m:List Int}{x:Tr}
theorem yD(z:qX B pl g rc)(e:Ft (QB B) N x)(hpl:pl.length<=1000)(hm:Mk pl m)(d:m.length+4*(row x).length<=100000)(s:(row x).length<=g)(n:Nat)(v:n<=1000):VC prog 249 [o8 B pl,ah (row x),pI n,ja m] (.bool (fP rc n x m)):=by
 generalize j:fP rc n x m=r;refine cN 42 [.tmp 8] τok func249 ?_;refine aj τok ?_;refine fX (pb (o9 hm hpl) (by omega)) ?_;refine aB τok (σ:=Nat×Int×Tr×List Int) [(4,_)] [(4,_)] (λq=>[(1,vP (ah (row q.2.2.1))),(2,vI q.1),(3,.c (.row 1000))]) (λq=>[(1000,.rw 230 1 (q.2.2.2.map iP))]) (λq=>q.1<=1000/\Ft (QB B) q.2.1 q.2.2.1/\Mk pl q.2.2.2/\q.2.2.2.length+4*(row q.2.2.1).length<=100000/\(row q.2.2.1).length<=g/\fP rc q.1 q.2.2.1 q.2.2.2=r) (λq=>q.1) (n,N,x,m) ⟨v,e,hm,d,s,j⟩ ?_ (f:=sw 1000 11)
 clear j e hm d s
 rintro⟨n,N,x,m⟩ ⟨v,e,hm,d,s,b⟩;simp only at v e hm d s b;have D:=az e;have o:fP rc n x m=rc x m ->VC prog 213 [o8 B pl,ah (row x),ja m] (.bool r):=λh=>by
  rw[<- b,h];exact z N x m e hm d s
 dsimp only
 refine aj τok ?_;refine ae (λt=>?_) (λt=>?_)
 ·have t:(n:Int)>0:=t
  obtain⟨k,rfl⟩:∃k,n=k+1:=⟨n-1,by omega⟩
  refine vm (p:=ndP) 0 (aI D) ?_;refine ae (λi=>?_) (λi=>?_)
  ·have i:x.n.op=5:=i
   simp only[fP,if_pos i]at b;obtain⟨_,C,E⟩:=dX e (.inr i);obtain⟨r1,r2,_⟩:=nG e.ok (.inr i);have w:=congrArg List.length r2;simp only[JK,JV]at w;have u:=z N (kidD x 0) m C hm (by omega) (by omega);refine af (endP e (a:=[x.n]) (y:=kidD x 0) (q:=row (kidD x 1)) r1 C.ok rfl) ?_;refine bM 1 (1+(row (kidD x 0)).length) ?_ (cQ _) (h4:=by rw[List.length_map];omega);rw[dp (p:=1) (n:=1+(row (kidD x 0)).length) r1 rfl rfl];cases hr:rc (kidD x 0) m with
   |false=>
    rw[hr]at u b;have b:false=r:=b;subst b;refine mg u ?_;refine vk ?_;exact⟨_,_,rfl,rfl,rfl⟩
   |true=>
    rw[hr]at u;rw[hr,Bool.true_and]at b;refine mg u ?_;refine vk ?_;refine bi ?_ (hb:=by simp;omega);refine bM (1+(row (kidD x 0)).length) (row x).length ?_ (cQ _) (h1:=rfl) (h2:=by rw[List.length_map]) (h3:=by omega) (h4:=by rw[List.length_map];omega);rw[dp (a:=x.n::row (kidD x 0)) (y:=kidD x 1) (q:=[]) (by rw[JD];exact r2) (by rw[JV];omega) (by rw[JV];omega)];refine vi ?_;refine au (k,N+1,kidD x 1,m++[2]) ⟨by simp only;omega,E,hm.snoc (by omega),by simp only[JK,List.length_singleton];omega,by simp only;omega,b⟩ (sw 1000 34) (x:=⟨rfl,congrArg (λn:Int=>some (vI n)) (by simp only;omega),rfl,trivial⟩) (y':=⟨congrArg (λl=>some (SE.rw _ _ l)) (j3 iP m 2).symm,trivial⟩)
  ·have i:¬ x.n.op=5:=i
   refine af (o (by simp only[fP,if_neg i])) ?_;exact⟨_,_,rfl,rfl,rfl⟩
 ·have t:¬ (n:Int)>0:=t
  obtain rfl:n=0:=by omega
  refine af (o rfl) ?_;exact⟨_,_,rfl,rfl,rfl⟩
theorem Kb(z:qX B pl g rc)(e:Ft (QB B) N x)(hpl:pl.length<=1000)(hm:Mk pl m)(d:m.length+4*(row x).length<=100000)(s:(row x).length<=g)(p:Nat)(I:p<=1000):VC prog 191 [o8 B pl,ah (row x),pI p,ja m] (.bool (gI rc (p+1) x m)):=by
 generalize k:gI rc (p+1) x m=h;refine cN 47 [.tmp 8] τok func191 ?_;refine aj τok ?_;refine fX (pb (o9 hm hpl) (by omega)) ?_;refine aB τok (σ:=Nat×Int×Tr×List Int) [(2,_),(4,_)] [(4,_)] (λq=>[(1,vP (ah (row q.2.2.1))),(3,.c (.row 1000)),(9,vI q.1)]) (λq=>[(1000,.rw 230 1 (q.2.2.2.map iP))]) (λq=>q.1<=p+1/\Ft (QB B) q.2.1 q.2.2.1/\Mk pl q.2.2.2/\q.2.2.2.length+4*(row q.2.2.1).length<=100000/\(row q.2.2.1).length<=g/\gI rc (p+1-q.1) q.2.2.1 q.2.2.2=h) (λq=>p+1-q.1) (0,N,x,m) ⟨KV _,e,hm,d,s,k⟩ ?_ (f:=sw 1000 13)
 clear k e hm d s
 rintro⟨i,N,x,m⟩ ⟨F,e,hm,d,s,b⟩;simp only at F e hm d s b;have H:=az e
 dsimp only
 refine aj τok ?_;refine ae (λt=>?_) (λt=>?_)
 ·have t:(i:Int)<=(p:Int):=t
  obtain⟨r,hr⟩:∃r,p+1-i=r+1:=⟨p-i,by omega⟩
  rw[hr]at b;simp only[gI]at b;refine vm (p:=ndP) 0 (aI H) ?_;refine ae (λj=>?_) (λj=>?_)
  ·have j:x.n.op≠5:=j
   rw[decide_eq_false j]at b;have b:false=h:=b;subst b;exact⟨_,_,rfl,rfl,rfl⟩
  have j:x.n.op=5:=Decidable.not_not.1 j;rw[decide_eq_true j,Bool.true_and]at b;obtain⟨_,C,D⟩:=dX e (.inr j);obtain⟨r1,r2,_⟩:=nG e.ok (.inr j);have w:=congrArg List.length r2;simp only[JK,JV]at w;have v:=z N (kidD x 0) m C hm (by omega) (by omega);refine af (endP e (a:=[x.n]) (y:=kidD x 0) (q:=row (kidD x 1)) r1 C.ok rfl) ?_;refine bM 1 (1+(row (kidD x 0)).length) ?_ (cQ _) (h4:=by rw[List.length_map];omega);rw[dp (p:=1) (n:=1+(row (kidD x 0)).length) r1 rfl rfl];cases o:rc (kidD x 0) m with
  |false=>
   rw[o]at v b;have b:false=h:=b;subst b;refine mg v ?_;refine vk ?_;exact⟨_,_,rfl,rfl,rfl⟩
  |true=>
   rw[o]at v;rw[o,Bool.true_and]at b;refine mg v ?_;refine vk ?_;refine ae (λu=>?_) (λu=>?_)
   ·have u:(i:Int)=(p:Int):=u
    rw[if_pos (by omega)]at b;refine bi ?_ (hb:=by simp;omega);refine bM (1+(row (kidD x 0)).length) (row x).length ?_ (cQ _) (h1:=rfl) (h2:=by rw[List.length_map]) (h3:=by omega) (h4:=by rw[List.length_map];omega);rw[dp (a:=x.n::row (kidD x 0)) (y:=kidD x 1) (q:=[]) (by rw[JD];exact r2) (by rw[JV];omega) (by rw[JV];omega)];refine vi ?_;refine au (i+1,N+1,kidD x 1,m++[1]) ⟨by simp only;omega,D,hm.snoc (by omega),by simp only[JK,List.length_singleton];omega,by simp only;omega,by simp only;rw[show p+1-(i+1)=r by omega];exact b⟩ (sw 1000 39) (hm:=by show p+1-(i+1)<p+1-i;omega) (y':=⟨congrArg (λl=>some (SE.rw _ _ l)) (j3 iP m 1).symm,trivial⟩)
   ·have u:¬ (i:Int)=(p:Int):=u
    rw[if_neg (by omega)]at b;refine bi ?_ (hb:=by simp;omega);refine bM (1+(row (kidD x 0)).length) (row x).length ?_ (cQ _) (h1:=rfl) (h2:=by rw[List.length_map]) (h3:=by omega) (h4:=by rw[List.length_map];omega);rw[dp (a:=x.n::row (kidD x 0)) (y:=kidD x 1) (q:=[]) (by rw[JD];exact r2) (by rw[JV];omega) (by rw[JV];omega)];refine vi ?_;refine au (i+1,N+1,kidD x 1,m++[0]) ⟨by simp only;omega,D,hm.snoc (by omega),by simp only[JK,List.length_singleton];omega,by simp only;omega,by simp only;rw[show p+1-(i+1)=r by omega];exact b⟩ (sw 1000 39) (hm:=by show p+1-(i+1)<p+1-i;omega) (y':=⟨congrArg (λl=>some (SE.rw _ _ l)) (j3 iP m 0).symm,trivial⟩)
 ·have t:¬ (i:Int)<=(p:Int):=t
  rw[show p+1-i=0 by omega]at b;have E:=z N x m e hm d s;rw[show rc x m=h from b]at E;refine af E ?_;exact⟨_,_,rfl,rfl,rfl⟩
theorem Kc(e:Ft (QB B) N x)(p:Nat)(w:p<=1000):VC prog 190 [ah (row x),pI p] (.bool (dB' p x)):=by
 generalize f:dB' p x=h;refine cN 36 [.tmp 4] τok func190 ?_;refine aj τok ?_;refine aB τok (σ:=Nat×Int×Tr) [(1,_)] [] (λq=>[(0,vP (ah (row q.2.2))),(5,vI q.1)]) (λ_=>[]) (λq=>q.1<=p/\Ft (QB B) q.2.1 q.2.2/\dB' (p-q.1) q.2.2=h) (λq=>(row q.2.2).length) (0,N,x) ⟨KV _,e,f⟩ ?_
 clear f e
 rintro⟨i,N,x⟩ ⟨s,e,b⟩;simp only at s e b;have t:=az e
 dsimp only
 refine aj τok ?_;refine vm (p:=ndP) 0 (aI t) ?_;refine ae (λd=>?_) (λd=>?_)
 ·have d:x.n.op=4:=d
  obtain⟨_,k,u⟩:=dX e (.inl d);obtain⟨r1,r2,_⟩:=nG e.ok (.inl d);have l:=congrArg List.length r2;simp only[JK,JV]at l;have v:=az k.head;refine af (endP e (a:=[x.n]) (y:=kidD x 0) (q:=row (kidD x 1)) r1 k.ok rfl) ?_;refine ae (λj=>?_) (λj=>?_)
  ·have j:(i:Int)=(p:Int):=j
   rw[show p-i=0 by omega]at b;simp only[dB']at b;rw[decide_eq_true d,Bool.true_and]at b;refine bM 1 (1+(row (kidD x 0)).length) ?_ (cQ _) (h4:=by rw[List.length_map];omega);rw[dp (p:=1) (n:=1+(row (kidD x 0)).length) r1 rfl rfl];refine af (tI k) ?_;refine vm (p:=ndP) 0 (aI v) ?_;refine ae (λo=>?_) (λo=>?_)
   ·rw[decide_eq_true (p:=(headT (kidD x 0)).n.op=9) o]at b
    subst b;exact⟨_,_,rfl,rfl,rfl⟩
   ·rw[decide_eq_false (p:=(headT (kidD x 0)).n.op=9) o]at b
    subst b;exact⟨_,_,rfl,rfl,rfl⟩
  ·have j:¬ (i:Int)=(p:Int):=j
   obtain⟨r,hr⟩:∃r,p-i=r+1:=⟨p-i-1,by omega⟩
   rw[hr]at b;simp only[dB']at b;rw[decide_eq_true d,Bool.true_and]at b;refine bM (1+(row (kidD x 0)).length) (row x).length ?_ (cQ _) (h1:=rfl) (h2:=by rw[List.length_map]) (h3:=by omega) (h4:=by rw[List.length_map];omega);rw[dp (a:=x.n::row (kidD x 0)) (y:=kidD x 1) (q:=[]) (by rw[JD];exact r2) (by rw[JV];omega) (by rw[JV];omega)];refine vi ?_;exact au (i+1,N+1,kidD x 1) ⟨by simp only;omega,u,by simp only;rw[show p-(i+1)=r by omega];exact b⟩ (hm:=by show (row (kidD x 1)).length<(row x).length;omega)
 ·have d:¬ x.n.op=4:=d
  have:h=false:=by
   rw[<- b];cases p-i<;>simp[dB',d]
  subst this;exact⟨_,_,rfl,rfl,rfl⟩
end
section
variable{B:aq}{pl:List Int}{g:Nat}{rc:RcF}{N:Int}{m:List Int}{x:Tr}
theorem Kd(hB:GoodB B)(T:qX B pl g rc)(hpl:pl.length<=1000)(w:Ft (QB B) N x)(s:x.n.op=11)(hm:Mk pl m)(a6:m.length+4*(row x).length<=100000)(hg:(row x).length<=g+1):VC prog 238 [o8 B pl,ah (row x),ja m] (.bool (ky B rc x m)):=by
 have X:=az w;obtain⟨Y,u,a7,a5⟩:=gf w.ok s;obtain⟨i,e,s',ps,qi,hi,a8,he,I,hF⟩:=hB.fam (jO w.node' (.inr s)) (KJ _);have E:∀k,k<x.ks.length ->Ft (QB B) N (kidD x k)/\(row (kidD x k)).length<(row x).length:=λk u=>by
  have:=w.kidN k (by rw[Y];exact u) (b:=0) (by simp[kb,aX,s]);rw[Int.add_zero]at this;exact⟨this,(cq X (by rw[Y];exact u)).2.2⟩
 have F:∀k,k<x.ks.length ->row x=(x.n::rows (x.ks.take k))++(row (kidD x k)++rows (x.ks.drop (k+1)))/\(rows (x.ks.take (k+1))).length=(rows (x.ks.take k)).length+(row (kidD x k)).length/\(x.n::rows (x.ks.take k)).length+(row (kidD x k)).length<=(row x).length:=λk u=>by
  obtain⟨_,_,r1,r2⟩:=Dc w.ok s u;refine⟨r1,r2,?_⟩;have:=congrArg List.length r1;simp only[JK]at this;omega
 obtain⟨f0,l0⟩:=E 0 (by omega);obtain⟨H,l1⟩:=E 1 (by omega);obtain⟨r0,q0,m0⟩:=F 0 (by omega);obtain⟨r1,q1,m1⟩:=F 1 (by omega);have z0:(rows (x.ks.take 0)).length=0:=by simp[rows]
 rw[JV]at m0 m1;have q0:(rows (x.ks.take 1)).length=(rows (x.ks.take 0)).length+(row (kidD x 0)).length:=q0;have q1:(rows (x.ks.take 2)).length=(rows (x.ks.take 1)).length+(row (kidD x 1)).length:=q1;have Z:(rows (x.ks.take 2)).length=(row (kidD x 0)).length+(row (kidD x 1)).length:=by omega
 have a9:=w.len;have a':=H.nargs;have wh:=az H.head;have a0:=cY H.head.ok.pl;have eA:=ak rP ((argsT (kidD x 1)).map row);have b0:=ak row (argsT (kidD x 1));have eC:=ak bD e.ctors;obtain⟨nb,b1⟩:∃k:Nat,x.n.b=(k:Int):=⟨x.n.b.toNat,by omega⟩
 generalize f:ky B rc x m=r;unfold ky at f;refine cN 108 [.tmp 6] τok func238 ?_;refine aC τok ?_;refine aC τok ?_;refine af (endP w (y:=kidD x 0) r0 f0.ok (by rw[JV];omega)) ?_;refine aC τok ?_;refine af (endP w (y:=kidD x 1) r1 H.ok (by rw[JV,JV];omega)) ?_;refine aC τok ?_;refine bM 1 ((x.n::rows (x.ks.take 0)).length+(row (kidD x 0)).length) ?_ (cQ _) (h3:=by rw[JV];omega) (h4:=by rw[List.length_map,JV];omega);rw[dp r0 (by rw[JV];omega) rfl];refine bM (1+(row (kidD x 0)).length) ((x.n::rows (x.ks.take 1)).length+(row (kidD x 1)).length) ?_ (cQ _) (h1:=by rw[JV];omega) (h3:=by rw[JV];omega) (h4:=by rw[List.length_map,JV];omega);rw[dp r1 (by rw[JV];omega) rfl];have o:=yC T (ys:=[kidD x 0,kidD x 1]) (L:=[[ah (row (kidD x 0))],[ah (row (kidD x 1))]]) rfl (N:=N) (λy hy=>by
  rcases List.mem_cons.1 hy with rfl|hy
  ·exact⟨f0,by omega,by omega⟩
  ·obtain rfl:=List.mem_singleton.1 hy
   exact⟨H,by omega,by omega⟩) (by simp) hm
 have M:([kidD x 0,kidD x 1].all λy=>rc y m)=(rc (kidD x 0) m && rc (kidD x 1) m):=by simp
 rw[M]at o;cases ha:(rc (kidD x 0) m && rc (kidD x 1) m)with
 |false=>
  rw[ha]at o f;have f:false=r:=f;subst f;refine af o ?_;refine vk ?_;exact⟨_,_,rfl,rfl,rfl⟩
 |true=>
 rw[ha]at o;rw[ha,Bool.true_and]at f;refine af o ?_;refine vk ?_;refine aC τok ?_;refine bM (1+(row (kidD x 0)).length) ((x.n::rows (x.ks.take 1)).length+(row (kidD x 1)).length) ?_ (cQ _) (h1:=by rw[JV];omega) (h3:=by rw[JV];omega) (h4:=by rw[List.length_map,JV];omega);rw[dp r1 (by rw[JV];omega) rfl];refine af (tI H) ?_;refine aC τok ?_;refine dJ τok (σ:=Int) [(1,_),(2,_),(3,_),(8,_),(10,_)] [(3,_)] (λv=>[(11,vI v)]) (λ_=>[]) (λv=>v=if (headT (kidD x 1)).n.op=1 then bN m (headT (kidD x 1)).n.a else 0) ?_ ?_
 ·refine vm (p:=ndP) 0 (aI wh) ?_
  refine ae (λj=>?_) (λj=>?_)
  ·have j:(headT (kidD x 1)).n.op=1:=j
   refine vm (p:=ndP) 0 (aI wh) ?_;refine af (yB (m:=m) a0.2.2.1 (by omega)) ?_;exact au _ (if_pos j).symm
  ·have j:¬ (headT (kidD x 1)).n.op=1:=j
   exact au 0 (if_neg j).symm
 intro v hv;refine dJ τok (σ:=Bool) [(1,_),(2,_),(3,_),(8,_)] [(3,_)] (λb=>[(12,vP (.bool b))]) (λ_=>[]) (λb=>b=nK (kidD x 1) m) ?_ ?_
 ·have U:nK (kidD x 1) m=(decide (v=2)||(decide (v=1) && decide ((argsT (kidD x 1)).length=0))):=by rw[hv];rfl
  refine ae (λj=>?_) (λj=>?_)
  ·exact au true (by rw[U,decide_eq_true (p:=v=2) j];rfl)
  refine ae (λz=>?_) (λz=>?_)
  ·refine ae (λO=>?_) (λO=>?_)
   ·have O:((((argsT (kidD x 1)).map row).map rP).length:Int)=0:=O
    exact au true (by rw[U,decide_eq_false (p:=v=2) j,decide_eq_true (p:=v=1) z,decide_eq_true (by omega)];rfl)
   ·have O:¬ ((((argsT (kidD x 1)).map row).map rP).length:Int)=0:=O
    exact au false (by rw[U,decide_eq_false (p:=v=2) j,decide_eq_true (p:=v=1) z,decide_eq_false (by omega)];rfl)
  ·exact au false (by rw[U,decide_eq_false (p:=v=2) j,decide_eq_false (p:=v=1) z];rfl)
 intro C a1;rw[<- a1,Y,hi]at f;rw[hi]at I;refine aj τok ?_;refine vm (p:=ndP) 0 (aI X) ?_;refine vm (p:=aU) i he ?_;refine vk ?_;refine vm (p:=ndP) 0 (aI X) ?_;refine aB τok (σ:=Nat) [(1,_),(2,_),(3,_),(12,_),(13,_),(77,_)] [(3,_)] (λk=>[(8,vI ((1+(rows (x.ks.take (2+k))).length:Nat):Int)),(78,vI k)]) (λ_=>[]) (λk=>k<=nb/\lE B rc i C m k (x.ks.drop (2+k))=r) (λk=>nb-k) 0 ⟨KV _,f⟩ ?_ (x1:=⟨congrArg (λn:Int=>some (vI n)) (by rw[JV,Z];omega),rfl,trivial⟩)
 clear f
 rintro k ⟨b2,d⟩;refine aj τok ?_;refine ae (λj=>?_) (λj=>?_)
 ·have j:(k:Int)<x.n.b:=j
  obtain⟨V,kL⟩:=E (2+k) (by omega);obtain⟨W,kl,km⟩:=F (2+k) (by omega);rw[JV]at km;have D:=(Dc w.ok s (k:=2+k) (by omega)).1;have a2:x.ks.drop (2+k)=kidD x (2+k)::x.ks.drop (2+k+1):=by
   rw[List.drop_eq_getElem_cons (by omega)];rw[gE]at D;rw[JB D]
  rw[a2]at d;simp only[lE,I]at d;refine af (endP w (y:=kidD x (2+k)) W V.ok (by rw[JV];omega)) ?_;cases C with
  |false=>
   rw[Bool.false_and,if_neg (by decide)]at d;refine bM (1+(rows (x.ks.take (2+k))).length) ((x.n::rows (x.ks.take (2+k))).length+(row (kidD x (2+k))).length) ?_ (cQ _) (h1:=rfl) (h3:=by rw[JV];omega) (h4:=by rw[List.length_map,JV];omega);rw[dp W (by rw[JV];omega) rfl];have q:=yD T V hpl hm (by omega) (by omega) 0 (by omega);cases h:fP rc 0 (kidD x (2+k)) m with
   |false=>
    rw[h]at q d;have d:false=r:=d;subst d;refine af q ?_;refine vk ?_;exact⟨_,_,rfl,rfl,rfl⟩
   |true=>
    rw[h]at q;rw[h,Bool.true_and]at d;refine af q ?_;refine vk ?_;refine vi ?_;exact au (k+1) ⟨by omega,by rw[show 2+(k+1)=2+k+1 by omega];exact d⟩ (x:=⟨congrArg (λn:Int=>some (vI n)) (by rw[show 2+(k+1)=2+k+1 by omega,kl,JV];omega),rfl,trivial⟩)
  |true=>
   rw[Bool.true_and]at d;refine ae (λz=>?_) (λz=>?_)
   ·have z:(k:Int)<((e.ctors.map bD).length:Int):=z
    rw[if_pos (decide_eq_true (by omega))]at d;obtain⟨c,hc,_⟩:=ay (l:=e.ctors) (k:=k);have a3:e.ctors.getD k default=c:=by rw[List.getD_eq_getElem?_getD,hc];rfl
    rw[a3]at d;obtain⟨ga,go,S⟩:=hF.ct k c hc;have b3:c.args.length<=16:=by rw[S.args,List.length_map];exact S.la
    have a4:=ak (λt=>[ah t]) c.args;rw[<- a4]at d;refine vm (p:=bD) k hc ?_;refine bM (1+(rows (x.ks.take (2+k))).length) ((x.n::rows (x.ks.take (2+k))).length+(row (kidD x (2+k))).length) ?_ (cQ _) (h1:=rfl) (h3:=by rw[JV];omega) (h4:=by rw[List.length_map,JV];omega);rw[dp W (by rw[JV];omega) rfl];have q:=yD T V hpl hm (by omega) (by omega) (c.args.map λt=>[ah t]).length (by omega);cases h:fP rc (c.args.map λt=>[ah t]).length (kidD x (2+k)) m with
    |false=>
     rw[h]at q d;have d:false=r:=d;subst d;refine af q ?_;refine vk ?_;exact⟨_,_,rfl,rfl,rfl⟩
    |true=>
     rw[h]at q;rw[h,Bool.true_and]at d;refine af q ?_;refine vk ?_;refine vi ?_;exact au (k+1) ⟨by omega,by rw[show 2+(k+1)=2+k+1 by omega];exact d⟩ (x:=⟨congrArg (λn:Int=>some (vI n)) (by rw[show 2+(k+1)=2+k+1 by omega,kl,JV];omega),rfl,trivial⟩)
   ·have z:¬ (k:Int)<((e.ctors.map bD).length:Int):=z
    rw[if_neg (by simpa using (by omega:¬ k<e.ctors.length))]at d;refine bM (1+(rows (x.ks.take (2+k))).length) ((x.n::rows (x.ks.take (2+k))).length+(row (kidD x (2+k))).length) ?_ (cQ _) (h1:=rfl) (h3:=by rw[JV];omega) (h4:=by rw[List.length_map,JV];omega);rw[dp W (by rw[JV];omega) rfl];have q:=yD T V hpl hm (by omega) (by omega) 0 (by omega);cases h:fP rc 0 (kidD x (2+k)) m with
    |false=>
     rw[h]at q d;have d:false=r:=d;subst d;refine af q ?_;refine vk ?_;exact⟨_,_,rfl,rfl,rfl⟩
    |true=>
     rw[h]at q;rw[h,Bool.true_and]at d;refine af q ?_;refine vk ?_;refine vi ?_;exact au (k+1) ⟨by omega,by rw[show 2+(k+1)=2+k+1 by omega];exact d⟩ (x:=⟨congrArg (λn:Int=>some (vI n)) (by rw[show 2+(k+1)=2+k+1 by omega,kl,JV];omega),rfl,trivial⟩)
 ·have j:¬ (k:Int)<x.n.b:=j
  rw[JY (by omega)]at d;have d:true=r:=d;subst d;exact⟨_,_,rfl,rfl,rfl⟩
end
theorem Ke(m:List Int)(k:Nat):m.map iP++List.replicate k [PV.int .i64 0]=(m++List.replicate k 0).map iP:=by
 rw[List.map_append,List.map_replicate]
 rfl
section
variable{B:aq}{pl:List Int}
theorem Kf(hB:GoodB B)(hpl:∀p∈pl,0<=p/\p<=15)(a5:pl.length<=100):∀g,qX B pl g (eo B pl g):=by
 intro g
 induction g with
 |zero=>
  intro N x m _ _ _ h;have:=aR x;omega
 |succ g I=>
 intro N x m Y u a8 hg;have s:=Y.head;have wh:=az s;have hn:=Y.nargs;have a9:=Y.len;have Z:=cY s.ok.pl;have eA:=ak (λt=>[ah t]) ((argsT x).map row);have a':=ak row (argsT x);have eP:=ak iP pl;have b0:=aR (headT x);have E:∀y∈argsT x,Ft (QB B) N y/\m.length+4*(row y).length<=100000/\(row y).length<=g:=λy X=>by
  have:=eI' X;exact⟨Y.args y X,by omega,by omega⟩
 generalize b:eo B pl (g+1) x m=r;simp only[eo]at b
 generalize a6:eo B pl g=rc at *
 refine cN 156 [.tmp 6] τok func213 ?_;refine aj τok ?_;have o:=yC I (ys:=argsT x) rfl E (by omega) u;refine af (tI Y) ?_;cases ha:((argsT x).all λy=>rc y m)with
 |false=>
  rw[ha]at o b;have b:false=r:=b;subst b;refine af o ?_;exact⟨_,_,rfl,rfl,rfl⟩
 |true=>
 rw[ha]at o;rw[ha,Bool.true_and]at b;refine af o ?_;refine vm (p:=ndP) 0 (aI wh) ?_
 generalize b1:headT x=h at *
 refine ae (λV=>?_) (λV=>?_)
 ·have V:h.n.op=1:=V
  rw[if_pos V]at b;refine af (yB (m:=m) Z.2.2.1 (by omega)) ?_;refine ae (λD=>?_) (λD=>?_)
  ·rw[if_pos D]at b
   subst b;exact⟨_,_,rfl,rfl,rfl⟩
  ·rw[if_neg D]at b
   obtain⟨j,hj,ej⟩:=(u.of Z.2.2.1).resolve_left D;rw[ej,show ((100:Int)+j-100).toNat=j by omega]at b;obtain⟨p,hp,_⟩:=ay (l:=pl) (k:=j) hj;obtain⟨p0,b2⟩:=hpl p (JQ hp);rw[List.getD_eq_getElem?_getD,hp]at b;have b:(decide (p<(argsT x).length) && i2 (eQ x p) m)=r:=b;rw[ej];refine vi ?_;refine vm (p:=iP) j hp ?_ (by omega);refine ae (λv=>?_) (λv=>?_)
   ·have v:((((argsT x).map row).map λt=>[ah t]).length:Int)>p:=v
    rw[decide_eq_true (by omega),Bool.true_and]at b;obtain⟨z,hz,_⟩:=ay (l:=argsT x) (k:=p.toNat);have e:eQ x p=z:=by simp[eQ,hz]
    rw[e]at b;have hl:=Ka (m:=m) (E z (JQ hz)).1 (by omega);rw[b]at hl;refine vm (p:=rP) p.toNat (x:=row z) (by rw[JX,hz];rfl) ?_;refine af hl ?_;exact⟨_,_,rfl,rfl,rfl⟩
   ·have v:¬ ((((argsT x).map row).map λt=>[ah t]).length:Int)>p:=v
    rw[decide_eq_false (by omega)]at b;have b:false=r:=b;subst b;exact⟨_,_,rfl,rfl,rfl⟩
 have V:¬ h.n.op=1:=V;rw[if_neg V]at b;refine ae (λD=>?_) (λD=>?_)
 ·have D:h.n.op=11:=D
  rw[if_pos D]at b;have hM:=Kd hB I (by omega) s D u (by omega) (by omega);rw[b]at hM;refine af hM ?_;exact⟨_,_,rfl,rfl,rfl⟩
 have D:¬ h.n.op=11:=D;rw[if_neg D]at b;refine ae (λv=>?_) (λv=>?_)
 ·have v:h.n.op=4:=v
  rw[if_pos (.inl v)]at b;obtain⟨_,M,T⟩:=dX s (.inl v);obtain⟨r1,r2,_⟩:=nG s.ok (.inl v);have F:=congrArg List.length r2;simp only[JK,JV]at F;have w:=I N (kidD h 0) m M u (by omega) (by omega);have C:=I (N+1) (kidD h 1) (m++[0]) T (u.snoc (.inl rfl)) (by rw[JK,List.length_singleton];omega) (by omega);unfold ja at C;rw[j3]at C;refine af (endP s (a:=[h.n]) (y:=kidD h 0) (q:=row (kidD h 1)) r1 M.ok rfl) ?_;refine bM 1 (1+(row (kidD h 0)).length) ?_ (cQ _) (h4:=by rw[List.length_map];omega);rw[dp (p:=1) (n:=1+(row (kidD h 0)).length) r1 rfl rfl];cases hr:rc (kidD h 0) m with
  |false=>
   rw[hr]at w b;have b:false=r:=b;subst b;refine af w ?_;refine vk ?_;exact⟨_,_,rfl,rfl,rfl⟩
  |true=>
   rw[hr]at w;rw[hr,Bool.true_and]at b;rw[b]at C;refine af w ?_;refine bM (1+(row (kidD h 0)).length) (row h).length ?_ (cQ _) (h1:=rfl) (h2:=by rw[List.length_map]) (h3:=by omega) (h4:=by rw[List.length_map];omega);rw[dp (a:=h.n::row (kidD h 0)) (y:=kidD h 1) (q:=[]) (by rw[JD];exact r2) (by rw[JV];omega) (by rw[JV];omega)];refine fX (pb (o9 u (by omega)) (by omega)) ?_;refine bi ?_ (hb:=by simp;omega);refine af C ?_;refine vk ?_;exact⟨_,_,rfl,rfl,rfl⟩
 have v:¬ h.n.op=4:=v;refine ae (λU=>?_) (λU=>?_)
 ·have U:h.n.op=5:=U
  rw[if_pos (.inr U)]at b;obtain⟨_,M,T⟩:=dX s (.inr U);obtain⟨r1,r2,_⟩:=nG s.ok (.inr U);have F:=congrArg List.length r2;simp only[JK,JV]at F;have w:=I N (kidD h 0) m M u (by omega) (by omega);have C:=I (N+1) (kidD h 1) (m++[0]) T (u.snoc (.inl rfl)) (by rw[JK,List.length_singleton];omega) (by omega);unfold ja at C;rw[j3]at C;refine af (endP s (a:=[h.n]) (y:=kidD h 0) (q:=row (kidD h 1)) r1 M.ok rfl) ?_;refine bM 1 (1+(row (kidD h 0)).length) ?_ (cQ _) (h4:=by rw[List.length_map];omega);rw[dp (p:=1) (n:=1+(row (kidD h 0)).length) r1 rfl rfl];cases hr:rc (kidD h 0) m with
  |false=>
   rw[hr]at w b;have b:false=r:=b;subst b;refine af w ?_;refine vk ?_;exact⟨_,_,rfl,rfl,rfl⟩
  |true=>
   rw[hr]at w;rw[hr,Bool.true_and]at b;rw[b]at C;refine af w ?_;refine bM (1+(row (kidD h 0)).length) (row h).length ?_ (cQ _) (h1:=rfl) (h2:=by rw[List.length_map]) (h3:=by omega) (h4:=by rw[List.length_map];omega);rw[dp (a:=h.n::row (kidD h 0)) (y:=kidD h 1) (q:=[]) (by rw[JD];exact r2) (by rw[JV];omega) (by rw[JV];omega)];refine fX (pb (o9 u (by omega)) (by omega)) ?_;refine bi ?_ (hb:=by simp;omega);refine af C ?_;refine vk ?_;exact⟨_,_,rfl,rfl,rfl⟩
 have U:¬ h.n.op=5:=U;rw[if_neg (by omega)]at b;refine ae (λS=>?_) (λS=>?_)
 ·have S:h.n.op=7:=S
  rw[if_pos S]at b;obtain⟨k3,M,T,f2⟩:=nH s S;obtain⟨_,_,_,r1,r2,r3⟩:=oN s.ok S;have F:=congrArg List.length r3;simp only[JK,JV]at F;have h2:=I (N+1) (kidD h 2) (m++[0]) f2 (u.snoc (.inl rfl)) (by rw[JK,List.length_singleton];omega) (by omega);unfold ja at h2;rw[j3]at h2;have o:=yC I (ys:=[kidD h 0,kidD h 1]) (L:=[[ah (row (kidD h 0))],[ah (row (kidD h 1))]]) rfl (N:=N) (λy X=>by
   rcases List.mem_cons.1 X with rfl|X
   ·exact⟨M,by omega,by omega⟩
   ·obtain rfl:=List.mem_singleton.1 X
    exact⟨T,by omega,by omega⟩) (by simp) u
  have a0:([kidD h 0,kidD h 1].all λy=>rc y m)=(rc (kidD h 0) m && rc (kidD h 1) m):=by simp
  rw[a0]at o;refine af (endP s (a:=[h.n]) (y:=kidD h 0) (q:=row (kidD h 1)++row (kidD h 2)) r1 M.ok rfl) ?_;refine af (endP s (a:=h.n::row (kidD h 0)) (y:=kidD h 1) (q:=row (kidD h 2)) r2 T.ok (by simp;omega)) ?_;refine bM 1 (1+(row (kidD h 0)).length) ?_ (cQ _) (h4:=by rw[List.length_map];omega);rw[dp (p:=1) (n:=1+(row (kidD h 0)).length) r1 rfl rfl];refine bM (1+(row (kidD h 0)).length) ((h.n::row (kidD h 0)).length+(row (kidD h 1)).length) ?_ (cQ _) (h1:=rfl) (h3:=by rw[JV];omega) (h4:=by rw[List.length_map,JV];omega);rw[dp r2 (by rw[JV];omega) rfl];cases hr:(rc (kidD h 0) m && rc (kidD h 1) m)with
  |false=>
   rw[hr]at o b;have b:false=r:=b;subst b;refine af o ?_;refine vk ?_;exact⟨_,_,rfl,rfl,rfl⟩
  |true=>
   rw[hr]at o;rw[hr,Bool.true_and]at b;rw[b]at h2;refine af o ?_;refine bM ((h.n::row (kidD h 0)).length+(row (kidD h 1)).length) (row h).length ?_ (cQ _) (h1:=rfl) (h2:=by rw[List.length_map]) (h3:=by rw[JV];omega) (h4:=by rw[List.length_map];omega);rw[dp (a:=h.n::(row (kidD h 0)++row (kidD h 1))) (y:=kidD h 2) (q:=[]) (by rw[JD];exact r3) (by rw[JV,JV,JK];omega) (by rw[JV,JK];omega)];refine fX (pb (o9 u (by omega)) (by omega)) ?_;refine bi ?_ (hb:=by simp;omega);refine af h2 ?_;refine vk ?_;exact⟨_,_,rfl,rfl,rfl⟩
 have S:¬ h.n.op=7:=S;rw[if_neg S]at b;refine ae (λH=>?_) (λH=>?_)
 ·have H:h.n.op=12:=H
  rw[if_pos H]at b;obtain⟨l1,l2,l3,l4,l5⟩:=dM s.ok H;have b3:=fK s.ok H;obtain⟨O,a1⟩:∃k,h.n.b.toNat=k:=⟨_,rfl⟩
  have b4:h.n.b=(O:Int):=by omega
  rw[a1]at b;have hz:=u.zeros O;refine fX (pb (o9 u (by omega)) (by omega)) ?_;refine G0 O ?_;refine vk ?_;refine aB τok (σ:=Nat) [(2,_),(3,_),(7,_),(125,_)] [(3,_)] (λi=>[(15,vI ((1+(rows (h.ks.take i)).length:Nat):Int)),(16,.c (.row 1000)),(126,vI i)]) (λi=>[(1000,.rw 230 1 ((m++List.replicate O 0).map iP))]) (λi=>i<=O/\kz rc m (m++List.replicate O 0) ((kidsT h).drop (2*i))=r) (λi=>O-i) 0 ⟨KV _,b⟩ ?_ (f:=sw 1000 123) (x1:=⟨congrArg (λn:Int=>some (vI n)) (by simp[rows]),rfl,rfl,trivial⟩) (y1:=⟨congrArg (λl=>some (SE.rw _ _ l)) (Ke m O),trivial⟩)
  clear b
  rintro i ⟨hi,d⟩
  dsimp only
  refine aj τok ?_;refine ae (λg7=>?_) (λg7=>?_)
  ·have g7:(i:Int)<h.n.b:=g7
   obtain⟨f,hf,a2,a3,b5,b6,b7,b8,a7,r1,r2,r3,r4⟩:=tj s.ok H (i:=i) (by omega);obtain⟨_,_,M,T⟩:=ii s H (i:=i) (by omega);have a4:=congrArg List.length r1;simp only[JK,JV,JU]at a4;rw[r4]at d;simp only[kz]at d;have w:=I N (kidD h (2*i)) m M u (by omega) (by omega);have C:=I (N+h.n.b) (kidD h (2*i+1)) (m++List.replicate O 0) T hz (by rw[JK,List.length_replicate];omega) (by omega);have e1:(h.n::(rows (h.ks.take i)++[f.n])).length=1+(rows (h.ks.take i)).length+1:=by simp;omega
   have e2:(h.n::(rows (h.ks.take i)++(f.n::row (kidD h (2*i))))).length=1+(rows (h.ks.take i)).length+1+(row (kidD h (2*i))).length:=by simp;omega
   refine vi ?_;refine af (endP s (y:=kidD h (2*i)) r1 a2 (by rw[e1];omega)) ?_;refine af (endP s (y:=kidD h (2*i+1)) r2 a3 (by rw[e1,e2])) ?_;refine vi ?_;refine bM (1+(rows (h.ks.take i)).length+1) ((h.n::(rows (h.ks.take i)++[f.n])).length+(row (kidD h (2*i))).length) ?_ (cQ _) (h1:=by omega) (h2:=rfl) (h3:=by omega) (h4:=by rw[List.length_map];omega);rw[dp r1 e1.symm rfl];cases hr:rc (kidD h (2*i)) m with
   |false=>
    rw[hr]at w d;have d:false=r:=d;subst d;refine mg w ?_;refine vk ?_;exact⟨_,_,rfl,rfl,rfl⟩
   |true=>
   rw[hr]at w;rw[hr,Bool.true_and]at d;refine mg w ?_;refine bM ((h.n::(rows (h.ks.take i)++[f.n])).length+(row (kidD h (2*i))).length) ((h.n::(rows (h.ks.take i)++(f.n::row (kidD h (2*i))))).length+(row (kidD h (2*i+1))).length) ?_ (cQ _) (h1:=rfl) (h2:=rfl) (h3:=by omega) (h4:=by rw[List.length_map];omega);rw[dp r2 (by omega) rfl];cases W:rc (kidD h (2*i+1)) (m++List.replicate O 0)with
   |false=>
    rw[W]at C d;have d:false=r:=d;subst d;refine mg C ?_;refine vk ?_;exact⟨_,_,rfl,rfl,rfl⟩
   |true=>
   rw[W]at C;rw[W,Bool.true_and]at d;refine mg C ?_;refine vk ?_;refine vi ?_;exact au (i+1) ⟨by omega,d⟩ (x:=⟨congrArg (λn:Int=>some (vI n)) (by rw[r3];omega),rfl,rfl,trivial⟩)
  ·have g7:¬ (i:Int)<h.n.b:=g7
   rw[JY (by omega)]at d;have d:true=r:=d;subst d;exact⟨_,_,rfl,rfl,rfl⟩
 ·have H:¬ h.n.op=12:=H
  rw[if_neg H]at b;subst b;exact⟨_,_,rfl,rfl,rfl⟩
end
theorem D6(op:Int):∀(a b:List Tr) (x:Tr),dU op (a++b) x=dU op a (dU op b x)
 |[],_,_=>rfl
 |y::r,b,x=>by simp only[List.cons_append,dU,D6 op r b x]
theorem D7(a b:List Tr)(x:Tr):aZ (a++b) x=(aZ b x).bind (aZ a):=by
 unfold aZ;rw[D6]
 by_cases h:4096<(row (dU 4 b x)).length
 ·rw[if_pos h,if_pos]
  ·rfl
  ·rw[sT,JK]
   omega
 ·rw[if_neg h]
  rfl
section
variable{B:aq}(hS:dG B)(hr:cS B=0)(hB:GoodB B)
include hS hr hB
theorem Kg{a:Int}(ha:bk B B.ents.length a=true):VC prog 61 [aY B,pI a] (cT (fG B a)):=by
 obtain⟨i,x,s,l,o,rfl,_,v,z,b⟩:=hB.fam ha (KJ _);obtain⟨C,D,E⟩:=b.ps_eq v;have f:=qU hS;rw[hr]at f;have F:=ak aU B.ents;have d:=oZ (known:=B.ents.length) (KJ _) (i:Int);rw[ha,show ((B.ents.length:Nat):Int)=((B.ents.map aU).length:Int) by rw[F]]at d;have q:∀y∈l,Wf y:=λy j=>by
  obtain⟨k,r⟩:=JH j;have:=b.fp k y r;exact⟨this.ok,this.len⟩
 have t:∀y∈o,Wf y:=λy j=>by
  obtain⟨k,r⟩:=JH j;have:=b.fi k y r;exact⟨this.ok,this.len⟩
 have H:=b.lp;have I:=b.li;have L:fG B (i:Int)=aZ (l++o) s:=by
  rw[D7];unfold fG;rw[C,D,E]
 have w:=tF (x:=s) ⟨b.fs.ok,b.fs.len⟩ (ys:=l++o) (λy j=>by
  rcases List.mem_append.1 j with h|h
  ·exact q y h
  ·exact t y h) (by simp;omega)
 rw[<- L]at w;have u:VC prog 58 [pI 4,.sl (x.params.map rP++x.indices.map rP),ah x.sort] (cT (fG B (i:Int))):=by
  rw[<- List.map_append,b.params,b.indices,b.sort,<- List.map_append];exact w
 have M:=congrArg List.length b.params;have O:=congrArg List.length b.indices;rw[List.length_map]at M O;refine vf 39 [.tmp 4,.tmp 5] τok func61 ?_;refine af f ?_;refine vn ?_;refine af d ?_;refine vm i v ?_;refine va (p:=rP) ?_ (iY _);refine va (p:=rP) ?_ (iY _);refine vk ?_;refine af u ?_;cases S:fG B (i:Int)with
 |error e=>exact⟨_,_,rfl,rfl,rfl⟩
 |ok y=>exact⟨_,_,rfl,rfl,rfl⟩
end
theorem yE{n:Nat}{fr:Int}(b:n<=100)(d:0<=fr/\fr<=100):VO prog 111 [pI (fr+n-1),pI fr] 29 1 (((varsM n fr).map row).map rP):=by
 have ev:∀k,k<n ->(varsM n fr)[k]?=some (varX (fr+((n-1-k:Nat):Int))):=λk a=>by
  unfold varsM;rw[JX,List.getElem?_range a]
  rfl
 have e:(varsM n fr).length=n:=by simp[varsM]
 refine nv 20 [.tmp 4] τok func111 ?_;refine aj τok ?_;refine dD 5 1000 29 1 rfl rfl ?_;refine aB τok (σ:=Nat) [(0,_),(1,_)] [] (λk=>[(5,.c (.row 1000)),(6,vI (fr+n-1-k))]) (λk=>[(1000,.rw 29 1 ((((varsM n fr).take k).map row).map rP))]) (λk=>k<=n) (λk=>n-k) 0 (KV _) ?_ (x1:=⟨rfl,by simp;rfl,trivial⟩);rintro k f;refine aj τok ?_;refine ae (λg=>?_) (λg=>?_)
 ·refine bi ?_ (hb:=by simp;omega)
  refine vi ?_;refine au (k+1) (by show k+1<=n;omega) (sw 1000 18) (x:=⟨rfl,congrArg (λz=>some (vI z)) (by omega),trivial⟩) (y':=⟨congrArg (λl=>some (SE.rw _ _ l)) ?_,trivial⟩);rw[List.take_add_one,ev k (by omega),Option.toList,List.map_append,List.map_append];refine congrArg (_++ ·) ?_;rw[show fr+((n-1-k:Nat):Int)=fr+n-1-k by omega]
  rfl
 ·exact⟨1000,rfl,congrArg (λl=>some (SE.rw 29 1 ((List.map row l).map rP))) (JG (l:=varsM n fr) (i:=k) (by omega))⟩
theorem Kh{n:Nat}{fr:Int}(d:n<=100)(e:0<=fr/\fr<=100):∀y∈varsM n fr,Wf y:=λy a=>by
 unfold varsM at a;obtain⟨k,b,rfl⟩:=List.mem_map.1 a;have:=List.mem_range.1 b;exact⟨nB rfl (by show 0<=fr+((n-1-k:Nat):Int);omega) (by show fr+((n-1-k:Nat):Int)<=(1048576:Int);omega) rfl,by simp[varX,row,rows]⟩
theorem Ki{n:Nd}(a:aw n=true)(h:n.op=9 \/n.op=10):Wf (.mk n []):=by
 refine⟨⟨⟨?_,trivial⟩,?_⟩,by simp[row,rows]⟩
 ·simp only[cnt]
  rw[if_pos ⟨a,by omega,by omega⟩,if_neg (by omega)];have:bq n=0:=by unfold bq;rw[if_neg (by omega),if_neg (by omega),if_neg (by omega),if_neg (by omega)]
  rw[this]
  rfl
 ·have:¬ n.op=2:=by omega
  simp[gH',eQ',this]
theorem Kj{x:Tr}{ys:List Tr}{z:Tr}(a:Wf x)(b:∀y∈ys,Wf y)(h:aK x ys= .ok z):Wf z:=by
 unfold aK at h;split at h
 ·cases h
 ·rename_i d
  injection h with h
  subst h;exact⟨eJ' ys x a.ok λy h=>(b y h).ok,by omega⟩
section
variable{B:aq}(hS:dG B)(hr:cS B=0)(hB:GoodB B)
include hS hr hB
theorem Kl{a b:Int}(ha:bk B B.ents.length a=true)(h0:0<=b)(hb:b<(aN B a).ctors.length):VC prog 62 [aY B,pI a,pI b] (cT (gj B a b)):=by
 have a0:=i3 hB ha;obtain⟨i,x,s,d,qi,rfl,_,F,L,r⟩:=hB.fam ha (KJ _);rw[L]at hb;obtain⟨k,rfl⟩:∃k:Nat,b=(k:Int):=⟨b.toNat,by omega⟩
 obtain⟨c,M,_⟩:=ay (l:=x.ctors) (k:=k);obtain⟨f,v,q⟩:=r.ct k c M;obtain⟨e1,e2,e3⟩:=r.ps_eq F;obtain⟨e4,e5,e6⟩:=q.ag_eq F M;have w:=qU hS;rw[hr]at w;have eE:=ak aU B.ents;have eC:=ak bD x.ctors;have u:=oZ (known:=B.ents.length) (KJ _) (i:Int);rw[ha,show ((B.ents.length:Nat):Int)=((B.ents.map aU).length:Int) by rw[eE]]at u;have O:∀y∈d,Wf y:=λy o=>by
  obtain⟨k,S⟩:=JH o;have:=r.fp k y S;exact⟨this.ok,this.len⟩
 have T:∀y∈f,Wf y:=λy o=>by
  obtain⟨k,S⟩:=JH o;have:=q.fa k y S;exact⟨this.ok,this.len⟩
 have C:∀y∈v,Wf y:=λy o=>⟨(q.fo y o).ok,(q.fo y o).len⟩
 have a1:=r.lp;have a2:=q.la;have a3:=q.lo;have a4:=r.li;have l1:(x.params.map rP).length=d.length:=by rw[r.params];simp
 have l2:(c.args.map rP).length=f.length:=by rw[q.args];simp
 have l3:=congrArg List.length r.params;have l4:=congrArg List.length q.args;have l5:=congrArg List.length q.out;rw[List.length_map]at l3 l4 l5;have D:=Kh (n:=d.length) (fr:=(f.length:Int)) (by omega) (by omega);have hv:=yE (n:=d.length) (fr:=(f.length:Int)) (by omega) (by omega);have U:VO prog 111 [pI (((x.params.map rP).length:Int)+((c.args.map rP).length:Int)-1),pI ((c.args.map rP).length:Int)] 29 1 (((varsM d.length (f.length:Int)).map row).map rP):=by
  rw[l1,l2,Int.add_comm (d.length:Int)];exact hv
 have V:aw ⟨9,(i:Int),0⟩=true:=by simp[aw,aE];omega
 have E:=Ki V (.inl rfl);have W:=qR E (ys:=varsM d.length (f.length:Int)++v) (λy o=>by
  rcases List.mem_append.1 o with h|h
  ·exact D y h
  ·exact C y h) (by simp[varsM];omega)
 have j:VC prog 110 [ah (row (.mk ⟨9,(i:Int),0⟩ [])),.sl (((varsM d.length (f.length:Int)).map row).map rP++c.out.map rP)] (cT (aK (.mk ⟨9,(i:Int),0⟩ []) (varsM d.length (f.length:Int)++v))):=by
  rw[<- List.map_append,q.out,<- List.map_append];exact W
 have H:gj B (i:Int) (k:Int)=(aK (.mk ⟨9,(i:Int),0⟩ []) (varsM d.length (f.length:Int)++v)).bind λt=>aZ (d++f) t:=by
  unfold gj;rw[e1,e4,e5]
  congr 1
  funext t
  rw[D7]
 refine vf 87 [.tmp 6,.tmp 7] τok func62 ?_;refine af w ?_;refine vn ?_;refine af u ?_;refine vn ?_;refine vm i F ?_;refine vn ?_;refine vm i F ?_;refine vm k M ?_;have f1:=ak (λt=>[ah t]) x.params;have f2:=ak (λt=>[ah t]) c.args;refine vi ?_;refine vi ?_;refine fX U ?_;refine va (p:=rP) ?_ (iY _) (hb:=by simp[varsM];omega);cases I:aK (.mk ⟨9,(i:Int),0⟩ []) (varsM d.length (f.length:Int)++v)with
 |error e=>
  rw[I]at j H;rw[H];have h0:=ib I;subst h0;refine af j ?_;refine vk ?_;refine vy ?_;exact⟨_,_,rfl,rfl,rfl⟩
 |ok y=>
  rw[I]at j H;rw[H];have X:=Kj E (λy o=>by
   rcases List.mem_append.1 o with h|h
   ·exact D y h
   ·exact C y h) I
  have Y:=tF (x:=y) X (ys:=d++f) (λy o=>by
   rcases List.mem_append.1 o with h|h
   ·exact O y h
   ·exact T y h) (by simp;omega)
  have Z:VC prog 58 [pI 4,.sl (x.params.map rP++c.args.map rP),ah (row y)] (cT (aZ (d++f) y)):=by
   rw[<- List.map_append,r.params,q.args,<- List.map_append];exact Y
  refine af j ?_;refine vk ?_;refine vn ?_;refine va (p:=rP) ?_ (iY _);refine va (p:=rP) ?_ (iY _);refine af Z ?_;rw[show (Except.ok y:Except Int Tr).bind (λt=>aZ (d++f) t)=aZ (d++f) y from rfl];cases a5:aZ (d++f) y with
  |error e=>exact vk ⟨_,_,rfl,rfl,rfl⟩
  |ok z=>exact vk ⟨_,_,rfl,rfl,rfl⟩
end
theorem yF(n m:Nat):varsM (n+m) 0=varsM n (m:Int)++varsM m 0:=by
 unfold varsM;refine List.ext_getElem? λi=>?_;rcases Nat.lt_or_ge i n with h|h
 ·rw[List.getElem?_append_left (by simpa using h),JX,JX,List.getElem?_range h,List.getElem?_range (by omega)]
  exact congrArg (λz=>some (varX z)) (by omega)
 ·rw[List.getElem?_append_right (by simpa using h),JX,JX]
  simp only[List.length_map,List.length_range];rcases Nat.lt_or_ge i (n+m)with g|g
  ·rw[List.getElem?_range g,List.getElem?_range (by omega)]
   exact congrArg (λz=>some (varX z)) (by omega)
  ·rw[List.getElem?_eq_none (by simpa using g),List.getElem?_eq_none (by simp;omega)]
   rfl
theorem Km{x:Tr}{ys:List Tr}{e:Int}(h:aZ ys x= .error e):e=9:=by
 unfold aZ at h;split at h
 ·injection h with h
  exact h.symm
 ·cases h
section
variable{B:aq}(hS:dG B)(hr:cS B=0)(hB:GoodB B)
include hS hr hB
theorem Kn{N:Int}(h0:0<=N)(hN:N<=90000){a b:Int}(ha:bk B B.ents.length a=true)(b3:0<=b)(hb:b<(aN B a).ctors.length){D:List Tr}(hq:∀y∈D,Ft (QB B) N y)(Z:D.length=(gJ B a).length){mo:Tr}(T:Ft (QB B) N mo):VC prog 113 [aY B,pI a,pI b,bJ (D.map row),ah (row mo)] (cT (iG B a b D mo)):=by
 generalize d:iG B a b D mo=H;have b2:=i3 hB ha;obtain⟨i,x,s,E,qi,rfl,_,hi,a2,U⟩:=hB.fam ha (KJ _);have b4:=hb;rw[a2]at hb;obtain⟨k,rfl⟩:∃k:Nat,b=(k:Int):=⟨b.toNat,by omega⟩
 obtain⟨c,hc,_⟩:=ay (l:=x.ctors) (k:=k);obtain⟨C,go,O⟩:=U.ct k c hc;obtain⟨e1,e2,e3⟩:=U.ps_eq hi;obtain⟨e4,e5,e6⟩:=O.ag_eq hi hc;have a3:=qU hS;rw[hr]at a3;have eE:=ak aU B.ents;have eC:=ak bD x.ctors;have Y:=oZ (known:=B.ents.length) (KJ _) (i:Int);rw[ha,show ((B.ents.length:Nat):Int)=((B.ents.map aU).length:Int) by rw[eE]]at Y;have a8:∀y∈C,Wf y:=λy o=>by
  obtain⟨k,hk⟩:=JH o;have:=O.fa k y hk;exact⟨this.ok,this.len⟩
 have a9:∀y∈go,Wf y:=λy o=>⟨(O.fo y o).ok,(O.fo y o).len⟩
 have b5:=U.lp;have b6:=O.la;have b7:=O.lo;have b8:=U.lc;have b9:=U.li;unfold iG at d;rw[e1,e4,e5]at d;rw[e1]at Z;have l1:(x.params.map rP).length=E.length:=by rw[U.params];simp
 have l2:(c.args.map rP).length=C.length:=by rw[O.args];simp
 have l3:=congrArg List.length U.params;have l4:=congrArg List.length O.args;have l5:=congrArg List.length O.out;rw[List.length_map]at l3 l4 l5;have f1:=ak (λt=>[ah t]) x.params;have f2:=ak (λt=>[ah t]) c.args;have f3:=ak (λt=>[ah t]) (D.map row);have f4:=ak row D;have f5:((D.map row).map rP).length=D.length:=by simp
 have a0:Ft (QB B) ((E.length+C.length:Nat):Int) (.mk ⟨10,(i:Int),(k:Int)⟩ []):=nM (by simp[aw,aE];omega) (.inr rfl) (by
  simp only[QB,bV,aS];simp[ha,a2];omega)
 have a4:∀y∈varsM E.length (C.length:Int)++varsM C.length 0,Ft (QB B) ((E.length+C.length:Nat):Int) y:=λy o=>by
  rcases List.mem_append.1 o with o|o
  ·exact(kD (qk B) (by omega) (by omega) y o).mono (by omega)
  ·exact(kD (qk B) (by omega) (by omega) y o).mono (by omega)
 refine vf 170 [.tmp 10,.tmp 11] τok func113 ?_;refine af a3 ?_;refine vn ?_;refine af Y ?_;refine vn ?_;refine vm i hi ?_;refine vn ?_;refine vm i hi ?_;refine vn ?_;refine aB τok (σ:=Nat) [(1,_),(2,_),(3,_),(4,_),(5,_)] [(5,_)] (λj=>[(13,vI j)]) (λ_=>[]) (λj=>j<=D.length) (λj=>D.length-j) 0 (KV _) ?_;rintro j g1;refine aj τok ?_;refine ae (λg=>?_) (λg=>?_)
 ·obtain⟨y,o,_⟩:=ay (l:=D) (k:=j)
  have S:=hq y (JQ o);have a5:=kJ (row y) (by have:=S.len;omega);rw[lL ⟨S.ok,S.len⟩]at a5;refine vm (p:=rP) j (x:=row y) (by rw[JX,o];rfl) ?_;refine af a5 ?_;refine vn ?_;refine vi ?_;exact au (j+1) (by show j+1<=_;omega)
 clear g g1
 refine vm i hi ?_;refine vm k hc ?_;have a':=oY ⟨T.ok,T.len⟩ (T.small (by omega)) (b:=((E.length+C.length:Nat):Int)) (fr:=0) (by omega) (by omega);have hm:=T.lift (qk B) (b:=((E.length+C.length:Nat):Int)) (by omega) (by omega) (by omega);have hv:=yE (n:=E.length+C.length) (fr:=0) (by omega) (by omega);have M:=qR (x:=.mk ⟨10,(i:Int),(k:Int)⟩ []) ⟨a0.ok,a0.len⟩ (ys:=varsM (E.length+C.length) 0) (λy o=>by
  have:=a4 y (by rw[<- yF];exact o);exact⟨this.ok,this.len⟩) (by simp[varsM];omega)
 refine vi ?_;refine af (r:=.tup [ah (row (aG mo ((E.length+C.length:Nat):Int) 0)),pI 0]) ?_ ?_
 ·rw[f3,f4,f2,Z,l4,<- Int.natCast_add]
  exact a'
 refine vn ?_;refine vi ?_;refine vi ?_;refine fX (e:=29) (sz:=1) (l:=((varsM (E.length+C.length) 0).map row).map rP) ?_ ?_
 ·rw[f3,f4,f2,Z,l4,<- Int.natCast_add]
  rw[Int.zero_add]at hv;exact hv
 rw[<- yF]at d;cases h1:aK (.mk ⟨10,(i:Int),(k:Int)⟩ []) (varsM (E.length+C.length) 0)with
 |error er=>
  rw[h1]at M d;have e9:=ib h1;subst e9;have d:(.error 9:Except Int Tr)=H:=d;subst d;refine af M ?_;refine vy ?_;exact⟨_,_,rfl,rfl,rfl⟩
 |ok w=>
 rw[h1]at M d;refine af M ?_;refine vn ?_;have a1:=fL (qk B) a0 (λy o=>a4 y (by rw[<- yF];exact o)) h1;have a6:=qR (x:=aG mo ((E.length+C.length:Nat):Int) 0) ⟨hm.ok,hm.len⟩ (ys:=go++[w]) (λy o=>by
  rcases List.mem_append.1 o with h|h
  ·exact a9 y h
  ·obtain rfl:y=w:=by simpa using h
   exact⟨a1.ok,a1.len⟩) (by simp;omega)
 have F:VC prog 110 [ah (row (aG mo ((E.length+C.length:Nat):Int) 0)),.sl (c.out.map rP++[[ah (row w)]])] (cT (aK (aG mo ((E.length+C.length:Nat):Int) 0) (go++[w]))):=by
  rw[O.out];have e:(go.map row).map rP++[[ah (row w)]]=((go++[w]).map row).map rP:=by simp[rP]
  rw[e];exact a6
 refine va (p:=rP) ?_ (iY _);refine bi ?_;cases h2:aK (aG mo ((E.length+C.length:Nat):Int) 0) (go++[w])with
 |error er=>
  rw[h2]at F;have e9:=ib h2;subst e9;have d:(.error 9:Except Int Tr)=H:=by rw[<- d];exact(congrArg (λz=>Except.bind z λt=>(aZ C t).bind (cF D 0 E.length)) h2).symm
  subst d;refine af F ?_;refine vy ?_;exact⟨_,_,rfl,rfl,rfl⟩
 |ok t=>
 rw[h2]at F;have d:(aZ C t).bind (cF D 0 E.length)=H:=by rw[<- d];exact(congrArg (λz=>Except.bind z λt=>(aZ C t).bind (cF D 0 E.length)) h2).symm
 refine af F ?_;refine vn ?_;have ht:=fL (qk B) hm (λy o=>by
  rcases List.mem_append.1 o with o|o
  ·exact(O.up_o hi U.kind o).mono (by omega)
  ·obtain rfl:y=w:=by simpa using o
   exact a1.mono (by omega)) h2
 have a7:=tF (x:=t) ⟨ht.ok,ht.len⟩ (ys:=C) a8 (by omega);have I:VC prog 58 [pI 4,.sl (c.args.map rP),ah (row t)] (cT (aZ C t)):=by
  rw[O.args];exact a7
 cases h3:aZ C t with
 |error er=>
  rw[h3]at I d;have e9:=Km h3;subst e9;have d:(.error 9:Except Int Tr)=H:=d;subst d;refine af I ?_;refine vy ?_;exact⟨_,_,rfl,rfl,rfl⟩
 |ok u=>
 rw[h3]at I d;have d:cF D 0 E.length u=H:=d;refine af I ?_;refine vn ?_;have hu:=kC (qk B) (N:=N+E.length) (ht.mono (by omega)) (λk y o=>(O.up_a hi U.kind o).mono (by omega)) h3;refine vi ?_;refine aB τok (σ:=Nat×Tr) [(3,_)] [] (λq=>[(19,vP (ah (row q.2))),(20,vI ((q.1:Int)-1))]) (λ_=>[]) (λq=>q.1<=D.length/\Ft (QB B) (N+q.1) q.2/\cF D 0 q.1 q.2=H) (λq=>q.1) (E.length,u) ⟨by simp only;omega,hu,d⟩ ?_ (x1:=⟨rfl,congrArg (λz=>some (vI z)) (by simp only;omega),trivial⟩)
 clear d hu h3 I a7
 rintro⟨j,z⟩ ⟨hj,hz,f⟩;simp only at hj hz f;refine aj τok ?_;refine ae (λg=>?_) (λg=>?_)
 ·have g:(0:Int)<=(j:Int)-1:=g
  obtain⟨L,rfl⟩:∃L,j=L+1:=⟨j-1,by omega⟩
  simp only[cF]at f;obtain⟨p,hp,_⟩:=ay (l:=D) (k:=L);have b0:D.getD L (varX 0)=p:=by rw[List.getD_eq_getElem?_getD,hp];rfl
  rw[b0]at f;have V:=hq p (JQ hp);have W:=V.lift (qk B) (b:=(L:Int)) (by omega) (by omega) (by omega);have b1:=oY ⟨V.ok,V.len⟩ (V.small (by omega)) (b:=(L:Int)) (fr:=0) (by omega) (by omega);have X:=tE (x:=z) ⟨hz.ok,hz.len⟩ (u:=aG p L 0) ⟨W.ok,W.len⟩ (W.small (by omega)) (v:=0) (by omega);refine vm (p:=rP) L (x:=row p) (by rw[JX,hp];rfl) ?_ (by simp only;omega);refine af (r:=.tup [ah (row (aG p L 0)),pI 0]) ?_ ?_
  ·rw[show ((((L+1:Nat),z).1:Nat):Int)-1=(L:Int) by simp only;omega]
   exact b1
  refine vn ?_;cases hs:bp z (aG p L 0) 0 with
  |error er=>
   rw[hs]at X f;have e9:=iD hs;subst e9;have f:(.error 9:Except Int Tr)=H:=f;subst f;refine af X ?_;refine vy ?_;exact⟨_,_,rfl,rfl,rfl⟩
  |ok y=>
   rw[hs]at X f;have f:cF D 0 L y=H:=f;have S:=iA (qk B) (N:=N+L) (v:=0) (hz.mono (by omega)) W (by omega) (by omega) (by omega) (by omega) hs;refine af X ?_;refine vn ?_;refine vi ?_;exact au (L,y) ⟨by simp only;omega,S.mono (by simp only;omega),f⟩ (x:=⟨rfl,congrArg (λz=>some (vI z)) (by simp only;omega),trivial⟩)
 ·obtain rfl:j=0:=by simp only at g;omega
  simp only[cF]at f;subst f;exact⟨_,_,rfl,rfl,rfl⟩
end
def iq(z:Int):Int:=if z=0 then -1 else if z=1 then -2 else if z=2 then -3 else z-100
def rM(m:List Int):List Int:=m.reverse.map iq
def lQ(m:List Int):PV:=.sl ((rM m).map iP)
theorem tJ(m:List Int):(rM m).length=m.length:=by simp[rM]
theorem Ko(m:List Int)(z:Int):rM (m++[z])=iq z::rM m:=by simp[rM]
theorem Kq(m:List Int)(z:Int)(k:Nat):rM (m++List.replicate k z)=List.replicate k (iq z)++rM m:=by simp[rM]
theorem D8(l:List Int):∀x∈l,(iP x).length=1/\∀q∈iP x,q.one=true:=λx _=>⟨rfl,λq a=>by
 obtain rfl:q=pI x:=by simpa[iP]using a
 rfl⟩
theorem Kr{m:List Int}{v:Nat}(h:v<m.length):(rM m)[v]?=some (iq (bN m v)):=by
 unfold rM bN;rw[if_neg (by omega),JX,List.getElem?_reverse h,List.getD_eq_getElem?_getD,Int.toNat_natCast,gE]
 rfl
theorem tK(m:List Int)(hm:m.length<=1000000){v:Int}(a:0<=v):VC prog 163 [lQ m,pI v] (pI (iq (bN m v))):=by
 obtain⟨j,rfl⟩:∃j:Nat,v=(j:Int):=⟨v.toNat,by omega⟩
 have b:=ak iP (rM m);have d:=tJ m;refine vf 13 [.tmp 4] τok func163 ?_;refine ae (λg=>?_) (λg=>?_)
 ·refine vm j (Kr (by omega)) ?_
  exact⟨_,_,rfl,rfl,rfl⟩
 ·exact⟨_,_,rfl,rfl,by
   unfold bN;rw[if_pos (by omega)]
   rfl⟩
theorem tL(m:List Int)(hm:m.length<=1000000)(k:Nat)(a:k<=1000000)(z:Int):VC prog 117 [lQ m,pI k,pI (iq z)] (lQ (m++List.replicate k z)):=by
 have b:=tJ m;refine cN 21 [.tmp 6] τok func117 ?_;refine aj τok ?_;refine dD 7 1000 3 1 rfl rfl ?_;refine aB τok (σ:=Nat) [(0,_),(1,_),(2,_)] [] (λj=>[(7,.c (.row 1000)),(8,vI j)]) (λj=>[(1000,.rw 3 1 ((List.replicate j (iq z)).map iP))]) (λj=>j<=k) (λj=>k-j) 0 (KV _) ?_;rintro j d;refine aj τok ?_;refine ae (λg=>?_) (λg=>?_)
 ·refine bi ?_ (hb:=by simp;omega)
  refine vi ?_;exact au (j+1) (by show j+1<=k;omega) (sw 1000 17) (y':=⟨congrArg (λl=>some (SE.rw _ _ l)) (by rw[List.replicate_succ',List.map_append];rfl),trivial⟩)
 ·obtain rfl:j=k:=by omega
  refine va (p:=iP) ?_ (D8 _) (hb:=by simp;omega);exact⟨_,_,rfl,rfl,by unfold lQ;rw[Kq,List.map_append];rfl⟩
theorem mk_of{pl m:List Int}(h:Mk pl m)(v:Int):bN m v=0 \/bN m v=1 \/bN m v=2 \/∃j:Nat,j<pl.length/\bN m v=100+j:=by
 unfold bN;split
 ·exact .inl rfl
 ·rename_i g
  rcases Nat.lt_or_ge (m.length-1-v.toNat) m.length with a|a
  ·rw[List.getD_eq_getElem?_getD,List.getElem?_eq_getElem a]
   exact h _ (List.getElem_mem a)
  ·rw[List.getD_eq_getElem?_getD,List.getElem?_eq_none a]
   exact .inl rfl
theorem D9{pl m:List Int}(h:Mk pl m)(v:Int):iq (bN m v)= -3↔bN m v=2:=by
 unfold iq;rcases mk_of h v with e|e|e|⟨j,_,e⟩<;>rw[e]
 ·decide
 ·decide
 ·decide
 ·constructor<;>intro q
  ·rw[if_neg (by omega),if_neg (by omega),if_neg (by omega)]at q;omega
  ·omega
theorem Ea{pl m:List Int}(h:Mk pl m)(v:Int):iq (bN m v)= -2↔bN m v=1:=by
 unfold iq;rcases mk_of h v with e|e|e|⟨j,_,e⟩<;>rw[e]
 ·decide
 ·decide
 ·decide
 ·constructor<;>intro q
  ·rw[if_neg (by omega),if_neg (by omega),if_neg (by omega)]at q;omega
  ·omega
theorem Ks{pl m:List Int}(h:Mk pl m)(v:Int):(0<=iq (bN m v)↔100<=bN m v)/\(100<=bN m v ->iq (bN m v)=bN m v-100/\∃j:Nat,j<pl.length/\bN m v=100+j):=by
 unfold iq;rcases mk_of h v with e|e|e|⟨j,a,e⟩<;>rw[e]
 ·exact⟨by decide,λh=>by omega⟩
 ·exact⟨by decide,λh=>by omega⟩
 ·exact⟨by decide,λh=>by omega⟩
 ·rw[if_neg (by omega),if_neg (by omega),if_neg (by omega)]
  exact⟨by omega,λ_=>⟨rfl,j,a,rfl⟩⟩
theorem tM{x:Tr}(d:Wf x)(h1:x.n.op=1):0<=x.n.a/\kidsT x=[]:=by
 obtain⟨n,e⟩:=x;have h1:n.op=1:=h1;obtain⟨a,b,c⟩:=d.ft.var_lt h1;exact⟨a,by subst c;simp[kidsT]⟩
theorem Eb{x:Tr}(l:Wf x){pl m:List Int}(j:Mk pl m)(hm:m.length<=1000000):VC prog 164 [bA x,lQ m] (.bool (i2 x m)):=by
 refine cN 25 [.tmp 4] τok func164 ?_;refine aj τok ?_;refine aB τok (σ:=Tr) [(1,_),(2,_)] [] (λ_=>[]) (λq=>[(2,.st 0 111 ((dW q).map .p))]) (λq=>Wf q/\headT q=headT x) (λq=>(row q).length) x ⟨l,rfl⟩ ?_;rintro z ⟨k,d⟩;refine aj τok ?_;refine ae (λg=>?_) (λg=>?_)
 ·obtain⟨f,a,o,r,u,i,s,t⟩:=lN k g
  refine vt 0 (by rw[o];rfl) ?_;exact au f ⟨r,by rw[<- i];exact d⟩
 ·obtain⟨i,s⟩:=gp g
  rw[i]at d;refine ae (λe=>?_) (λe=>?_)
  ·refine af (tK m hm (tM k e).1) ?_
   refine ae (λb=>?_) (λb=>?_)
   ·have b:=(D9 j _).1 b
    exact⟨_,_,rfl,rfl,by unfold i2;rw[<- d,decide_eq_true e,decide_eq_true b];rfl⟩
   ·have b:¬ bN m z.n.a=2:=λh=>b ((D9 j _).2 h)
    exact⟨_,_,rfl,rfl,by unfold i2;rw[<- d,decide_eq_true e,decide_eq_false b];rfl⟩
  ·exact⟨_,_,rfl,rfl,by unfold i2;rw[<- d,decide_eq_false e];rfl⟩
theorem gP{x:Tr}(a:Wf x)(h:x.n.op=4 \/x.n.op=5):kidsT x=[kidD x 0,kidD x 1]/\Wf (kidD x 0)/\Wf (kidD x 1)/\(row (kidD x 0)).length<(row x).length/\(row (kidD x 1)).length<(row x).length:=by
 obtain⟨_,_,e,_⟩:=nG a.ok h;have b:(kidsT x)[0]?=some (kidD x 0):=by rw[e];rfl
 have d:(kidsT x)[1]?=some (kidD x 1):=by rw[e];rfl
 exact⟨e,a.kid b,a.kid d,ia a.ok b,ia a.ok d⟩
theorem Kt{x:Tr}(t:Wf x)(p:Nat)(L:p<=1000):VC prog 115 [bA x,pI p] (.bool (dB' p x)):=by
 refine cN 41 [.tmp 4] τok func115 ?_;refine aj τok ?_;refine aB τok (σ:=Nat×Tr) [(1,_),(2,_)] [] (λq=>[(5,vI q.1)]) (λq=>[(2,.st 0 111 ((dW q.2).map .p))]) (λq=>q.1<=p/\Wf q.2/\dB' (p-q.1) q.2=dB' p x) (λq=>p-q.1) (0,x) ⟨KV _,t,rfl⟩ ?_;rintro⟨j,z⟩ ⟨v,h,d⟩;simp only at v h d;refine aj τok ?_;refine ae (λg=>?_) (λg=>?_)
 ·simp only at g
  obtain⟨c,w⟩:∃c,p-j=c+1:=⟨p-j-1,by omega⟩
  rw[w]at d;simp only[dB']at d;refine ae (λb=>?_) (λb=>?_)
  ·obtain⟨e,r,s,C,D⟩:=gP h (.inl b)
   rw[decide_eq_true b,Bool.true_and]at d;refine vt 1 (by rw[e];rfl) ?_;refine vi ?_;exact au (j+1,kidD z 1) ⟨by simp only;omega,s,by rw[<- d,show p-(j+1)=c by omega]⟩
  ·refine vy (p:=z.n.op≠4) ?_ b
   exact⟨_,_,rfl,rfl,by rw[<- d,decide_eq_false b];rfl⟩
 ·simp only at g
  obtain rfl:j=p:=by omega
  rw[Nat.sub_self]at d;simp only[dB']at d;refine ae (λb=>?_) (λb=>?_)
  ·have b:z.n.op≠4:=b
   exact⟨_,_,rfl,rfl,by rw[<- d,decide_eq_false b];rfl⟩
  have b:z.n.op=4:=Classical.not_not.1 b;obtain⟨e,r,s,C,D⟩:=gP h (.inl b);rw[decide_eq_true b,Bool.true_and]at d;refine vt 0 (by rw[e];rfl) ?_;refine aB τok (σ:=Tr) [(1,_),(2,_)] [] (λ_=>[]) (λq=>[(2,.st 0 111 ((dW q).map .p))]) (λq=>Wf q/\headT q=headT (kidD z 0)) (λq=>(row q).length) (kidD z 0) ⟨r,rfl⟩ ?_;rintro u ⟨q1,i⟩;refine aj τok ?_;refine ae (λk=>?_) (λk=>?_)
  ·obtain⟨f,a,E,F,M,l,H,I⟩:=lN q1 k
   refine vt 0 (by rw[E];rfl) ?_;exact au f ⟨F,by rw[<- l];exact i⟩
  ·obtain⟨l,H⟩:=gp k
   rw[l]at i;rw[<- i]at d;refine ae (λo=>?_) (λo=>?_)
   ·exact⟨_,_,rfl,rfl,by rw[<- d,decide_eq_true o];rfl⟩
   ·exact⟨_,_,rfl,rfl,by rw[<- d,decide_eq_false o];rfl⟩
theorem tN{α:Type}{p q:α ->Bool}{l:List α}(h:∀y∈l,p y=q y):l.all p=l.all q:=by
 induction l with
 |nil=>rfl
 |cons y r a=>
  rw[List.all_cons,List.all_cons,h y (by simp),a λz b=>h z (by simp[b])]
theorem nR(N:Nat):∀{x:Tr},Wf x ->(row x).length<=N ->(Wf (headT x)/\(headT x).n.op≠6/\(row (headT x)).length<=(row x).length)/\∀y∈argsT x,Wf y/\(row y).length<(row x).length:=by
 induction N with
 |zero=>intro x d h;have:=aR x;omega
 |succ N o=>
  intro x d h
  by_cases e:x.n.op=6
  ·obtain⟨f,a,q,r,s,i,k,w⟩:=lN d e
   obtain⟨⟨t,u,z⟩,v⟩:=o r (by omega);have l:=ia d.ok (j:=1) (y:=a) (by rw[q];rfl);rw[i,k];refine⟨⟨t,u,by omega⟩,λy b=>?_⟩;rcases List.mem_append.1 b with b|b
   ·have:=v y b
    exact⟨this.1,by omega⟩
   ·obtain rfl:y=a:=by simpa using b
    exact⟨s,l⟩
  ·obtain⟨i,k⟩:=gp e
   rw[i,k];exact⟨⟨d,e,KJ _⟩,by simp⟩
def jv(B:aq)(pl:List Int)(rc:RcF)(x f:Tr)(m:List Int):Bool:=
 if f.n.op=1 then (if bN m f.n.a<100 then true else decide (pl.getD (bN m f.n.a-100).toNat 0<(argsT x).length) && i2 (eQ x (pl.getD (bN m f.n.a-100).toNat 0)) m)
 else if f.n.op=11 then ky B rc f m
 else if f.n.op=4 \/f.n.op=5 then rc (kidD f 0) m && rc (kidD f 1) (m++[0])
 else if f.n.op=7 then (rc (kidD f 0) m && rc (kidD f 1) m) && rc (kidD f 2) (m++[0])
 else if f.n.op=12 then kz rc m (m++List.replicate f.n.b.toNat 0) (kidsT f)
 else true
theorem yG(B:aq)(pl:List Int)(g:Nat)(x:Tr)(m:List Int):eo B pl (g+1) x m=((argsT x).all (λy=>eo B pl g y m) && jv B pl (eo B pl g) x (headT x) m):=rfl
section
variable{B:aq}{pl:List Int}{rc rc':RcF}{R:Nat}
theorem Ec(h:∀y m,Wf y ->(row y).length<R ->rc y m=rc' y m):∀(n:Nat) (t:Tr) (m:List Int),Wf t ->(row t).length<R ->fP rc n t m=fP rc' n t m
 |0,t,m,b,hl=>h t m b hl
 |n+1,t,m,b,hl=>by
  simp only[fP]
  by_cases a:t.n.op=5
  ·obtain⟨_,w0,d,e,f⟩:=gP b (.inr a)
   rw[if_pos a,if_pos a,h _ _ w0 (by omega),Ec h n _ _ d (by omega)]
  ·rw[if_neg a,if_neg a,h _ _ b hl]
theorem Ed(h:∀y m,Wf y ->(row y).length<R ->rc y m=rc' y m)(a:Int)(d:Bool)(m:List Int):∀(l:List Tr) (k:Nat),(∀y∈l,Wf y/\(row y).length<R) ->lE B rc a d m k l=lE B rc' a d m k l
 |[],k,_=>rfl
 |t::r,k,hl=>by
  simp only[lE];rw[Ec h _ t m (hl t (by simp)).1 (hl t (by simp)).2,Ed h a d m r (k+1) λy b=>hl y (by simp[b])]
theorem Ee(h:∀y m,Wf y ->(row y).length<R ->rc y m=rc' y m)(m m':List Int):∀(l:List Tr),(∀y∈l,Wf y/\(row y).length<R) ->kz rc m m' l=kz rc' m m' l
 |[],_=>rfl
 |[_],_=>rfl
 |t::b::r,hl=>by
  simp only[kz];rw[h t m (hl t (by simp)).1 (hl t (by simp)).2,h b m' (hl b (by simp)).1 (hl b (by simp)).2,Ee h m m' r λy a=>hl y (by simp[a])]
theorem Ku(h:∀y m,Wf y ->(row y).length<R ->rc y m=rc' y m){f:Tr}(a:Wf f)(b:f.n.op=11)(hl:(row f).length<=R)(m:List Int):ky B rc f m=ky B rc' f m:=by
 have d:=gf a.ok b;have e:2<=(kidsT f).length:=by rw[d.1];omega
 obtain⟨_,i,o⟩:=cq a (k:=0);obtain⟨_,j,q⟩:=cq a (k:=1);unfold ky;rw[h _ _ i (by omega),h _ _ j (by omega),Ed h _ _ _ _ _ λy l=>by
  have:=s9 a y (List.mem_of_mem_drop l);exact⟨this.1,by omega⟩]
theorem Ef(h:∀y m,Wf y ->(row y).length<R ->rc y m=rc' y m)(x:Tr){f:Tr}(i:Wf f)(hl:(row f).length<=R)(m:List Int):jv B pl rc x f m=jv B pl rc' x f m:=by
 unfold jv
 by_cases l:f.n.op=1
 ·rw[if_pos l,if_pos l]
 rw[if_neg l,if_neg l]
 by_cases a:f.n.op=11
 ·rw[if_pos a,if_pos a,Ku h i a hl]
 rw[if_neg a,if_neg a]
 by_cases b:f.n.op=4 \/f.n.op=5
 ·obtain⟨_,o,q,r,s⟩:=gP i b
  rw[if_pos b,if_pos b,h _ _ o (by omega),h _ _ q (by omega)]
 rw[if_neg b,if_neg b]
 by_cases j:f.n.op=7
 ·obtain⟨e,_⟩:=oN i.ok j
  have t:(kidsT f).length=3:=by rw[e];rfl
  obtain⟨_,o,r⟩:=cq i (k:=0);obtain⟨_,q,s⟩:=cq i (k:=1);obtain⟨_,u,w⟩:=cq i (k:=2);rw[if_pos j,if_pos j,h _ _ o (by omega),h _ _ q (by omega),h _ _ u (by omega)]
 rw[if_neg j,if_neg j]
 by_cases d:f.n.op=12
 ·rw[if_pos d,if_pos d,Ee h _ _ _ λy v=>by
   have:=s9 i y v;exact⟨this.1,by omega⟩]
 rw[if_neg d,if_neg d]
end
theorem yH(B:aq)(pl:List Int):∀(g a:Nat) (x:Tr) (m:List Int),Wf x ->(row x).length<=g ->(row x).length<=a ->eo B pl g x m=eo B pl a x m:=by
 intro g
 induction g with
 |zero=>intro a x m _ h;have:=aR x;omega
 |succ g e=>
  intro a x m f h k;cases a with
  |zero=>have:=aR x;omega
  |succ a=>
   obtain⟨⟨i,l,j⟩,d⟩:=nR _ f (KJ _);rw[yG,yG,tN λy b=>e a y m (d y b).1 (by have:=(d y b).2;omega) (by have:=(d y b).2;omega),Ef (R:=(row x).length) (λy m b o=>e a y m b (by omega) (by omega)) x i j]
def dC(B:aq)(pl:List Int)(x:Tr)(m:List Int):Bool:=eo B pl (row x).length x m
theorem qY(B:aq)(pl:List Int){x:Tr}(d:Wf x)(m:List Int):dC B pl x m=((argsT x).all (λy=>dC B pl y m) && jv B pl (dC B pl) x (headT x) m):=by
 obtain⟨⟨e,i,f⟩,b⟩:=nR _ d (KJ _);obtain⟨g,h⟩:∃g,(row x).length=g+1:=⟨(row x).length-1,by have:=aR x;omega⟩
 unfold dC;rw[h,yG,tN (q:=λy=>eo B pl (row y).length y m) λy a=>yH B pl _ _ y m (b y a).1 (by have:=(b y a).2;omega) (KJ _),Ef (R:=(row x).length) (λy m a j=>yH B pl _ (row y).length y m a (by omega) (KJ _)) x e f]
def lR(rc:RcF)(n:Nd)(m:List Int):Nat ->List Tr ->Bool
 |_,[]=>true
 |i,t::r=>rc t (m++List.replicate (kb n i).toNat 0) && lR rc n m (i+1) r
theorem Eg(rc:RcF){n:Nd}(a:n.op=12)(m:List Int):∀(l:List Tr) (i:Nat),i%2=0 ->l.length%2=0 ->kz rc m (m++List.replicate n.b.toNat 0) l=lR rc n m i l
 |[],_,_,_=>rfl
 |[_],_,_,h=>by simp at h
 |t::b::r,i,h,hl=>by
  have d:kb n i=0:=by unfold kb;rw[if_pos a,if_neg (by omega)]
  have e:kb n (i+1)=n.b:=by unfold kb;rw[if_pos a,if_pos (by omega)]
  simp only[kz,lR];rw[Eg rc a m r (i+1+1) (by omega) (by simp only[JV]at hl;omega),d,e];simp[Bool.and_assoc]
def kO(x:Tr)(m:List Int):Bool:=decide ((headT x).n.op=1) && decide (100<=bN m (headT x).n.a)
section
variable{B:aq}{pl:List Int}{x:Tr}{m:List Int}
theorem Kv(b:Wf x)(h:kO x m=true):dC B pl x m=((decide (pl.getD (bN m (headT x).n.a-100).toNat 0<(argsT x).length) && i2 (eQ x (pl.getD (bN m (headT x).n.a-100).toNat 0)) m) && (argsT x).all (λy=>dC B pl y m)):=by
 unfold kO at h;simp only[Bool.and_eq_true,decide_eq_true_eq]at h;rw[qY B pl b];unfold jv;rw[if_pos h.1,if_neg (by omega),Bool.and_comm]
theorem Kw(a:Wf x)(h:x.n.op=11):dC B pl x m=ky B (dC B pl) x m:=by
 obtain⟨b,d⟩:=gp (x:=x) (by omega);rw[qY B pl a,b,d];unfold jv;rw[if_neg (by omega),if_pos h]
 rfl
theorem Kx(j:Wf x)(h:kO x m=false)(l:x.n.op≠11):dC B pl x m=lR (dC B pl) x.n m 0 (kidsT x):=by
 by_cases o:x.n.op=6
 ·obtain⟨f,a,w,z,E,s,v,F⟩:=lN j o
  have t:kb x.n 0=0:=by simp[kb,aX,o]
  have u:kb x.n 1=0:=by simp[kb,aX,o]
  rw[w];simp only[lR];rw[t,u,qY B pl j,qY B pl z,v,s,List.all_append];have C:jv B pl (dC B pl) x (headT f) m=jv B pl (dC B pl) f (headT f) m:=by
   unfold jv
   by_cases d:(headT f).n.op=1
   ·have:bN m (headT f).n.a<100:=by
     unfold kO at h;rw[s,decide_eq_true d,Bool.true_and,decide_eq_false_iff_not]at h;omega
    rw[if_pos d,if_pos d,if_pos this,if_pos this]
   ·rw[if_neg d,if_neg d]
  rw[C];simp
  generalize (argsT f).all _=p
  generalize jv _ _ _ _ _ _=q
  generalize dC B pl a m=r
  cases p<;>cases q<;>cases r<;>rfl
 obtain⟨s,v⟩:=gp o;rw[qY B pl j,s,v];unfold jv;rw[List.all_nil,Bool.true_and]
 by_cases d:x.n.op=1
 ·have:bN m x.n.a<100:=by
   unfold kO at h;rw[s,decide_eq_true d,Bool.true_and,decide_eq_false_iff_not]at h;omega
  rw[if_pos d,if_pos this,(tM j d).2]
  rfl
 rw[if_neg d,if_neg l]
 by_cases i:x.n.op=4 \/x.n.op=5
 ·obtain⟨e,_⟩:=gP j i
  have t:kb x.n 0=0:=by unfold kb;rw[if_neg (by omega)];simp[aX]
  have u:kb x.n 1=1:=by unfold kb;rw[if_neg (by omega)];simp[aX];omega
  rw[if_pos i,e];simp only[lR];rw[t,u];simp
 rw[if_neg i]
 by_cases k:x.n.op=7
 ·obtain⟨e,_⟩:=oN j.ok k
  have t:kb x.n 0=0:=by simp[kb,aX,k]
  have u:kb x.n 1=0:=by simp[kb,aX,k]
  have D:kb x.n 2=1:=by simp[kb,aX,k]
  rw[if_pos k,e];simp only[lR];rw[t,u,D];simp[Bool.and_assoc]
 rw[if_neg k]
 by_cases b:x.n.op=12
 ·rw[if_pos b]
  exact Eg _ b m _ 0 rfl (by have:=fK j.ok b;omega)
 rw[if_neg b];have w:=(oW j.ok).1;have:kidsT x=[]:=by
  refine List.length_eq_zero_iff.1 ?_;have H:bv x.n=0:=by simp[bv,i,o,k,l,b]
  omega
 rw[this]
 rfl
end
end Go.Proofs.YtjnjbghlemiklaaGreat
namespace Go.Wx
section
variable{P:Program}{τ:Tau}{n:Nat}{A:AS}{K:Exit ->AS ->Prop}{c:Operand}{x y:Code}
theorem yI(i:VCode P n x A K)(h:rd A c (λa=>a= .c (.p (.bool true))):=by rfl):VCode P n (.cond c x y) A K:=by
 refine VCode.mk λj X k s w d=>?_;obtain⟨a,l,o,q⟩:=bI h;subst q;have e:=i.run j X k s w d;obtain⟨C,ρ,b⟩:=d;obtain⟨_,v,r,hr⟩:=b.op (Agr.rfl' A [c]) (by simp) l o;have hr:RV C (.bool true) v:=hr;cases hr;unfold EvCode at e ⊢;exact λa f=>wp_cond_true (f.eval r) (e a f)
theorem yJ(i:VCode P n y A K)(h:rd A c (λa=>a= .c (.p (.bool false))):=by rfl):VCode P n (.cond c x y) A K:=by
 refine VCode.mk λj X k s w d=>?_;obtain⟨a,l,o,q⟩:=bI h;subst q;have e:=i.run j X k s w d;obtain⟨C,ρ,b⟩:=d;obtain⟨_,v,r,hr⟩:=b.op (Agr.rfl' A [c]) (by simp) l o;have hr:RV C (.bool false) v:=hr;cases hr;unfold EvCode at e ⊢;exact λa f=>wp_cond_false (f.eval r) (e a f)
end
end Go.Wx
namespace Go.Proofs.YtjnjbghlemiklaaGreat
open Go.Wx Cd Tm Lv
theorem qZ(l:List Tr):∀x∈l,(trP x).length=6/\∀q∈trP x,q.one=true:=λx _=>by
 rw[jR];refine⟨rfl,λq a=>?_⟩;simp only[eS,JJ,JZ,or_false]at a;rcases a with rfl|rfl|rfl|rfl|rfl|rfl<;>rfl
theorem yK{l:List Tr}{i:Nat}{k:List PV ->Prop}{y:Tr}(a:l[i]?=some y)(b:k (dW y)):oj (l.map trP) i k:=pG (dW y) (by rw[JX,a];exact congrArg some (jR y)) b
def Eh(B:aq)(pl:List Int)(R:Nat):Prop:=∀(y:Tr) (N:Int) (m:List Int),Ft (QB B) N y ->(row y).length<R ->Mk pl m ->m.length+4*(row y).length<=100000 ->VC prog 116 [aY B,bA y,lQ m,.sl (pl.map iP)] (.bool (dC B pl y m))
theorem Ei{α:Type}{p:α ->Bool}{l:List α}{i:Nat}{y:α}(h:l[i]?=some y):(l.drop i).all p=(p y && (l.drop (i+1)).all p):=by
 have a:=aH h;rw[List.drop_eq_getElem_cons a,List.all_cons];rw[List.getElem?_eq_getElem a]at h;rw[JB h]
theorem Ky{s:Tr}(i:Wf s)(m:List Int):nK s m=(i2 s m||(decide (s.n.op=1) && decide (bN m s.n.a=1))):=by
 unfold nK i2
 by_cases e:s.n.op=6
 ·obtain⟨f,a,j,k,l,h,d,o⟩:=lN i e
  rw[decide_eq_false (show ¬ s.n.op=1 by omega),decide_eq_false (show ¬ (argsT s).length=0 by rw[d];simp)]
  by_cases b:(headT s).n.op=1
  ·simp[b]
  ·simp[b]
 ·obtain⟨h,d⟩:=gp e
  rw[h,d]
  by_cases b:s.n.op=1
  ·simp[b]
  ·simp[b]
section
variable{B:aq}{pl:List Int}(hB:GoodB B)(hpl:∀p∈pl,0<=p/\p<=15)
include hB hpl
theorem Kz{x:Tr}{N:Int}(F:Ft (QB B) N x)(I:Eh B pl (row x).length){m:List Int}(E:Mk pl m)(b5:m.length+4*(row x).length<=100000):VC prog 116 [aY B,bA x,lQ m,.sl (pl.map iP)] (.bool (dC B pl x m)):=by
 have v:=az F;have b4:=F.len;have b6:=aR x;refine cN 218 [.tmp 8] τok func116 ?_;refine aC τok ?_;refine aC τok ?_;refine aC τok ?_;refine dD 10 1000 111 6 rfl rfl ?_;refine dJ τok (σ:=Unit) [(2,_),(3,_),(4,_),(5,_)] [(4,_),(5,_)] (λ_=>[(9,.c (.ptr 9 0)),(10,.c (.row 1000))]) (λ_=>[(9,.st 0 111 ((dW (headT x)).map .p)),(1000,.rw 111 6 ((argsT x).map trP))]) (λ_=>True) ?_ ?_
 ·refine aB τok (σ:=Tr×List Tr) [(2,_),(3,_),(4,_),(5,_),(9,_)] [(4,_),(5,_)] (λq=>[(10,.c (.row 1000))]) (λq=>[(9,.st 0 111 ((dW q.1).map .p)),(1000,.rw 111 6 (q.2.map trP))]) (λq=>Wf q.1/\headT q.1=headT x/\argsT q.1++q.2=argsT x) (λq=>(row q.1).length) (x,[]) ⟨v,rfl,by simp⟩ ?_
  rintro⟨z,ar⟩ ⟨g1,L,H⟩;simp only at g1 L H;have b7:=mQ v 4096 v.len;have hl:=congrArg List.length H;rw[JK]at hl;refine aj τok ?_;refine ae (λg=>?_) (λg=>?_)
  ·obtain⟨f,a,V,hf,ha,e1,e2,b8⟩:=lN g1 g
   refine vt 1 (by rw[V];rfl) ?_;refine va ?_ (qZ _);refine vt 0 (by rw[V];rfl) ?_;exact au (f,a::ar) ⟨hf,by rw[<- e1];exact L,by rw[<- H,e2];simp⟩ (sw 1000 32) (y':=⟨rfl,congrArg (λl=>some (SE.rw _ _ l)) (by rw[List.map_cons,jR a];rfl),trivial⟩)
  ·obtain⟨e1,e2⟩:=gp g
   rw[e1]at L;rw[e2,List.nil_append]at H;subst L H;exact au () trivial
 rintro _ _;obtain⟨⟨h1,h2,h3⟩,h4⟩:=nR _ v (KJ _);refine dJ τok (σ:=Unit) [(2,_),(3,_),(4,_),(5,_)] [(4,_),(5,_)] (λ_=>[]) (λ_=>[]) (λ_=>kO x m=false) ?_ ?_
 ·have a3:=mQ v 4096 v.len
  have eA:=ak trP (argsT x);refine ae (λg=>?_) (λg=>?_)
  ·have X:=tM h1 g
   refine af (tK m (by omega) X.1) ?_;obtain⟨c1,c2⟩:=Ks E (headT x).n.a;refine ae (λL=>?_) (λL=>?_)
   ·have H:=c1.1 L
    obtain⟨c3,j,hj,c4⟩:=c2 H;obtain⟨p,hp,_⟩:=ay (l:=pl) (k:=j) hj;have b9:=hpl p (JQ hp);have M:kO x m=true:=by unfold kO;rw[decide_eq_true g,decide_eq_true H];rfl
    have r:=Kv (B:=B) (pl:=pl) v M;have a4:pl.getD (bN m (headT x).n.a-100).toNat 0=p:=by
     rw[show (bN m (headT x).n.a-100).toNat=j by omega,List.getD_eq_getElem?_getD,hp]
     rfl
    rw[a4]at r;refine af (tK m (by omega) X.1) ?_;refine vm (p:=iP) j hp ?_ (by omega);refine ae (λg5=>?_) (λg5=>?_)
    ·exact⟨_,_,rfl,rfl,by rw[r,decide_eq_false (show ¬ p<((argsT x).length:Int) by omega)];rfl⟩
    rw[decide_eq_true (show p<((argsT x).length:Int) by omega),Bool.true_and]at r;obtain⟨y,hy,_⟩:=ay (l:=argsT x) (k:=p.toNat);have eD:eQ x p=y:=by unfold eQ;rw[List.getD_eq_getElem?_getD,hy];rfl
    rw[eD]at r;refine vt p.toNat hy ?_;refine yK hy ?_;refine bB (Eb (h4 y (JQ hy)).1 E (by omega)) (λO=>?_) (λO=>?_)
    ·rw[O,Bool.true_and]at r
     refine aB τok (σ:=Nat) [(2,_),(3,_),(4,_),(10,_)] [(4,_),(1000,_)] (λi=>[(12,vI i)]) (λ_=>[]) (λi=>i<=(argsT x).length/\dC B pl x m=((argsT x).drop i).all (λy=>dC B pl y m)) (λi=>(argsT x).length-i) 0 ⟨KV _,r⟩ ?_;rintro i ⟨S,d⟩;refine aj τok ?_;refine ae (λY=>?_) (λY=>?_)
     ·obtain⟨z,W,_⟩:=ay (l:=argsT x) (k:=i)
      rw[Ei W]at d;have T:=JQ W;refine vt i W ?_;refine yK W ?_;refine bB (I z N m (F.args z T) (h4 z T).2 E (by have:=(h4 z T).2;omega)) (λo=>?_) (λo=>?_)
      ·refine vk ?_
       refine vi ?_;exact au (i+1) ⟨by omega,by rw[d,o,Bool.true_and]⟩
      ·refine vk ?_
       exact⟨_,_,rfl,rfl,by rw[d,o];rfl⟩
     ·rw[JY (by omega)]at d
      exact⟨_,_,rfl,rfl,by rw[d];rfl⟩
    ·exact⟨_,_,rfl,rfl,by rw[r,O];rfl⟩
   ·exact au () (by unfold kO;rw[decide_eq_true g,decide_eq_false (by omega)];rfl)
  ·exact au () (by unfold kO;rw[decide_eq_false g];rfl)
 rintro _ a5;refine VCode.seq ?_;refine aC τok ?_;refine ae (λg=>?_) (λg=>?_)
 ·refine yI ?_
  have V:=gf v.ok g;have eK:=ak trP (kidsT x);have kl:((kidsT x).length:Int)=2+x.n.b:=by rw[V.1];exact V.2.1
  obtain⟨a6,w0,l0⟩:=cq v (k:=0);obtain⟨Z,w1,l1⟩:=cq v (k:=1);have f0:=F.kidD (k:=0) (by omega);have f1:=F.kidD (k:=1) (by omega);have r:=Kw (B:=B) (pl:=pl) (m:=m) v g;unfold ky at r;have hq:=F.node';have ha:bk B B.ents.length x.n.a=true:=by
   simp[QB,bV,aS,g]at hq;exact hq
  refine aC τok ?_;refine vt 0 a6 ?_;refine bB (I _ _ m f0.2 l0 E (by omega)) (λs0=>?_) (λs0=>?_)
  ·rw[s0,Bool.true_and]at r
   refine vt 1 Z ?_;refine bB (I _ _ m f1.2 l1 E (by omega)) (λO=>?_) (λO=>?_)
   ·rw[O,Bool.true_and]at r
    refine vk ?_;refine aC τok ?_;refine vt 1 Z ?_;refine dJ τok (σ:=Bool) [(2,_),(3,_),(4,_),(5,_),(13,_)] [(4,_),(5,_),(13,_)] (λb=>[(14,vP (.bool b))]) (λ_=>[]) (λb=>b=nK (kidD x 1) m) ?_ ?_
    ·have ed:nK (kidD x 1) m=(i2 (kidD x 1) m||(decide ((kidD x 1).n.op=1) && decide (bN m (kidD x 1).n.a=1))):=Ky w1 m
     refine bB (Eb w1 E (by omega)) (λo=>?_) (λo=>?_)
     ·exact au true (by rw[ed,o];rfl)
     ·refine ae (λS=>?_) (λS=>?_)
      ·refine af (tK m (by omega) (tM w1 S).1) ?_
       refine ae (λd=>?_) (λd=>?_)
       ·have d:=(Ea E _).1 d
        exact au true (by rw[ed,decide_eq_true S,decide_eq_true d];simp)
       ·have d:¬ bN m (kidD x 1).n.a=1:=λh=>d ((Ea E _).2 h)
        exact au false (by rw[ed,o,decide_eq_false d];simp)
      ·exact au false (by rw[ed,o,decide_eq_false S];rfl)
    rintro C a7;rw[<- a7]at r;obtain⟨a,ea⟩:∃a,x.n.a=a:=⟨_,rfl⟩
    rw[ea]at ha r;obtain⟨ei,en,s',ps,qi,rfl,_,a8,a9,hF⟩:=hB.fam ha (KJ _);have eC:=ak bD en.ctors;refine aC τok ?_;refine vm ei a8 ?_ (by omega);refine aC τok ?_;have a':∀k,k<(kidsT x).length-2 ->∃t,(kidsT x)[2+k]?=some t/\(kidsT x).drop (2+k)=t::(kidsT x).drop (2+(k+1)):=λk V=>ay;refine aB τok (σ:=Nat) [(2,_),(3,_),(4,_),(5,_),(14,_),(15,_)] [(4,_),(5,_)] (λk=>[(16,vI k)]) (λ_=>[]) (λk=>k<=(kidsT x).length-2/\dC B pl x m=lE B (dC B pl) (ei:Int) C m k ((kidsT x).drop (2+k))) (λk=>(kidsT x).length-2-k) 0 ⟨KV _,r⟩ ?_;rintro k ⟨S,d⟩;refine aC τok ?_;refine ae (λY=>?_) (λY=>?_)
    ·obtain⟨t,ht,hd⟩:=a' k (by omega)
     rw[hd]at d;simp only[lE]at d;obtain⟨cnt,U⟩:∃c:Nat,(if (C && decide (k<(aN B (ei:Int)).ctors.length))=true then ((aN B (ei:Int)).ctors.getD k default).args.length else 0)=c:=⟨_,rfl⟩
     rw[U]at d;rw[a9]at U;refine VCode.seq (VCode.blk ?_);refine aC τok ?_;refine dJ τok (σ:=Unit) [(2,_),(3,_),(4,_),(5,_),(14,_),(15,_),(16,_)] [(4,_),(5,_)] (λ_=>[(17,vI cnt)]) (λ_=>[]) (λ_=>cnt<=16) ?_ ?_
     ·cases C with
      |false=>exact au () (by rw[<- U];simp) (x:=⟨congrArg (λz=>some (vI z)) (by rw[<- U];rfl),trivial⟩)
      |true=>
       refine ae (λk4=>?_) (λk4=>?_)
       ·obtain⟨c,hc,_⟩:=ay (l:=en.ctors) (k:=k)
        obtain⟨ga,go,hC⟩:=hF.ct k c hc;have l4:=congrArg List.length hC.args;rw[List.length_map]at l4;have b':=hC.la;have e5:c.args.length=cnt:=by
         rw[<- U,if_pos (by simp;omega),List.getD_eq_getElem?_getD,hc]
         rfl
        refine vm k hc ?_;exact au () (by omega) (x:=⟨congrArg (λz=>some (vI z)) (by rw[List.length_map,e5]),trivial⟩)
       ·exact au () (by rw[<- U,if_neg (by simp;omega)];omega) (x:=⟨congrArg (λz=>some (vI z)) (by rw[<- U,if_neg (by simp;omega)];rfl),trivial⟩)
     rintro _ a0;obtain⟨D,wi,li⟩:=cq v (k:=2+k);have fi:=(F.kidD (k:=2+k) (by omega)).2;rw[ht]at D;obtain rfl:=JB D;refine aj τok ?_;refine vi ?_;refine vt (2+k) ht ?_;refine aB τok (σ:=Nat×Tr×List Int×Int) [(2,_),(3,_),(4,_),(5,_),(14,_),(15,_),(16,_),(18,_)] [(4,_),(5,_)] (λq=>[(17,vI q.1),(19,vP (lQ q.2.2.1))]) (λq=>[(18,.st 0 111 ((dW q.2.1).map .p))]) (λq=>q.1<=16/\Ft (QB B) q.2.2.2 q.2.1/\(row q.2.1).length<(row x).length/\Mk pl q.2.2.1/\q.2.2.1.length+4*(row q.2.1).length<=100000/\fP (dC B pl) q.1 q.2.1 q.2.2.1=fP (dC B pl) cnt (kidD x (2+k)) m) (λq=>(row q.2.1).length) (cnt,kidD x (2+k),m,N+kb x.n (2+k)) ⟨a0,fi,li,E,by simp only;omega,rfl⟩ ?_;rintro⟨c,u,mm,NN⟩ ⟨r1,r2,r3,r4,r5,w⟩;simp only at r1 r2 r3 r4 r5 w;have c0:=aR u;have wu:=az r2;refine aj τok ?_;refine ae (λk4=>?_) (λk4=>?_)
     ·simp only at k4
      obtain⟨c',rfl⟩:∃c',c=c'+1:=⟨c-1,by omega⟩
      simp only[fP]at w;refine ae (λk5=>?_) (λk5=>?_)
      ·obtain⟨e,v0,v1,l0,l1⟩:=gP wu (.inr k5)
       have g0:=(r2.kidD (k:=0) (by rw[e];simp)).2;have g1:=(r2.kidD (k:=1) (by rw[e];simp)).2;rw[if_pos k5]at w;refine vt 0 (by rw[e];rfl) ?_;refine bB (I _ _ mm g0 (by omega) r4 (by omega)) (λo=>?_) (λo=>?_)
       ·rw[o,Bool.true_and]at w
        refine vk ?_;refine af (tL mm (by omega) 1 (by omega) 2) ?_;refine vt 1 (by rw[e];rfl) ?_;refine vi ?_;exact au (c',kidD u 1,mm++[2],_) ⟨by omega,g1,by simp only;omega,r4.snoc (by omega),by simp;omega,w⟩ (x:=⟨congrArg (λz=>some (vI z)) (by simp only;omega),rfl,trivial⟩)
       ·refine vk ?_
        exact⟨_,_,rfl,rfl,by rw[d,<- w,o];rfl⟩
      ·rw[if_neg k5]at w
       refine bB (I _ _ mm r2 r3 r4 r5) (λo=>?_) (λo=>?_)
       ·refine aj τok ?_
        refine vi ?_;exact au (k+1) ⟨by omega,by rw[d,<- w,o,Bool.true_and]⟩
       ·exact⟨_,_,rfl,rfl,by rw[d,<- w,o];rfl⟩
     ·simp only at k4
      obtain rfl:c=0:=by omega
      simp only[fP]at w;refine bB (I _ _ mm r2 r3 r4 r5) (λo=>?_) (λo=>?_)
      ·refine aj τok ?_
       refine vi ?_;exact au (k+1) ⟨by omega,by rw[d,<- w,o,Bool.true_and]⟩
      ·exact⟨_,_,rfl,rfl,by rw[d,<- w,o];rfl⟩
    ·rw[JY (by omega)]at d
     refine aj τok ?_;exact⟨_,_,rfl,rfl,by rw[d];rfl⟩
   ·refine vk ?_
    exact⟨_,_,rfl,rfl,by rw[r,O];rfl⟩
  ·refine vk ?_
   exact⟨_,_,rfl,rfl,by rw[r,s0];rfl⟩
 ·refine yJ ?_
  refine aj τok ?_;show VCode _ _ _ _ _;have r:=Kx (B:=B) (pl:=pl) v a5 g;have eK:=ak trP (kidsT x);have c5:=gB v.ok;refine aj τok ?_;refine aB τok (σ:=Nat) [(2,_),(3,_),(4,_),(5,_)] [(4,_),(5,_)] (λi=>[(20,vI i)]) (λ_=>[]) (λi=>i<=(kidsT x).length/\dC B pl x m=lR (dC B pl) x.n m i ((kidsT x).drop i)) (λi=>(kidsT x).length-i) 0 ⟨KV _,r⟩ ?_;rintro i ⟨S,d⟩;refine aj τok ?_;refine ae (λY=>?_) (λY=>?_)
  ·have hi:i<(kidsT x).length:=by omega
   obtain⟨D,wi,li⟩:=cq v hi;have fi:=(F.kidD hi).2;obtain⟨b1,b2⟩:=mP v.ok i;obtain⟨q,hq⟩:∃q:Nat,kb x.n i=(q:Int):=⟨(kb x.n i).toNat,by omega⟩
   have a1:=H0 x.n i (by omega);rw[hq]at a1;have b0:=tL m (by omega) q (by omega) 0;have W:=ay hi;obtain⟨z,a2,b3⟩:=W;rw[D]at a2;obtain rfl:=JB a2;rw[b3]at d;simp only[lR]at d;rw[hq,Int.toNat_natCast]at d;refine vt i D ?_;refine af a1 ?_;refine af b0 ?_;refine bB (I _ _ _ fi li (E.zeros q) (by simp;omega)) (λs=>?_) (λs=>?_)
   ·refine vk ?_
    refine vi ?_;exact au (i+1) ⟨by omega,by rw[d,s,Bool.true_and]⟩
   ·refine vk ?_
    exact⟨_,_,rfl,rfl,by rw[d,s];rfl⟩
  ·rw[JY (by omega)]at d
   exact⟨_,_,rfl,rfl,by rw[d];rfl⟩
theorem Dx':∀R,Eh B pl R
 |0=>λy N m _ h=>by omega
 |R+1=>λy N m e hl f b=>Kz hB hpl e (λz i m' j k d a=>Dx' R z i m' j (by omega) d a) f b
end
end Go.Proofs.YtjnjbghlemiklaaGreat
namespace Go.Wx
section
variable{P:Program}{τ:Tau}{n:Nat}{A:AS}{K:Exit ->AS ->Prop}{c:Code}
def AC.nzc:AC ->AC
 | .p x=>.p x.nz
 |c=>c
theorem KA(j:Nat){T:Nat}{f:Nat}{cs:List AC}(h:VCode P n c (A.upd [] [(j,.st f T (cs.map AC.nzc))]) K)(i:look A.m j=some (.st f T cs):=by rfl):VCode P n c A K:=by
 refine h.of λS X U s w ⟨C,ρ,k⟩=>?_;obtain⟨b,r,v,D,V,E,F⟩:=k.ent j _ i;exact⟨C,_,k.modSt (wr:=[]) (cs':=cs.map AC.nzc) (us':=r) i v ((Kp.refl [] w).weak (by simp)) D (by simpa using E) (λq c u d H=>by
  rw[JX]at d;cases e:cs[q]? with
  |none=>rw[e]at d;cases d
  |some l=>
   rw[e]at d;obtain rfl:=JB d;obtain⟨I,o⟩:=F q l u e H;refine⟨I,λL=>?_⟩;cases l with
   |p x=>exact RV.nz (o λz M=>by cases M)
   |_=>exact o L) (s':=s) (λt a O=>by cases O) (λ_ _=>rfl)⟩
end
end Go.Wx
namespace Go.Proofs.YtjnjbghlemiklaaGreat
open Go.Wx Cd Tm Lv
theorem Ej{rc rc':RcF}(h:∀y m,Wf y ->rc y m=rc' y m):∀(n:Nat) (t:Tr) (m:List Int),Wf t ->gI rc n t m=gI rc' n t m
 |0,t,m,a=>h t m a
 |n+1,t,m,a=>by
  simp only[gI]
  by_cases b:t.n.op=5
  ·obtain⟨_,w0,d,e,f⟩:=gP a (.inr b)
   rw[h _ _ w0,Ej h n _ _ d]
  ·rw[decide_eq_false b]
   rfl
def jb(i:Nat):List Int:=(List.range i).map λk:Nat=>100+(k:Int)
theorem KB(n:Nat):gh n n=jb n:=by
 unfold gh jb;refine List.map_congr_left λi a=>?_;rw[if_pos (List.mem_range.1 a)]
theorem KC{pl:List Int}{n:Nat}(h:pl.length=n):Mk pl (jb n):=λv a=>by
 obtain⟨k,b,rfl⟩:=List.mem_map.1 a;exact .inr (.inr (.inr ⟨k,by have:=List.mem_range.1 b;omega,rfl⟩))
theorem yL(i:Nat):rM (jb (i+1))=(i:Int)::rM (jb i):=by
 unfold jb;rw[List.range_succ,List.map_append];show rM (_++[100+(i:Int)])=_;rw[Ko];unfold iq;rw[if_neg (by omega),if_neg (by omega),if_neg (by omega)];rw[show 100+(i:Int)-100=i by omega]
theorem Ek(B:aq)(x:Tr):∀(n i:Nat),decide (kB B x n i=0)=(List.range n).all λk=>nL B x (i+k)
 |0,i=>rfl
 |n+1,i=>by
  rw[List.range_succ_eq_map,List.all_cons,List.all_map,Nat.add_zero];cases a:nL B x i with
  |false=>
   have e:kB B x (n+1) i=18:=if_neg (by rw[a];decide);rw[e]
   rfl
  |true=>
   have e:kB B x (n+1) i=kB B x n (i+1):=if_pos a;rw[e,Ek B x n (i+1),Bool.true_and];exact tN λk _=>by simp[Function.comp,Nat.add_comm,Nat.add_left_comm,Nat.add_assoc]
def ra(B:aq)(x:Tr)(i:Nat):Bool:=dB' ((placesM x).getD i 0).toNat (kidD x (2*i)) && gI (dC B (placesM x)) (((placesM x).getD i 0).toNat+1) (kidD x (2*i+1)) (jb x.n.b.toNat)
theorem KE(B:aq){x:Tr}{i:Nat}(h:Wf (kidD x (2*i+1))):nL B x i=ra B x i:=by
 unfold nL ra;rw[KB,Ej (λy m a=>yH B (placesM x) 4096 (row y).length y m a a.len (KJ _)) _ _ _ h]
 rfl
def lS(B:aq)(x:Tr)(i:Nat):Bool:=((List.range x.n.b.toNat).drop i).all (ra B x)
theorem KF(B:aq){x:Tr}{i:Nat}(h:i<x.n.b.toNat):lS B x i=(ra B x i && lS B x (i+1)):=by
 unfold lS;exact Ei (List.getElem?_range h)
theorem KG(B:aq){x:Tr}(b:Wf x)(a:x.n.op=12):decide (fF B x=0)=lS B x 0:=by
 unfold fF lS;rw[Ek,List.drop_zero];refine tN λk d=>?_;have d:=List.mem_range.1 d;have e:=fK b.ok a;rw[KW,KE B (cq b).2.1]
section
variable{B:aq}(hB:GoodB B)
include hB
theorem KH{x:Tr}{N:Int}(E:Ft (QB B) N x)(b:x.n.op=12):VC prog 65 [aY B,bA x] (.bool (decide (fF B x=0))):=by
 have r:=az E;have V:=E.len;rw[KG B r b]
 generalize F:lS B x 0=Z
 have hf:=fK r.ok b;have H:=gB r.ok;have I:funsT x=x.ks.map (·.n):=by unfold funsT;rw[if_pos b]
 have a0:(x.ks.length:Int)=x.n.b:=(dM r.ok b).1;have a3:(placesM x).length=x.ks.length:=by simp[placesM]
 have hpl:∀p∈placesM x,0<=p/\p<=15:=λp s=>by
  obtain⟨k,D⟩:=JH s;have H:=aH D;obtain⟨f,L,_,_,_,_,_,a1,a2,_⟩:=tj r.ok b (i:=k) (by omega);unfold placesM at D;rw[JX,L]at D;obtain rfl:=JB D;exact⟨a1,a2⟩
 refine cN 102 [.tmp 4] τok func65 ?_;refine aj τok ?_;refine dD 5 1000 3 1 rfl rfl ?_;refine dD 6 1001 3 1 rfl rfl ?_;refine aB τok (σ:=Nat) [(2,_),(3,_)] [(2,_),(3,_)] (λi=>[(5,.c (.row 1000)),(6,.c (.row 1001)),(7,vI i)]) (λi=>[(1000,.rw 3 1 (((placesM x).take i).map iP)),(1001,.rw 3 1 ((rM (jb i)).map iP))]) (λi=>i<=x.ks.length) (λi=>x.ks.length-i) 0 (KV _) ?_;rintro i W;have e1:=ak iP ((placesM x).take i);have e2:=ak iP (rM (jb i));have e3:(rM (jb i)).length=i:=by rw[tJ];simp[jb]
 have e4:((placesM x).take i).length=i:=by rw[List.length_take];omega
 refine aj τok ?_;refine ae (λg=>?_) (λg=>?_)
 ·obtain⟨f,w,_⟩:=ay (l:=x.ks) (k:=i)
  refine vm i (x:=f.n) (by rw[I,JX,w];rfl) ?_;refine bi ?_;refine va (p:=iP) ?_ (D8 _);refine vi ?_;exact au (i+1) (by show i+1<=_;omega) (λk=>sw 1000 28 (sw 1001 32 k)) (y':=⟨congrArg (λl=>some (SE.rw _ _ l)) (by
   rw[List.take_add_one,List.map_append];unfold placesM;rw[JX,w]
   rfl),congrArg (λl=>some (SE.rw _ _ l)) (by rw[yL];rfl),trivial⟩)
 obtain rfl:i=x.ks.length:=by omega
 have et:(placesM x).take x.ks.length=placesM x:=JG (by omega);rw[et]at e1 e4 ⊢;have hn:x.n.b.toNat=x.ks.length:=by omega
 have d:=Dx' (B:=B) (pl:=placesM x) hB hpl;refine mi 5 1000 ?_;refine mi 6 1001 ?_;refine aB τok (σ:=Nat) [(2,_),(3,_),(5,_),(6,_)] [(2,_),(3,_)] (λi=>[(8,vI i)]) (λ_=>[]) (λi=>i<=x.ks.length/\Z=lS B x i) (λi=>x.ks.length-i) 0 ⟨KV _,F.symm⟩ ?_
 clear g W
 rintro i ⟨W,h⟩;refine aj τok ?_;refine ae (λg=>?_) (λg=>?_)
 ·rw[KF B (by omega)]at h
  obtain⟨p,s,_⟩:=ay (l:=placesM x) (k:=i);have a4:=hpl p (JQ s);obtain⟨q,rfl⟩:∃q:Nat,p=(q:Int):=⟨p.toNat,by omega⟩
  have M:((placesM x).getD i 0).toNat=q:=by rw[List.getD_eq_getElem?_getD,s];rfl
  unfold ra at h;rw[M,hn]at h;obtain⟨h0,w0,l0⟩:=cq r (k:=2*i);obtain⟨h1,w1,l1⟩:=cq r (k:=2*i+1);have f1:=(E.kidD (k:=2*i+1) (by omega)).2;refine vi ?_;refine vt (2*i) h0 ?_;refine vm (p:=iP) i s ?_;refine bB (Kt w0 q (by omega)) (λO=>?_) (λO=>?_)
  ·rw[O,Bool.true_and]at h
   generalize S:gI (dC B (placesM x)) (q+1) (kidD x (2*i+1)) (jb x.ks.length)=BD at h
   refine vk ?_;refine vi ?_;refine vi ?_;refine vt (2*i+1) h1 ?_;refine aB τok (σ:=Nat×Tr×List Int×Int) [(2,_),(3,_),(5,_),(6,_),(8,_),(9,_)] [(2,_),(3,_)] (λz=>[(10,vP (lQ z.2.2.1)),(11,vI z.1)]) (λz=>[(9,.st 0 111 ((dW z.2.1).map .p))]) (λz=>z.1<=q+1/\Ft (QB B) z.2.2.2 z.2.1/\Mk (placesM x) z.2.2.1/\z.2.2.1.length+4*(row z.2.1).length<=100000/\gI (dC B (placesM x)) (q+1-z.1) z.2.1 z.2.2.1=BD) (λz=>(row z.2.1).length) (0,kidD x (2*i+1),jb x.ks.length,N+kb x.n (2*i+1)) ⟨KV _,f1,KC (by omega),by rw[tJ]at e3;simp only;omega,S⟩ ?_;rintro⟨j,u,v,NN⟩ ⟨r1,r2,C,X,a⟩;simp only at r1 r2 C X a;have wu:=az r2;refine aj τok ?_;refine vm (p:=iP) i s ?_;refine ae (λT=>?_) (λT=>?_)
   ·simp only at T
    obtain⟨c,hc⟩:∃c,q+1-j=c+1:=⟨q-j,by omega⟩
    rw[hc]at a;simp only[gI]at a;refine ae (λo=>?_) (λo=>?_)
    ·refine vk ?_
     have o:¬ u.n.op=5:=o;exact⟨_,_,rfl,rfl,by rw[h,<- a,decide_eq_false o];rfl⟩
    have o:u.n.op=5:=Classical.not_not.1 o;rw[decide_eq_true o,Bool.true_and]at a;obtain⟨e,v0,v1,l0,l1⟩:=gP wu (.inr o);have y0:=(r2.kidD (k:=0) (by rw[e];simp)).2;have Y:=(r2.kidD (k:=1) (by rw[e];simp)).2;refine vt 0 (by rw[e];rfl) ?_;refine bB (d _ _ _ v y0 (Nat.lt_succ_self _) C (by omega)) (λt=>?_) (λt=>?_)
    ·rw[t,Bool.true_and]at a
     refine vk ?_;refine vm (p:=iP) i s ?_;refine ae (λU=>?_) (λU=>?_)
     ·simp only at U
      rw[if_pos (by omega)]at a;refine af (tL v (by omega) 1 (by omega) 1) ?_;refine vt 1 (by rw[e];rfl) ?_;refine vi ?_;exact au (j+1,kidD u 1,v++[1],_) ⟨by simp only;omega,Y,C.snoc (by omega),by simp;omega,by rw[<- a,show q+1-(j+1)=c by omega]⟩
     ·simp only at U
      rw[if_neg (by omega)]at a;refine af (tL v (by omega) 1 (by omega) 0) ?_;refine vt 1 (by rw[e];rfl) ?_;refine vi ?_;exact au (j+1,kidD u 1,v++[0],_) ⟨by simp only;omega,Y,C.snoc (by omega),by simp;omega,by rw[<- a,show q+1-(j+1)=c by omega]⟩
    ·refine vk ?_
     exact⟨_,_,rfl,rfl,by rw[h,<- a,t];rfl⟩
   ·simp only at T
    rw[show q+1-j=0 by omega]at a;simp only[gI]at a;refine bB (d _ _ _ v r2 (Nat.lt_succ_self _) C X) (λt=>?_) (λt=>?_)
    ·refine vi ?_
     exact au (i+1) ⟨by omega,by rw[h,<- a,t,Bool.true_and]⟩
    ·exact⟨_,_,rfl,rfl,by rw[h,<- a,t];rfl⟩
  ·refine vk ?_
   exact⟨_,_,rfl,rfl,by rw[h,O];rfl⟩
 ·have e0:lS B x i=true:=by
   unfold lS;rw[JY (by simp;omega)]
   rfl
  exact⟨_,_,rfl,rfl,by rw[h,e0];rfl⟩
end
section
variable{B:aq}{N:Int}
theorem yM(n:Nat):List.replicate n [PV.int .i64 0]=(gh n 0).map iP:=by
 apply List.ext_getElem
 ·simp[gh]
 ·intro i a b
  simp[gh,iP]
theorem KI(hB:GoodB B){x:Tr}(o:Ft (QB B) N x)(h:x.n.op=12):VC prog 157 [aY B,ah (row x)] (pI (fF B x)):=by
 generalize d:fF B x=e;unfold fF at d;have wx:=az o;have hl:=dM o.ok h;have Z:=o.len;obtain⟨b,v⟩:∃b:Nat,x.n.b=(b:Int):=⟨x.n.b.toNat,by omega⟩
 have s:x.n.b.toNat=b:=by omega
 rw[s]at d;have w:(placesM x).length=b:=by simp[placesM];omega
 have hpl:∀p∈placesM x,0<=p/\p<=15:=λp t=>by
  obtain⟨k,z⟩:=JH t;have a4:=aH z;obtain⟨f,I,_,_,_,_,_,a1,a2,_⟩:=tj o.ok h (i:=k) (by omega);unfold placesM at z;rw[JX,I]at z;obtain rfl:=JB z;exact⟨a1,a2⟩
 have a5:(kA x).length=b:=by simp[kA];omega
 have a6:(iF x).length=b:=by simp[iF];omega
 have C:∀j,(gh b j).length=b:=λj=>by simp[gh]
 refine cN 96 [.tmp 4] τok func157 ?_;refine aj τok ?_;refine vm (p:=ndP) 0 (aI wx) ?_;refine Ao b ?_ v v;refine lw 6 5 1000 3 1 rfl rfl rfl (by decide) ?_;refine dD 8 1002 29 1 rfl rfl ?_;refine dD 9 1003 29 1 rfl rfl ?_;refine aB τok (σ:=Nat) [(1,_),(6,_),(23,_)] [] (λi=>[(7,.c (.row 1001)),(8,.c (.row 1002)),(9,.c (.row 1003)),(10,vI ((1+(rows (x.ks.take i)).length:Nat):Int)),(24,vI i)]) (λi=>[(6,.st 0 228 [.p (.int .i64 B.vars),.p (.sl (B.orders.map eg)),.p (.sl (B.ents.map aU)),.p (.int .i64 B.nat),.p (.sl (B.prims.map iB)),.row 1000]),(1000,.rw 3 1 (((placesM x).take i).map iP)),(1001,.rw 230 1 ((gh b i).map iP)),(1002,.rw 29 1 ((((iF x).take i).map row).map rP)),(1003,.rw 29 1 ((((kA x).take i).map row).map rP))]) (λi=>i<=b) (λi=>b-i) 0 (KV _) ?_ (f:=sw 1001 22) (x1:=⟨rfl,rfl,rfl,congrArg (λn:Int=>some (vI n)) (by simp[rows]),rfl,trivial⟩) (y1:=⟨rfl,rfl,congrArg (λl=>some (SE.rw _ _ l)) (yM b),rfl,rfl,trivial⟩);rintro i hi;have L:∀k,k<=b ->((placesM x).take k).length=k:=λk z=>by rw[List.length_take];omega
 dsimp only
 refine aj τok ?_;refine ae (λD=>?_) (λD=>?_)
 ·have D:(i:Int)<x.n.b:=D
  obtain⟨f,hf,M,O,a7,S,a8,a0,a3,r1,r2,r3,r4⟩:=tj o.ok h (i:=i) (by omega);have T:=congrArg List.length r1;simp only[JK,JV,JU]at T;have U:(x.n::(rows (x.ks.take i)++[f.n])).length=1+(rows (x.ks.take i)).length+1:=by simp;omega
  have e2:(x.n::(rows (x.ks.take i)++(f.n::row (kidD x (2*i))))).length=1+(rows (x.ks.take i)).length+1+(row (kidD x (2*i))).length:=by simp;omega
  have a9:=C i;obtain⟨u,hu,_⟩:=ay (l:=gh b i) (k:=i);have tp:(placesM x).take (i+1)=(placesM x).take i++[f.n.a]:=dy (by unfold placesM;rw[JX,hf];rfl);have tt:(kA x).take (i+1)=(kA x).take i++[kidD x (2*i)]:=dy (by unfold kA;rw[JX,List.getElem?_range (by omega)];rfl);have tb:(iF x).take (i+1)=(iF x).take i++[kidD x (2*i+1)]:=dy (by unfold iF;rw[JX,List.getElem?_range (by omega)];rfl);have l1:=L i hi;refine vm (p:=ndP) (1+(rows (x.ks.take i)).length) S ?_;refine bi ?_ (hb:=by simp;omega);refine vk ?_;refine vi ?_;refine vm (p:=iP) i hu ?_;refine dN hu ?_;refine vi ?_;refine af (endP o (y:=kidD x (2*i)) r1 M (by rw[U];omega)) ?_;refine vi ?_;refine bM (1+(rows (x.ks.take i)).length+1) ((x.n::(rows (x.ks.take i)++[f.n])).length+(row (kidD x (2*i))).length) ?_ (cQ _) (h1:=by omega) (h2:=rfl) (h3:=by omega) (h4:=by rw[List.length_map];omega);rw[dp r1 U.symm rfl];refine bi ?_ (hb:=by simp;omega);refine af (endP o (y:=kidD x (2*i+1)) r2 O (by rw[U,e2])) ?_;refine bM ((x.n::(rows (x.ks.take i)++[f.n])).length+(row (kidD x (2*i))).length) ((x.n::(rows (x.ks.take i)++(f.n::row (kidD x (2*i))))).length+(row (kidD x (2*i+1))).length) ?_ (cQ _) (h1:=rfl) (h2:=rfl) (h3:=by omega) (h4:=by rw[List.length_map];omega);rw[dp r2 (by omega) rfl];refine bi ?_ (hb:=by simp;omega);refine vi ?_;exact au (i+1) (by show i+1<=b;omega) (λk=>sw 1000 35 (sw 1003 53 (sw 1002 63 k))) (x:=⟨rfl,rfl,rfl,congrArg (λn:Int=>some (vI n)) (by rw[r3];omega),rfl,trivial⟩) (y':=⟨rfl,congrArg (λl=>some (SE.rw _ _ l)) (by rw[tp,j3];rfl),congrArg (λl=>some (SE.rw _ _ l)) (by rw[<- I0 (by omega),List.map_set];rfl),congrArg (λl=>some (SE.rw _ _ l)) (by rw[tb,j3,j3];rfl),congrArg (λl=>some (SE.rw _ _ l)) (by rw[tt,j3,j3];rfl),trivial⟩)
 have D:¬ (i:Int)<x.n.b:=D;obtain rfl:i=b:=by omega
 rw[show (placesM x).take i=placesM x from JG (by omega),show (kA x).take i=kA x from JG (by omega),show (iF x).take i=iF x from JG (by omega)];have eB:=ak rP ((iF x).map row);have a':=ak row (iF x);refine mi 65 1002 ?_;refine mi 9 1003 ?_;refine mi 7 1001 ?_;refine wn 6 5 1000 ?_;refine aB τok (σ:=Nat) [(6,_),(7,_),(9,_),(65,_),(66,_)] [(6,_)] (λj=>[(67,vI j)]) (λ_=>[]) (λj=>j<=i/\kB B x (i-j) j=e) (λj=>i-j) 0 ⟨KV _,d⟩ ?_
 clear d
 rintro j ⟨hj,a⟩;refine aj τok ?_;refine ae (λE=>?_) (λE=>?_)
 ·have E:(j:Int)<((((iF x).map row).map rP).length:Int):=E
  obtain⟨_,_,f0,V⟩:=ii o h (i:=j) (by omega);obtain⟨p,t,_⟩:=ay (l:=placesM x) (k:=j);obtain⟨p0,b0⟩:=hpl p (JQ t);obtain⟨q,rfl⟩:∃q:Nat,p=(q:Int):=⟨p.toNat,by omega⟩
  have W:((iF x).map row)[j]?=some (row (kidD x (2*j+1))):=by rw[JX];unfold iF;rw[JX,List.getElem?_range (by omega)];rfl
  have X:((kA x).map row)[j]?=some (row (kidD x (2*j))):=by rw[JX];unfold kA;rw[JX,List.getElem?_range (by omega)];rfl
  have ok:nL B x j=(dB' q (kidD x (2*j)) && gI (eo B (placesM x) 4096) (q+1) (kidD x (2*j+1)) (gh i i)):=by
   unfold nL;rw[List.getD_eq_getElem?_getD,t,s]
   rfl
  obtain⟨r,hr⟩:∃r,i-j=r+1:=⟨i-j-1,by omega⟩
  rw[hr]at a;simp only[kB]at a;rw[ok]at a;have F:=Kc f0 q (by omega);have H:=Kb (Kf hB hpl (by omega) 4096) V (by omega) (I1 w) (by have:=C i;have:=V.len;omega) V.len q (by omega);refine vm (p:=rP) j W ?_;refine vm (p:=rP) j X ?_;refine vm (p:=iP) j t ?_;cases Y:dB' q (kidD x (2*j))with
  |false=>
   rw[Y]at F a;have a:18=e:=a;subst a;refine af F ?_;refine vk ?_;exact⟨_,_,rfl,rfl,rfl⟩
  |true=>
  rw[Y]at F;rw[Y,Bool.true_and]at a;refine af F ?_;refine vm (p:=iP) j t ?_;cases hd:gI (eo B (placesM x) 4096) (q+1) (kidD x (2*j+1)) (gh i i)with
  |false=>
   rw[hd]at H a;have a:18=e:=a;subst a;refine af H ?_;refine vk ?_;exact⟨_,_,rfl,rfl,rfl⟩
  |true=>
  rw[hd]at H a;have a:kB B x r (j+1)=e:=a;refine af H ?_;refine vk ?_;refine vi ?_;exact au (j+1) ⟨by omega,by rw[show i-(j+1)=r by omega];exact a⟩
 ·have E:¬ (j:Int)<((((iF x).map row).map rP).length:Int):=E
  rw[show i-j=0 by omega]at a;have a:0=e:=a;subst a;exact⟨_,_,rfl,rfl,rfl⟩
end
theorem DA':VD prog 204 .returning [0,1,2] [] []:=by
 refine xB ⟨_,func204,rfl,by decide⟩ λk f w=>?_;obtain⟨l,o,q,rfl⟩:=Cv f;refine callsD_of_wpS func204 rfl λa r b=>?_;apply wpS_seq;apply wpS_region;simp[wpOpsS,go_sem,recoverD,b,Exit.thenS,Instr.typeAssert,underlying129,Tryz.zeroValue129];refine wpS_of_wp (Go.wp_mono (lZ τok (n:=13) _ ⟨[(4,.bool false)],[]⟩ _ (λe s d=>e= .normal/\s.d=[]/\Kp [] w d) ?_ _ (nC (by simp) rfl (by simp))) ?_)
 ·exact⟨rfl,rfl,Kp.alloc _ _⟩
 rintro e t d ⟨s,h,rfl,i,j⟩;exact sQ h i rfl b ⟨⟨_,rfl⟩,rfl,j⟩
def yN(x y z:PV):List (Nat×SE):=[(0,.st 1 29 [.p x]),(1,.st 2 3 [.p y]),(2,.st 3 34 [.p z])]
theorem KL(er:Int){x y z:PV}:VD prog 204 (.panicking (dV er)) [0,1,2] (yN x y z) (yN (.raw (.slice none 0 0)) (pI 0) (pI er)):=by
 refine⟨⟨_,func204,rfl,by decide⟩,λw X C ρ d=>?_⟩;refine callsD_of_wpS func204 rfl λb o f=>?_;apply wpS_seq;apply wpS_region;simp[wpOpsS,go_sem,recoverD,f,Exit.thenS,Instr.typeAssert,underlying129,Tryz.zeroValue129];refine wpS_of_wp (Go.wp_mono (xC (n:=13) (m2:=yN (.raw (.slice none 0 0)) (pI 0) (pI er)) (q:=3) (p:=4) (k:=3) d (aj τok ?_) (nC (by simp) rfl (by simp[ini]))) ?_)
 ·refine vk ?_
  exact⟨rfl,rfl,rfl,rfl,trivial⟩
 rintro e r t ⟨rfl,s,h,i,j,a,l⟩;exact wV h i rfl ⟨⟨_,rfl⟩,rfl,j,a,l⟩
section
variable{B:aq}{cx:Ctx}(hB:GoodB B)(hcx:CxOk B cx)(hcl:cx.length<=90000)
include hB hcx hcl
theorem KM{x:Tr}(a:Ft (QB B) (cx.length:Int) x){n:Nat}(d:n<=100000):VG prog 181 [.c (.ptr 0 0),.c (.ptr 1 0)] [(0,.st 1 250 ((ig B cx n).map .p)),(1,.st 2 29 [.p (ah (row x))])] (match cd B cx GW x 4096 n with
  | .ok q=>.ok (.c (.p (ah (row q.1))),[(0,.st 1 250 ((ig B cx q.2).map .p)),(1,.st 2 29 [.p (ah (row x))])])
  | .error e=>.error (dV e)):=by
 have f:=a.len;have b:=II hB hcx hcl GW x 4096 n a (by unfold len;omega) (Int.le_refl _) (by omega) (by unfold GW;omega);refine dE 9 [.tmp 3] τok func181 ?_;refine aj τok ?_;refine af (oO a) ?_;cases hr:cd B cx GW x 4096 n with
 |error e=>
  rw[hr]at b;refine cr b ?_;exact rfl
 |ok q=>
  rw[hr]at b;refine ax b ?_;refine af (CT (oG hB hcx hcl GW x 4096 n q.1 q.2 a (by unfold len;omega) (Int.le_refl _) hr).1) ?_;exact .inl ⟨_,_,_,id,rfl,rfl,rfl,rfl,⟨rfl,rfl,trivial⟩,rfl⟩
theorem yO{x:Tr}(d:Ft (QB B) (cx.length:Int) x)(fuel:Int):VG prog 180 [.c (.p (aY B)),.c (.p (aJ (cx.map aA))),.c (.p (ah (row x))),.c (.p (pI fuel)),.c (.fn 181 [100])] [(100,.st 1 29 [.p (ah (row x))])] (.ok (match dA B cx x fuel with
  | .ok q=>(.c (.p (.tup [ah (row q.1),pI q.2,pI 0])),[(100,.st 1 29 [.p (ah (row x))])])
  | .error e=>(.c (.p (.tup [.sl [],pI 0,pI e])),[]))):=by
 have b:min (max fuel 0) 100000=((aW fuel:Nat):Int):=by unfold aW;omega
 have a:=KM hB hcx hcl d (n:=aW fuel) (by unfold aW;omega);unfold dA
 generalize cd B cx GW x 4096 (aW fuel)=r at a ⊢
 rcases r with e|q
 all_goals
  refine oJ 30 [.cell 10 29,.cell 11 3,.cell 12 34] τok func180 ?_;refine aj τok ?_;refine⟨⟨rfl,rfl,rfl⟩,rfl,λf=>?_⟩;refine aj τok ?_
  first
   |refine j8 (λk=>sw 0 21 (sw 1 100 k)) a ?_ (he:=by rw[b];repeat first|exact True.intro|refine And.intro rfl ?_)
    refine iX (λk=>k+10) (λ_=>0) (KL e) ?_;exact .inl ⟨_,_,_,id,rfl,rfl,rfl,rfl,trivial,rfl⟩
   |refine bS (λk=>sw 0 21 (sw 1 100 k)) (λk=>k-99) a ?_ (he:=by rw[b];repeat first|exact True.intro|refine And.intro rfl ?_)
    refine vk ?_;refine iX (λk=>k+10) (λ_=>0) DA' ?_;exact .inl ⟨_,_,_,id,rfl,rfl,rfl,rfl,⟨rfl,trivial⟩,rfl⟩
theorem KN{x:Tr}(b:Ft (QB B) (cx.length:Int) x)(n:Int):VC prog 147 [aY B,aJ (cx.map aA),ah (row x),pI n] (match dA B cx x n with
  | .ok q=>.tup [ah (row q.1),pI q.2,pI 0]
  | .error e=>.tup [.sl [],pI 0,pI e]):=by
 have a:=yO hB hcx hcl b n
 generalize dA B cx x n=r at a ⊢
 rcases r with e|q
 all_goals
  refine vf 20 [.tmp 8,.tmp 9,.tmp 10] τok func147 ?_;refine bS (λk=>sw 100 6 k) (λ_=>0) a ?_;exact⟨_,_,rfl,rfl,rfl⟩
end
theorem yP(l:List Atom)(hl:l.length<=1000000000)(vars:Int):VC prog 137 [bX l,pI vars] (.bool (cE l vars)):=by
 have E:=ak atP l;have i:vars<0 \/16<vars \/l.length<1 \/4<l.length ->false=cE l vars:=λh=>by unfold cE;rw[if_pos h]
 refine vf 53 [.tmp 4] τok func137 ?_;refine ae (λt=>?_) (λt=>?_)
 ·exact⟨_,_,rfl,rfl,cz (i (by omega))⟩
 refine ae (λu=>?_) (λu=>?_)
 ·exact⟨_,_,rfl,rfl,cz (i (by omega))⟩
 refine ae (λv=>?_) (λv=>?_)
 ·exact⟨_,_,rfl,rfl,cz (i (by omega))⟩
 refine ae (λw=>?_) (λw=>?_)
 ·exact⟨_,_,rfl,rfl,cz (i (by omega))⟩
 rw[show cE l vars=fc vars l (-1) by unfold cE;rw[if_neg (by omega)]];generalize d:fc vars l (-1)=e;refine aB τok (σ:=Nat×Int) [(1,_),(24,_),(25,_)] [] (λq=>[(5,vI q.2),(26,vI q.1)]) (λ_=>[]) (λq=>q.1<=l.length/\fc vars (l.drop q.1) q.2=e) (λq=>l.length-q.1) (0,-1) ⟨KV _,d⟩ ?_;rintro⟨k,b⟩ ⟨z,hr⟩;simp only at z hr;refine aj τok ?_;refine ae (λf=>?_) (λf=>?_);rotate_left
 ·have f:¬ (k:Int)<((l.map atP).length:Int):=f
  rw[JY (by omega)]at hr;exact⟨_,_,rfl,rfl,cz hr⟩
 have f:(k:Int)<((l.map atP).length:Int):=f;obtain⟨x,C,D⟩:=ay (l:=l) (k:=k);rw[D]at hr;simp only[fc]at hr;have a:x.var<=b \/vars<x.var \/x.add<0 \/1000<x.add ->false=e:=λh=>by rw[<- hr,if_pos h]
 refine vm (p:=atP) k C ?_;refine ae (λj=>?_) (λj=>?_)
 ·exact⟨_,_,rfl,rfl,cz (a (.inl j))⟩
 have j:¬ x.var<=b:=j;refine ae (λo=>?_) (λo=>?_)
 ·exact⟨_,_,rfl,rfl,cz (a (.inr (.inl o)))⟩
 refine ae (λr=>?_) (λr=>?_)
 ·exact⟨_,_,rfl,rfl,cz (a (.inr (.inr (.inl r))))⟩
 refine ae (λs=>?_) (λs=>?_)
 ·exact⟨_,_,rfl,rfl,cz (a (.inr (.inr (.inr s))))⟩
 rw[if_neg (by omega)]at hr;refine vi ?_;exact au (k+1,x.var) ⟨by show k+1<=_;omega,hr⟩
def pc(g:G)(x:Atom):List (Nat×SE):=[(0,.st 1 164 [.row 2]),(1,.st 2 48 [.p (pI x.var),.p (pI x.add)]),(2,.ob 3 (QG g))]
theorem KO(g:G)(x y:Atom)(f:0<=x.add/\x.add<=1000)(i:0<=y.add/\y.add<=1000):VG prog 257 [.c (.p (.agg (atP y))),.c (.ptr 0 0),.c (.ptr 1 0)] (pc g x) (.ok (.c (.p (.bool (dd g x y))),pc g x)):=by
 generalize a:dd g x y=e;unfold dd at a;refine dE 27 [.tmp 4] τok func257 ?_;refine aj τok ?_;refine sN m2e ?_;cases b:g x.var y.var with
 |none=>
  rw[b]at a;exact .inl ⟨_,_,_,id,rfl,rfl,rfl,cz a,⟨rfl,rfl,rfl,trivial⟩,rfl⟩
 |some d=>
  rw[b]at a;refine vi ?_;refine ae (λh=>?_) (λh=>?_)
  ·exact .inl ⟨_,_,_,id,rfl,rfl,rfl,cz ((decide_eq_true h).symm.trans a),⟨rfl,rfl,rfl,trivial⟩,rfl⟩
  ·exact .inl ⟨_,_,_,id,rfl,rfl,rfl,cz ((decide_eq_false h).symm.trans a),⟨rfl,rfl,rfl,trivial⟩,rfl⟩
theorem KP(g:G)(x:Atom)(l:List Atom)(hl:l.length<=1000000)(h:0<=x.add/\x.add<=1000)(i:∀y∈l,0<=y.add/\y.add<=1000):VG prog 258 [.c (.p (bX l)),.c (.fn 257 [0,1])] (pc g x) (.ok (.c (.p (pI (mw (dd g x) l 0))),pc g x)):=by
 have q:=ak atP l;generalize a:mw (dd g x) l 0=e;refine dE 19 [.tmp 4] τok func258 ?_;refine aj τok ?_;refine aB τok (σ:=Nat) [(0,_),(1,_),(6,_),(7,_)] [(0,_),(1,_),(2,_)] (λk=>[(8,vI k)]) (λ_=>[]) (λk=>k<=l.length/\mw (dd g x) (l.drop k) k=e) (λk=>l.length-k) 0 ⟨KV _,a⟩ ?_;rintro k ⟨r,hr⟩;refine aj τok ?_;refine ae (λj=>?_) (λj=>?_);rotate_left
 ·rw[JY (by omega)]at hr
  exact .inl ⟨_,_,_,id,rfl,rfl,rfl,congrArg (PV.int .i64) hr,⟨rfl,rfl,rfl,trivial⟩,rfl⟩
 obtain⟨y,b,o⟩:=ay (l:=l) (k:=k);rw[o]at hr;simp only[mw]at hr;have d:=KO g x y h (i y (JQ b));refine vm (p:=atP) k b ?_;cases f:dd g x y with
 |true=>
  rw[f]at d hr;refine bS id (λk=>k+1) d ?_;exact .inl ⟨_,_,_,id,rfl,rfl,rfl,congrArg (PV.int .i64) hr,⟨rfl,rfl,rfl,trivial⟩,rfl⟩
 |false=>
  rw[f]at d hr;refine bS id (λk=>k+1) d ?_;refine vi ?_;exact au (k+1) ⟨by omega,hr⟩
theorem KR(g:G)(x:Atom)(l:List Atom)(hl:l.length<=1000000)(a:0<=x.add/\x.add<=1000)(b:∀y∈l,0<=y.add/\y.add<=1000):VG prog 256 [.c (.p (bX l)),.c (.fn 257 [0,1])] (pc g x) (.ok (.c (.p (.bool (l.any (dd g x)))),pc g x)):=by
 refine dE 9 [.tmp 4] τok func256 ?_;refine aj τok ?_;refine bS id (λk=>k+1) (KP g x l hl a b) ?_;rw[<- Cj (dd g x) l 0 (by decide)];refine ae (λh=>?_) (λh=>?_)
 ·exact .inl ⟨_,_,_,id,rfl,rfl,rfl,cz (decide_eq_true h).symm,⟨rfl,rfl,rfl,trivial⟩,rfl⟩
 ·exact .inl ⟨_,_,_,id,rfl,rfl,rfl,cz (decide_eq_false h).symm,⟨rfl,rfl,rfl,trivial⟩,rfl⟩
theorem KS(vars:Int)(os:List aQ)(a b:List Atom)(ha:a.length<=1000000)(hb:b.length<=1000000):VC prog 250 [pI vars,.sl (os.map eg),bX a,bX b] (.bool (jl vars os a b)):=by
 have E:=ak atP a;have o:=D4 vars os;have q:=yP a (by omega) vars;have r:=yP b (by omega) vars;generalize d:jl vars os a b=s;unfold jl at d;refine vf 44 [.tmp 8] τok func250 ?_;cases h:ee vars os with
 |error n=>
  rw[h]at o d;have F:=closedF_err h;refine bS (λ_=>16) (λ_=>0) o ?_;refine vy ?_ (show n≠0 by omega);exact⟨_,_,rfl,rfl,cz d⟩
 |ok g=>
  rw[h]at o d;simp only at d;refine bS (λ_=>16) (λ_=>0) o ?_;refine vn ?_ (by decide);cases f:cE a vars with
  |false=>
   rw[f]at q d;refine af q ?_;exact⟨_,_,rfl,rfl,cz d⟩
  |true=>
  rw[f]at q d;refine af q ?_;cases i:cE b vars with
  |false=>
   rw[i]at r d;refine af r ?_;exact⟨_,_,rfl,rfl,cz d⟩
  |true=>
  rw[i]at r d;rw[Bool.true_and,Bool.true_and]at d;refine af r ?_;have z:=jm f;have t:=jm i;refine aB τok (σ:=Nat) [(3,_),(9,_),(33,_),(34,_)] [(9,_),(16,_)] (λk=>[(35,vI k)]) (λ_=>[]) (λk=>k<=a.length/\((a.drop k).all λx=>b.any (dd g x))=s) (λk=>a.length-k) 0 ⟨KV _,d⟩ ?_
  clear d
  rintro k ⟨H,hr⟩;refine aj τok ?_;refine ae (λC=>?_) (λC=>?_);rotate_left
  ·rw[JY (by omega)]at hr
   exact⟨_,_,rfl,rfl,cz hr⟩
  obtain⟨x,u,D⟩:=ay (l:=a) (k:=k);rw[D,List.all_cons]at hr;have j:=z.2 x (JQ u);have e:=KR g x b hb ⟨j.1,j.2.1⟩ λy v=>⟨(t.2 y v).1,(t.2 y v).2.1⟩
  refine vm (p:=atP) k u ?_;cases w:b.any (dd g x)with
  |false=>
   rw[w]at e hr;refine bS (λk=>[9,12,16].getD k 0) (λ_=>0) e ?_;exact⟨_,_,rfl,rfl,cz hr⟩
  |true=>
   rw[w]at e hr;refine bS (λk=>[9,12,16].getD k 0) (λ_=>0) e ?_;refine vi ?_;exact au (k+1) ⟨by omega,hr⟩
open Go.Wx Cd Tm Lv
theorem br_at:Br2 rAt atP (λx=>I64 x.var/\I64 x.add):=⟨λ_=>rfl,λx d C e f h=>by
 match e,f with
 |[a,b],_=>exact⟨by rw[fM (h 0 _ a rfl rfl),fM (h 1 _ b rfl rfl)],d⟩,λ_ _ _ h=>h.2⟩
theorem DD':kr rAt atP:=λC d x ⟨e,_⟩=>by
 subst e;refine⟨rfl,λi y u a b=>?_⟩
 match i,a,b with
 |0,a,b=>obtain rfl:=JB a;obtain rfl:=JB b;exact .int _ _
 |1,a,b=>obtain rfl:=JB a;obtain rfl:=JB b;exact .int _ _
theorem tO{x:Tr}(e:Ok .tm x)(d:(row x).length<=4096)(h2:x.n.op=2):VC prog 86 [ah (row x)] (bX (bQ x)):=by
 have hr:=iW e;have a:kidsT x=[]:=by unfold kidsT;cases x;exact if_pos h2
 have f:atmsT x=x.ks.map (·.n):=by unfold atmsT;rw[if_pos h2]
 rw[a,f]at hr;simp only[cj,JD]at hr;have b:=congrArg List.length hr;simp only[JV,List.length_map]at b;have o:=ak ndP (row x);have h:(((row x).map ndP).take (row x).length).drop 1=(x.ks.map (·.n)).map ndP:=by
  rw[JG (by omega),hr]
  rfl
 have q:=ak ndP (x.ks.map (·.n));have r:=ak (λk:Tr=>k.n) x.ks;refine vf 23 [.tmp 2] τok func86 ?_;refine bM 1 (row x).length ?_ (λy i=>by
  obtain⟨_,_,rfl⟩:=List.mem_map.1 i
  rfl)
 rw[h];refine dD 3 1000 48 2 rfl rfl ?_;refine aB τok (σ:=Nat) [(7,_),(8,_)] [] (λj=>[(3,.c (.row 1000)),(9,vI j)]) (λj=>[(1000,.rw 48 2 (((bQ x).take j).map atP))]) (λj=>j<=x.ks.length) (λj=>x.ks.length-j) 0 (KV _) ?_;intro j s;refine aj τok ?_;refine ae (λg=>?_) (λg=>?_)
 ·have g:(j:Int)<(((x.ks.map (·.n)).map ndP).length:Int):=g
  obtain⟨k,a,_⟩:=ay (l:=x.ks) (k:=j);refine vm (p:=ndP) j (x:=k.n) (by rw[JX,a];rfl) ?_;refine bi ?_ (hb:=by simp;omega);refine vi ?_;exact au (j+1) (by show j+1<=_;omega) (sw 1000 20) (y':=⟨congrArg (λl=>some (SE.rw _ _ l)) (by
   rw[List.take_add_one,List.map_append];unfold bQ;rw[JX,a]
   rfl),trivial⟩)
 ·have g:¬ (j:Int)<(((x.ks.map (·.n)).map ndP).length:Int):=g
  rw[JG (by simp[bQ];omega)];exact⟨_,_,rfl,rfl,rfl⟩
theorem El{x y:Operand}{p q:Nd}{k:PV ->Prop}(e:k (.bool (decide (p=q)))):nh prog .eql 42 x y (.c (.p (.agg (ndP p)))) (.c (.p (.agg (ndP q)))) k:=by
 refine⟨_,λC ρ va o w f i=>?_,e⟩;have rd:∀{p:Nd} {v:Value},RA C ρ (.c (.p (.agg (ndP p)))) v ->v=jj p:=λ{p v} h=>by
  have h:RV C (.agg (ndP p)) v:=h;cases h with
  |agg r j l d=>
   match j,l with
   |[a,b,c],_=>rw[fM (d 0 _ a rfl rfl),fM (d 1 _ b rfl rfl),fM (d 2 _ c rfl rfl)]
 obtain rfl:=rd f;obtain rfl:=rd i;exact⟨_,.bool _,C7 _ _ p q w⟩
section
variable{Q:Nd ->Prop}{N:Int}{x y:Tr}
theorem KU(r:Ft Q N x)(s:Ft Q N y):VC prog 214 [ah (row x),ah (row y)] (.bool (decide (row x=row y))):=by
 have t:=r.len;have u:=s.len
 generalize row x=a at t ⊢
 generalize row y=b at u ⊢
 have w:=ak ndP a;have z:=ak ndP b;have o:a≠b ->PV.bool false= .bool (decide (a=b)):=λh=>by rw[decide_eq_false h]
 refine vf 26 [.tmp 4] τok func214 ?_;refine ae (λg=>?_) (λg=>?_)
 ·exact⟨_,_,rfl,rfl,o λh=>by subst h;omega⟩
 refine vl τok (σ:=Nat) [(0,_),(1,_),(12,_)] (λi=>[(13,vI i)]) (λi=>i<=a.length/\a.take i=b.take i) (λi=>a.length-i) 0 ⟨KV _,by simp⟩ ?_;rintro i ⟨C,f⟩;refine ae (λg=>?_) (λg=>?_)
 ·obtain⟨p,j,D⟩:=ay (l:=a) (k:=i)
  obtain⟨q,d,v⟩:=ay (l:=b) (k:=i);refine vm i j ?_;refine vm i d ?_;refine tz ?_
  by_cases h:p=q
  ·rw[decide_eq_true h]
   refine vk ?_;refine vi ?_;exact au (i+1) ⟨by omega,by rw[List.take_add_one,List.take_add_one,f,j,d,h]⟩
  ·rw[decide_eq_false h]
   exact vk ⟨_,_,rfl,rfl,o λe=>h (by subst e;rw[j]at d;exact JB d)⟩
 ·exact⟨_,_,rfl,rfl,by
   rw[JG (by omega),JG (by omega)]at f;rw[decide_eq_true f]
   rfl⟩
theorem yQ{a b:List Int}(ha:∀x∈a,I64 x)(hb:∀x∈b,I64 x)(h1:a.length<=1000)(h2:b.length<=1000):VC prog 253 [.sl (a.map iP),.sl (b.map iP)] (.bool (decide (a=b))):=by
 have r:=ak iP a;have s:=ak iP b;have j:a≠b ->PV.bool false= .bool (decide (a=b)):=λh=>by rw[decide_eq_false h]
 refine vf 26 [.tmp 4] τok func253 ?_;refine ae (λg=>?_) (λg=>?_)
 ·exact⟨_,_,rfl,rfl,j λh=>by subst h;omega⟩
 refine vl τok (σ:=Nat) [(0,_),(1,_),(12,_)] (λi=>[(13,vI i)]) (λi=>i<=a.length/\a.take i=b.take i) (λi=>a.length-i) 0 ⟨KV _,by simp⟩ ?_;rintro i ⟨h1,h2⟩;refine ae (λg=>?_) (λg=>?_)
 ·obtain⟨p,f,t⟩:=ay (l:=a) (k:=i)
  obtain⟨q,d,o⟩:=ay (l:=b) (k:=i);refine vm i f ?_;refine vm i d ?_;refine ae (λh=>?_) (λh=>?_)
  ·exact vk ⟨_,_,rfl,rfl,j λe=>h (by subst e;rw[f]at d;exact JB d)⟩
  ·have h:¬ p≠q:=h
   refine vk ?_;refine vi ?_;exact au (i+1) ⟨by omega,by rw[List.take_add_one,List.take_add_one,h2,f,d,Decidable.not_not.1 h]⟩
 ·exact⟨_,_,rfl,rfl,by
   rw[JG (by omega),JG (by omega)]at h2;rw[decide_eq_true h2]
   rfl⟩
theorem Em(a:Ft Q N x)(d:x.n.op=12):VC prog 254 [ah (row x)] (.sl ((placesM x).map iP)):=by
 have w:=az a;have F:=dM a.ok d;have t:=a.len;obtain⟨b,z⟩:∃b:Nat,x.n.b=(b:Int):=⟨x.n.b.toNat,by omega⟩
 have hpl:(placesM x).length=b:=by simp[placesM];omega
 refine cN 27 [.tmp 2] τok func254 ?_;refine aj τok ?_;refine vm (p:=ndP) 0 (aI w) ?_;refine dD 3 1000 3 1 rfl rfl ?_;refine aB τok (σ:=Nat) [(0,_),(8,_)] [] (λi=>[(3,.c (.row 1000)),(4,vI ((1+(rows (x.ks.take i)).length:Nat):Int)),(9,vI i)]) (λi=>[(1000,.rw 3 1 (((placesM x).take i).map iP))]) (λi=>i<=b) (λi=>b-i) 0 (KV _) ?_ (x1:=⟨rfl,congrArg (λn:Int=>some (vI n)) (by simp[rows]),rfl,trivial⟩);intro i H;have I:((placesM x).take i).length=i:=by rw[List.length_take];omega
 refine aj τok ?_;refine ae (λe=>?_) (λe=>?_)
 ·have e:(i:Int)<x.n.b:=e
  obtain⟨f,h,_⟩:=ay (l:=x.ks) (k:=i);obtain⟨u,v,j,C,_,o,q,_,r,r1,r2⟩:=kn a.ok d h;have D:(placesM x).take (i+1)=(placesM x).take i++[f.n.a]:=dy (by unfold placesM;rw[JX,h];rfl);have s:=congrArg List.length r1;simp only[JK,JV]at s;have E:(rows (x.ks.take (i+1))).length=(rows (x.ks.take i)).length+(1+((row u).length+(row v).length)):=by
   rw[dy h,dd',JK];rw[j];simp[rows,row];omega
  refine vm (p:=ndP) (1+(rows (x.ks.take i)).length) r ?_;refine bi ?_ (hb:=by simp;omega);refine vi ?_;refine af (endP a (y:=u) r1 o (by simp;omega)) ?_;refine af (endP a (y:=v) r2 q (by simp;omega)) ?_;refine vi ?_;exact au (i+1) (by show i+1<=b;omega) (sw 1000 18) (x:=⟨rfl,congrArg (λn:Int=>some (vI n)) (by rw[E];simp;omega),rfl,trivial⟩) (y':=⟨congrArg (λl=>some (SE.rw _ _ l)) (by rw[D,List.map_append];rfl),trivial⟩)
 ·have e:¬ (i:Int)<x.n.b:=e
  rw[show (placesM x).take i=placesM x from JG (by omega)];exact⟨_,_,rfl,rfl,rfl⟩
theorem Eo(a:Ok .tm x)(h2:x.n.op=2):(bQ x).length<=1000000:=by
 obtain⟨_,b,_,d⟩:=C8 a h2;unfold bQ;rw[List.length_map];omega
theorem Er{B:aq}(hI:BoI B)(a:Ft Q N x)(b:Ft Q N y)(h1:x.n.op=2)(h2:y.n.op=2):VC prog 250 [.int .i64 B.vars,.sl (B.orders.map eg),bX (bQ x),bX (bQ y)] (.bool (jl B.vars B.orders (bQ x) (bQ y))):=KS _ _ _ _ (Eo a.ok h1) (Eo b.ok h2)
end
section
variable{B:aq}(hI:BoI B)(hB:GoodB B)
include hI hB
variable{cx:Ctx}(hcx:CxOk B cx)(hcl:cx.length<=260)
include hcx hcl
theorem Es{x:Tr}(a:Ft (QB B) (cx.length:Int) x)(n:Int):VC prog 147 [aY B,aJ (cx.map aA),ah (row x),pI n] (match dA B cx x n with
  | .ok q=>.tup [ah (row q.1),pI q.2,pI 0]
  | .error e=>.tup [.sl [],pI 0,pI e]):=KN hB hcx (by omega) a n
end
def fT(B:aq)(c:PV)(n er:PV):List PV:=[.int .i64 B.vars,.sl (B.orders.map eg),.sl (B.ents.map aU),.int .i64 B.nat,.sl (B.prims.map iB),c,n,er]
abbrev iK(B:aq)(cx:Ctx)(n:Int):List PV:=fT B (aJ (cx.map aA)) (pI n) (pI 0)
def kP(B:aq)(cx:Ctx)(r:Except Int (Bool×Nat)):List PV×PV:=match r with
 | .ok q=>(iK B cx q.2,.bool q.1)
 | .error e=>(fT B (aJ (cx.map aA)) .unk (pI e),.bool false)
def lT(B:aq)(cx:Ctx)(x y:Tr)(u:Bool)(n:Nat)(r:Except Int (Bool×Nat)):Prop:=VP prog 197 241 (iK B cx n) (kP B cx r).1 [ah (row x),ah (row y),.bool u] (kP B cx r).2
def tP(B:aq)(g:Nat)(rc:RcC):Prop:=∀(cx:Ctx) (x y:Tr) (u:Bool) (n:Nat),CxOk B cx ->cx.length<=260 ->Ft (QB B) (cx.length:Int) x ->Ft (QB B) (cx.length:Int) y ->n<=g ->n<=100000 ->lT B cx x y u n (rc cx x y u n)
section
variable{B:aq}{cx:Ctx}{n:Nat}
theorem Et(hI:BoI B)(hB:GoodB B)(hcx:CxOk B cx)(hcl:cx.length<=260){x:Tr}(d:Ft (QB B) (cx.length:Int) x):(∀e,dA B cx x (n:Int)= .error e ->VP prog 215 241 (iK B cx n) (fT B (aJ (cx.map aA)) (pI 0) (pI e)) [ah (row x)] (.tup [.sl [],.bool false]))/\∀q,dA B cx x (n:Int)= .ok q ->VP prog 215 241 (iK B cx n) (iK B cx q.2) [ah (row x)] (.tup [ah (row q.1),.bool true]):=by
 have a:=Es hI hB hcx hcl d (n:Int);refine⟨λe b=>?_,λq f=>?_⟩
 ·rw[b]at a
  have h:e≠0:=by rcases whnf_er _ _ _ _ _ b with rfl|rfl<;>decide
  refine aV (r:=.ok (_,_)) 38 [.tmp 4,.tmp 5] τok func215 ?_;refine aj τok ?_;refine af a ?_;refine vk ?_;refine vn (p:=e=0) ?_ h;exact⟨_,_,_,rfl,rfl,rfl,rfl,rfl⟩
 ·rw[f]at a
  refine aV (r:=.ok (_,_)) 38 [.tmp 4,.tmp 5] τok func215 ?_;refine aj τok ?_;refine af a ?_;refine vk ?_;refine vy (p:=(0:Int)=0) ?_ rfl;exact⟨_,_,_,rfl,rfl,rfl,rfl,rfl⟩
theorem KX(hI:BoI B){f g:Tr}{N:Int}(e:Ft (QB B) N f)(h:Ft (QB B) N g)(f2:f.n.op=2)(j:g.n.op=2)(u:Bool){c fu:PV}:VP prog 239 241 (fT B c fu (pI 0)) (fT B c fu (pI 0)) [ah (row f),ah (row g),.bool u] (.bool (gH B f g u)):=by
 have i:=Er hI e h f2 j;have l:=Er hI h e j f2;generalize b:gH B f g u=d;unfold gH at b;refine aV (r:=.ok (_,_)) 57 [.tmp 8] τok func239 ?_;refine aj τok ?_;refine af (tO e.ok e.len f2) ?_;refine af (tO h.ok h.len j) ?_;refine vm (p:=ndP) 0 (aI (az e)) ?_;refine vm (p:=ndP) 0 (aI (az h)) ?_;refine ae (λa=>?_) (λa=>?_)
 ·rw[decide_eq_true (p:=f.n.a=g.n.a) a,Bool.true_and]at b
  cases k:jl B.vars B.orders (bQ f) (bQ g)with
  |false=>
   rw[k]at i b;have b:false=d:=b;subst b;refine af i ?_;refine vk ?_;exact⟨_,_,_,rfl,rfl,rfl,rfl,rfl⟩
  |true=>
   rw[k]at i;rw[k,Bool.true_and]at b;refine af i ?_;cases u with
   |true=>
    have b:true=d:=b;subst b;refine vk ?_;exact⟨_,_,_,rfl,rfl,rfl,rfl,rfl⟩
   |false=>
    rw[Bool.false_or]at b;rw[b]at l;refine af l ?_;refine vk ?_;exact⟨_,_,_,rfl,rfl,rfl,rfl,rfl⟩
 ·rw[decide_eq_false (p:=f.n.a=g.n.a) a]at b
  have b:false=d:=b;subst b;refine vk ?_;exact⟨_,_,_,rfl,rfl,rfl,rfl,rfl⟩
variable{g:Nat}{rc:RcC}
theorem Eu(o:tP B g rc)(s:mF rc)(hcx:CxOk B cx)(hcl:cx.length<=260)(M:n<=g)(F:n<=100000){xs ys:List Tr}(t:∀x∈xs,Ft (QB B) (cx.length:Int) x)(u:∀x∈ys,Ft (QB B) (cx.length:Int) x)(hl:xs.length=ys.length)(H:xs.length<=100000):VP prog 217 241 (iK B cx n) (kP B cx (cU rc cx xs ys n)).1 [bJ (xs.map row),bJ (ys.map row)] (kP B cx (cU rc cx xs ys n)).2:=by
 generalize f:cU rc cx xs ys n=d;have O:=ak rP (xs.map row);have S:=ak row xs;refine aV (r:=.ok (_,_)) 25 [.tmp 6] τok func217 ?_;refine aj τok ?_;refine aB τok (σ:=Nat×Nat) [(0,_),(1,_),(2,_),(9,_)] [] (λq=>[(10,vI q.1)]) (λq=>[(0,.st 1 241 ((iK B cx q.2).map .p))]) (λq=>q.1<=xs.length/\q.2<=n/\cU rc cx (xs.drop q.1) (ys.drop q.1) q.2=d) (λq=>xs.length-q.1) (0,n) ⟨KV _,KJ _,f⟩ ?_
 clear f
 rintro⟨i,m⟩ ⟨I,L,a⟩;simp only at I L a
 dsimp only
 refine aj τok ?_;refine ae (λj=>?_) (λj=>?_)
 ·have j:(i:Int)<(((xs.map row).map rP).length:Int):=j
  obtain⟨x,D,v⟩:=ay (l:=xs) (k:=i);obtain⟨y,E,w⟩:=ay (l:=ys) (k:=i);rw[v,w]at a;simp only[cU]at a;have h:=o cx x y false m hcx hcl (t x (JQ D)) (u y (JQ E)) (by omega) (by omega);unfold lT at h;refine vm (p:=rP) i (x:=row x) (by rw[JX,D];rfl) ?_;refine vm (p:=rP) i (x:=row y) (by rw[JX,E];rfl) ?_;cases z:rc cx x y false m with
  |error e=>
   rw[z]at h a;have a:.error e=d:=a;subst a;refine ax h ?_;refine vk ?_;exact⟨_,_,_,rfl,rfl,rfl,rfl,rfl⟩
  |ok q=>
   obtain⟨b,C⟩:=q;have:=s _ _ _ _ _ _ z;simp only at this;rw[z]at h a;cases b with
   |false=>
    have a:.ok (false,C)=d:=a;subst a;refine ax h ?_;refine vk ?_;exact⟨_,_,_,rfl,rfl,rfl,rfl,rfl⟩
   |true=>
    have a:cU rc cx (xs.drop (i+1)) (ys.drop (i+1)) C=d:=a;refine ax h ?_;refine vk ?_;refine vi ?_;exact au (i+1,C) ⟨by simp only;omega,by simp only;omega,a⟩
 ·have j:¬ (i:Int)<(((xs.map row).map rP).length:Int):=j
  rw[JY (by omega)]at a;have a:.ok (true,m)=d:=a;subst a;exact⟨_,_,_,rfl,rfl,rfl,rfl,rfl⟩
end
end Go.Proofs.YtjnjbghlemiklaaGreat
