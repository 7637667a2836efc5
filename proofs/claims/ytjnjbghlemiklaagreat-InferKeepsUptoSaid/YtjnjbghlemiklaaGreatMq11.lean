import Derived.Test.YtjnjbghlemiklaaGreatMq10
set_option linter.unusedVariables false
set_option linter.unusedSimpArgs false
set_option linter.unusedSectionVars false
set_option maxRecDepth 100000
set_option maxHeartbeats 4000000
open Go.Proofs.Tryz
namespace Go.Proofs.YtjnjbghlemiklaaGreat
open Go.Wx Lv
theorem J8{vars:Int}{os:List aO}:VC prog 74 [pI vars,.sl (os.map orP)] (pI (oG vars os)):=by
 have a:=D1 vars os;unfold oG;refine vf 14 [.tmp 4] τok func74 ?_;cases h:dZ vars os with
 |error n=>
  rw[h]at a;refine bv (λ_=>10) (λ_=>0) a ?_;exact eA9
 |ok g=>
  rw[h]at a;refine bv (λ_=>10) (λ_=>0) a ?_;exact eA9
open Go.Wx Cd Tm Lv
section
variable{B:aq}(hB:dc B)
include hB
theorem un':VC prog 37 [aW B] (pI (cZ B)):=by
 have s:=ak aQ B.ents;have j:=hB.e;generalize a:cZ B=d;unfold cZ at a;refine vf 39 [.tmp 2] τok func37 ?_;refine af J8 ?_;refine ae (λg=>?_) (λg=>?_)
 ·rw[if_pos g]at a
  exact⟨_,_,rfl,rfl,congrArg (PV.int .i64) a⟩
 rw[if_neg g]at a;refine ae (λo=>?_) (λo=>?_)
 ·rw[if_pos Oo]at a
  exact⟨_,_,rfl,rfl,congrArg (PV.int .i64) a⟩
 rw[if_neg Oo]at a;refine az τok (σ:=Nat) [(1,_),(20,_),(21,_)] [(1,_)] (λi=>[(22,vI i)]) (λ_=>[]) (λi=>i<=B.ents.length/\bh (jV B (B.ents.drop i) i) (if gJ B=true then 0 else 22)=d) (λi=>B.ents.length-i) 0 ⟨KV _,a⟩ ?_
 clear a
 rintro i ⟨t,b⟩;refine aj τok<|ae (λq=>?_) (λq=>?_);rotate_left
 ·rw[JY Oo]at b
  have b:(if gJ B=true then 0 else 22)=d:=b;refine bH (JM hB) (λf=>?_) (λf=>?_)
  ·rw[if_pos f]at b
   exact⟨_,_,rfl,rfl,congrArg (PV.int .i64) b⟩
  ·rw[if_neg (by rw[f];decide)]at b
   exact⟨_,_,rfl,rfl,congrArg (PV.int .i64) b⟩
 obtain⟨x,h,r⟩:=ay (l:=B.ents) (k:=i);rw[r]at b;have b:bh (bh (eS B i x) (jV B (B.ents.drop (i+1)) (i+1))) _=d:=b;rw[lO]at b;refine vm (p:=aQ) i h ?_;refine af (Ah' (known:=i) Oo (hB.x x (JQ h))) ?_;refine ae (λe=>?_) (λe=>?_)
 ·rw[kK e]at b
  exact⟨_,_,rfl,rfl,congrArg (PV.int .i64) b⟩
 rw[jo e]at b;refine vi ?_;exact au (i+1) ⟨by show i+1<=_;omega,b⟩
theorem yn{t:List Nd}(d:t.length<=1000000000){below:Int}(hb:I64 below):VC prog 43 [aW B,pI below,ah t] (pI (eU B below t)):=by
 generalize a:eU B below t=e;unfold eU at a;refine vf 23 [.tmp 6] τok func43 ?_;refine af (un' hB) ?_;refine ae (λg=>?_) (λg=>?_)
 ·rw[if_pos g]at a
  exact⟨_,_,rfl,rfl,congrArg (PV.int .i64) a⟩
 rw[if_neg g]at a;refine ae (λb=>?_) (λb=>?_)
 ·rw[if_pos b]at a
  exact⟨_,_,rfl,rfl,congrArg (PV.int .i64) a⟩
 rw[if_neg b]at a;have h:=ym (B:=B) (known:=B.ents.length) (KJ _) (self:=-1) d hb;rw[a,show ((B.ents.length:Nat):Int)=((B.ents.map aQ).length:Int) by rw[ak]]at h;refine af h ?_;exact eA9
theorem qT{c:List (List Nd×List Nd)}{t:List Nd}(hc:c.length<=1000000)(o:∀q∈c,q.1.length<=1000000000/\q.2.length<=1000000000)(r:t.length<=1000000000):VC prog 25 [aW B,aG c,ah t] (pI (dO B c t)):=by
 have eC:=ak bdP c;generalize a:dO B c t=d;unfold dO at a;refine vf 53 [.tmp 6] τok func25 ?_;refine af (un' hB) ?_;refine ae (λg=>?_) (λg=>?_)
 ·rw[if_pos g]at a
  exact⟨_,_,rfl,rfl,congrArg (PV.int .i64) a⟩
 rw[if_neg g]at a;refine ae (λs=>?_) (λs=>?_)
 ·rw[if_pos Oo]at a
  exact⟨_,_,rfl,rfl,congrArg (PV.int .i64) a⟩
 rw[if_neg Oo]at a;refine az τok (σ:=Nat) [(1,_),(2,_),(3,_),(20,_),(21,_)] [(3,_)] (λi=>[(22,vI i)]) (λ_=>[]) (λi=>i<=c.length/\bh (gk B (c.drop i) i) (eU B c.length t)=d) (λi=>c.length-i) 0 ⟨KV _,a⟩ ?_
 clear a
 rintro i ⟨C,b⟩;refine aj τok<|ae (λu=>?_) (λu=>?_);rotate_left
 ·rw[JY Oo]at b
  have b:eU B c.length t=d:=b;have h:=yn hB r (below:=((c.map bdP).length:Int)) (by unfold I64;omega);rw[eC,b]at h;refine af (show VC _ _ [aW B,pI ((c.map bdP).length:Int),ah t] _ by rw[eC];exact h) ?_;exact eA9
 obtain⟨q,j,v⟩:=ay (l:=c) (k:=i);rw[v]at b;have b:bh (bh (eU B i q.1) (if q.2.length=0 then gk B (c.drop (i+1)) (i+1)else bh (eU B i q.2) (gk B (c.drop (i+1)) (i+1)))) _=d:=b;rw[lO]at b;obtain⟨q1,w⟩:=o q (JQ j);have D:=ak ndP q.2;refine vm (p:=bdP) i j ?_;refine af (yn hB q1 (below:=(i:Int)) (by unfold I64;omega)) ?_;refine ae (λe=>?_) (λe=>?_)
 ·rw[kK e]at b
  exact⟨_,_,rfl,rfl,congrArg (PV.int .i64) b⟩
 rw[jo e]at b;refine ae (λz=>?_) (λz=>?_)
 ·rw[if_pos Oo]at b
  refine vi ?_;exact au (i+1) ⟨by show i+1<=_;omega,b⟩
 rw[if_neg Oo]at b;refine af (yn hB w (below:=(i:Int)) (by unfold I64;omega)) ?_;refine ae (λf=>?_) (λf=>?_)
 ·rw[lO,kK f]at b
  exact⟨_,_,rfl,rfl,congrArg (PV.int .i64) b⟩
 rw[lO,jo f]at b;refine vi ?_;exact au (i+1) ⟨by show i+1<=_;omega,b⟩
end
def qU(C:Mem)(w:World)(bj:Nat)(B:aq)(n:Nat):Prop:=
 ∃v1 v2 v3,Bk w.heap bj [iV B.vars,v1,v2,iV B.nat,v3,iV (n:Int)] 132/\SV rOr C B.orders v1/\SV rEn C B.ents v2/\SV rPr C B.prims v3
def J9{α:Type}(D:World ->α ->Value ->Prop)(X:List Nat)(w:World)(bj:Nat)(B:aq)(r:Except Int (α×Nat))(e:Ending)(w':World):Prop:=
 (match r with
  | .ok q=>∃u,e= .returned u/\D w' q.1 u/\qU (Im X w') w' bj B q.2
  | .error er=>e= .panicked (ew er))/\Kp [bj] w w'
def DSp(X:List Nat)(w':World)(x:Tr)(u:Value):Prop:=∃h a,u= .tuple #[h,a]/\TmV (Im X w') (headT x) h/\TmsV (Im X w') (argsT x) a
def Mt(k:Nat)(t:Tr):Prop:=∀m∈row t,m.op=11 ->m.a<(k:Int)
def D2(B:aq)(g:Nat)(rc:RcJ):Prop:=∀(X:List Nat) (w:World) (bj:Nat) (cx:Ctx) (k:Nat) (t:Tr) (n:Nat) (vc v:Value),(XL X w) ->bj∈X ->CxOk B cx ->cx.length<=260 ->qU (Im X w) w bj B n ->n<=100000 ->
 Ft (QB B) (cx.length:Int) t ->Mt k t ->k*5000+(row t).length<=g ->SV rBd (Im X w) (cx.map aA) vc ->TmV (Im X w) t v ->
 CC 47 #[pt bj,vc,v] w (J9 (λw' x u=>TmV (Im X w') x u) X w bj B (rc cx t n))
def DSo(X:List Nat)(w':World)(q:Int×List Atom)(u:Value):Prop:=∃a c,u= .tuple #[iV q.1,.slice a q.2.length c]/\Sl rAt (Im X w') a q.2
def PaP(C:Mem)(w:World)(r:Except Int Tr)(e:Ending)(w':World):Prop:=
 (match r with
  | .ok z=>∃u,e= .returned u/\TmV (Cn C w w') z u
  | .error er=>e= .panicked (ew er))/\Kp [] w w'
structure MoS where
 i:Nat
 cx:Ctx
 m:Tr
 n:Nat
 vc:Value
 vm:Value
def i2(l:List Int):PV:=.sl (l.map iP)
def pb(B:aq)(pl:List Int):PV:=.agg [.int .i64 B.vars,.sl (B.orders.map orP),.sl (B.ents.map aQ),.int .i64 B.nat,.sl (B.prims.map prP),i2 pl]
theorem br_int:Br2 ve' iP I64:=⟨λ_=>rfl,λx b C d e h=>by
 match d,e with
 |[a],_=>exact⟨by rw[fM (h 0 _ a rfl rfl)],b⟩,λ_ _ _ h=>h.2⟩
theorem Ka{f:FuncId}{D:List PV}{l:List Int}(r:dz prog f)(h:∀(w:World) (C:Mem) (vs:List Value),Sub C w ->cP C D vs ->Calls prog f vs.toArray w λe w'=>∃v,e= .returned v/\Own ve' 230 w.heap.size w' v l/\Kp [] w w'):VO prog f D 230 1 (l.map iP):=.of ⟨r,λw C vs hS H=>by
 refine(h w C vs hS H).mono λe w' ⟨u,I,E,k⟩=>?_;obtain⟨s,q1,F⟩:=E.row;refine⟨u,C,s,I,by rw[List.length_map];exact q1,λx d=>by obtain⟨_,_,rfl⟩:=List.mem_map.1 d;rfl,by rw[List.length_map];exact F.length,λi V x L d=>?_,⟨hS.tr k,λ_ _ _ h=>h,λb o v h=>.inl ⟨o,v,h⟩,k⟩,λg M b o z O=>?_⟩
 ·rw[JX]at d
  obtain⟨y,S,rfl⟩:=Option.map_eq_some_iff.1 d;obtain⟨T,a,rfl,_⟩:=F.get S;rw[L]at a;obtain rfl:=JB a;refine⟨rfl,λj p q t U=>?_⟩
  match j,t,U with
  |0,rfl,rfl=>exact⟨rfl,.int _ _⟩
  |j+1,t,_=>cases t
 ·have:=E.block g (by rw[<- lZ q1];exact M)
  have:=(hS b o z O).lt;omega⟩
section
variable{Q:Nd ->Prop}{N:Int}{x y:Tr}{m:List Int}
theorem pc{pl:List Int}(hm:Mk pl m)(hpl:pl.length<=1000):∀v∈m,I64 v:=λv a=>by
 rcases hm v a with rfl|rfl|rfl|⟨j,b,rfl⟩<;>exact⟨Oo,Oo⟩
theorem pd(hm:∀v∈m,I64 v)(hl:m.length<=1000000):VO prog 212 [i2 m] 230 1 (m.map iP):=Ka ⟨_,func212,rfl,OO⟩ λw C j hS b=>by
 obtain⟨v,rfl,d⟩:=Cv b;obtain⟨a,c,rfl,f,l⟩:=br_int.sl ⟨Oo,hm⟩ d;exact(IY hS m a c f hl).2.mono λe o ⟨⟨u,h,i⟩,k⟩=>⟨u,h,i,k⟩
theorem yp{v:Int}(b:0<=v)(hl:m.length<=1000000):VC prog 236 [i2 m,pI v] (pI (bP m v)):=by
 have d:=ak iP m;refine vf 17 [.tmp 4] τok func236 ?_;unfold bP;refine ae (λg=>?_) (λg=>?_)
 ·have g:v≥((m.map iP).length:Int):=g
  rw[if_pos Oo];exact eA9
 ·have g:¬ v≥((m.map iP).length:Int):=g
  rw[if_neg Oo];obtain⟨u,a,_⟩:=ay (l:=m) (k:=m.length-1-v.toNat);refine vi ?_;refine vi ?_;refine vm (p:=iP) (m.length-1-v.toNat) a ?_ Oo;rw[List.getD_eq_getElem?_getD,a];exact eA9
theorem tC(a:Ft Q N x):VC prog 211 [ah (row x)] (.tup [ah (row (headT x)),bw ((argsT x).map row)]):=Iu a.ok a.len
theorem Kb(b:Ft Q N x)(hl:m.length<=1000000):VC prog 237 [ah (row x),i2 m] (.bool (iY x m)):=by
 have e:=aB b.head;have f:=db b.head.ok.pl;unfold iY;refine vf 26 [.tmp 4] τok func237 ?_;refine af (tC b) ?_;refine vm (p:=ndP) 0 (aJ e) ?_;refine ae (λg=>?_) (λg=>?_)
 ·rw[decide_eq_true (p:=(headT x).n.op=1) g,Bool.true_and]
  refine vm (p:=ndP) 0 (aJ e) ?_;refine af (yp (m:=m) (v:=(headT x).n.a) f.2.2.1 hl) ?_;refine ae (λd=>?_) (λd=>?_)
  ·rw[decide_eq_true (p:=bP m (headT x).n.a=2) d]
   exact eA9
  ·rw[decide_eq_false (p:=bP m (headT x).n.a=2) d]
   exact eA9
 ·rw[decide_eq_false (p:=(headT x).n.op=1) g,Bool.false_and]
  exact eA9
end
def qV(B:aq)(pl:List Int)(g:Nat)(rc:RcF):Prop:=∀(N:Int) (x:Tr) (m:List Int),Ft (QB B) N x ->Mk pl m ->m.length+4*(row x).length<=100000 ->(row x).length<=g ->VC prog 213 [pb B pl,ah (row x),i2 m] (.bool (rc x m))
section
variable{B:aq}{pl:List Int}{g:Nat}{rc:RcF}{N:Int}{m:List Int}
theorem yq(o:qV B pl g rc){ys:List Tr}{L:List (List PV)}(q:L=(ys.map row).map rP)(h:∀y∈ys,Ft (QB B) N y/\m.length+4*(row y).length<=100000/\(row y).length<=g)(hl:ys.length<=100000)(hm:Mk pl m):VC prog 235 [pb B pl,i2 m,.sl L] (.bool (ys.all λy=>rc y m)):=by
 subst q;generalize b:(ys.all λy=>rc y m)=d;have v:=ak rP (ys.map row);have w:=ak row ys;refine cA 21 [.tmp 6] τok func235 ?_;refine aj τok<|az τok (σ:=Nat) [(1,_),(3,_),(9,_),(10,_)] [(3,_)] (λi=>[(11,vI i)]) (λ_=>[]) (λi=>i<=ys.length/\((ys.drop i).all λy=>rc y m)=d) (λi=>ys.length-i) 0 ⟨KV _,b⟩ ?_
 clear b
 rintro i ⟨z,a⟩;refine aj τok<|ae (λe=>?_) (λe=>?_)
 ·have e:(i:Int)<(((ys.map row).map rP).length:Int):=e
  obtain⟨y,j,r⟩:=ay (l:=ys) (k:=i);rw[r,List.all_cons]at a;obtain⟨s,t,u⟩:=h y (JQ j);have f:=o N y m s hm t u;refine vm (p:=rP) i (x:=row y) (by rw[JX,j];rfl) ?_;cases hr:rc y m with
  |false=>
   rw[hr]at f a;have a:false=d:=a;subst a;refine af f ?_;exact eA9
  |true=>
   rw[hr]at f;rw[hr,Bool.true_and]at a;refine af f ?_;refine vi ?_;exact au (i+1) ⟨Oo,a⟩
 ·have e:¬ (i:Int)<(((ys.map row).map rP).length:Int):=e
  rw[List.drop_of_length_le Oo]at a;have a:true=d:=a;subst a;exact eA9
end
theorem j3{α β:Type}(f:α ->β)(l:List α)(x:α):(l++[x]).map f=l.map f++[f x]:=Od
section
variable{B:aq}{pl:List Int}{g:Nat}{rc:RcF}{N:Int}{m:List Int}{x:Tr}
theorem yr(z:qV B pl g rc)(e:Ft (QB B) N x)(hpl:pl.length<=1000)(hm:Mk pl m)(d:m.length+4*(row x).length<=100000)(s:(row x).length<=g)(n:Nat)(v:n<=1000):VC prog 249 [pb B pl,ah (row x),pI n,i2 m] (.bool (fQ rc n x m)):=by
 generalize j:fQ rc n x m=r;refine cA 42 [.tmp 8] τok func249 ?_;refine aj τok<|eV (pd (pc hm hpl) Oo) ?_;refine az τok (σ:=Nat×Int×Tr×List Int) [(4,_)] [(4,_)] (λq=>[(1,vP (ah (row q.2.2.1))),(2,vI q.1),(3,.c (.row 1000))]) (λq=>[(1000,.rw 230 1 (q.2.2.2.map iP))]) (λq=>q.1<=1000/\Ft (QB B) q.2.1 q.2.2.1/\Mk pl q.2.2.2/\q.2.2.2.length+4*(row q.2.2.1).length<=100000/\(row q.2.2.1).length<=g/\fQ rc q.1 q.2.2.1 q.2.2.2=r) (λq=>q.1) (n,N,x,m) ⟨v,e,hm,d,s,j⟩ ?_ (f:=sw 1000 11)
 clear j e hm d s
 rintro⟨n,N,x,m⟩ ⟨v,e,hm,d,s,b⟩;simp only at v e hm d s b;have D:=aB e;have o:fQ rc n x m=rc x m ->VC prog 213 [pb B pl,ah (row x),i2 m] (.bool r):=λh=>by
  rw[<- b,h];exact z N x m e hm d s
 dsimp only
 refine aj τok<|ae (λt=>?_) (λt=>?_)
 ·have t:(n:Int)>0:=t
  obtain⟨k,rfl⟩:∃k,n=k+1:=⟨n-1,Oo⟩
  refine vm (p:=ndP) 0 (aJ D) ?_;refine ae (λi=>?_) (λi=>?_)
  ·have i:x.n.op=5:=i
   simp only[fQ,if_pos i]at b;obtain⟨_,C,E⟩:=dU e (.inr i);obtain⟨r1,r2,_⟩:=nL e.ok (.inr i);have w:=congrArg List.length r2;simp only[JK,JV]at w;have u:=z N (kidD x 0) m C hm Oo Oo;refine af (endP e (a:=[x.n]) (y:=kidD x 0) (q:=row (kidD x 1)) r1 C.ok rfl) ?_;refine bC 1 (1+(row (kidD x 0)).length) ?_ (cS _) (h4:=by rw[List.length_map];omega);rw[du (p:=1) (n:=1+(row (kidD x 0)).length) r1 rfl rfl];cases hr:rc (kidD x 0) m with
   |false=>
    rw[hr]at u b;have b:false=r:=b;subst b;refine mg u ?_;exact kA9
   |true=>
    rw[hr]at u;rw[hr,Bool.true_and]at b;refine mg u ?_;refine vk ?_;refine aV ?_ (hb:=OK);refine bC (1+(row (kidD x 0)).length) (row x).length ?_ (cS _) (h1:=rfl) (h2:=by rw[List.length_map]) (h3:=Oo) (h4:=by rw[List.length_map];omega);rw[du (a:=x.n::row (kidD x 0)) (y:=kidD x 1) (q:=[]) (by rw[JD];exact r2) (by rw[JV];omega) (by rw[JV];omega)];refine vi ?_;refine au (k,N+1,kidD x 1,m++[2]) ⟨OS,E,hm.snoc Oo,by simp only[JK,List.length_singleton];omega,OS,b⟩ (sw 1000 34) (x:=⟨rfl,congrArg (λn:Int=>some (vI n)) OS,rfl,trivial⟩) (y':=⟨congrArg (λl=>some (SE.rw _ _ l)) (j3 iP m 2).symm,trivial⟩)
  ·have i:¬ x.n.op=5:=i
   refine af (o (by simp only[fQ,if_neg i])) ?_;exact eA9
 ·have t:¬ (n:Int)>0:=t
  obtain rfl:n=0:=Oo
  refine af (o rfl) ?_;exact eA9
theorem Kc(z:qV B pl g rc)(e:Ft (QB B) N x)(hpl:pl.length<=1000)(hm:Mk pl m)(d:m.length+4*(row x).length<=100000)(s:(row x).length<=g)(p:Nat)(I:p<=1000):VC prog 191 [pb B pl,ah (row x),pI p,i2 m] (.bool (gG rc (p+1) x m)):=by
 generalize k:gG rc (p+1) x m=h;refine cA 47 [.tmp 8] τok func191 ?_;refine aj τok<|eV (pd (pc hm hpl) Oo) ?_;refine az τok (σ:=Nat×Int×Tr×List Int) [(2,_),(4,_)] [(4,_)] (λq=>[(1,vP (ah (row q.2.2.1))),(3,.c (.row 1000)),(9,vI q.1)]) (λq=>[(1000,.rw 230 1 (q.2.2.2.map iP))]) (λq=>q.1<=p+1/\Ft (QB B) q.2.1 q.2.2.1/\Mk pl q.2.2.2/\q.2.2.2.length+4*(row q.2.2.1).length<=100000/\(row q.2.2.1).length<=g/\gG rc (p+1-q.1) q.2.2.1 q.2.2.2=h) (λq=>p+1-q.1) (0,N,x,m) ⟨KV _,e,hm,d,s,k⟩ ?_ (f:=sw 1000 13)
 clear k e hm d s
 rintro⟨i,N,x,m⟩ ⟨F,e,hm,d,s,b⟩;simp only at F e hm d s b;have H:=aB e
 dsimp only
 refine aj τok<|ae (λt=>?_) (λt=>?_)
 ·have t:(i:Int)<=(p:Int):=t
  obtain⟨r,hr⟩:∃r,p+1-i=r+1:=⟨p-i,Oo⟩
  rw[hr]at b;simp only[gG]at b;refine vm (p:=ndP) 0 (aJ H) ?_;refine ae (λj=>?_) (λj=>?_)
  ·have j:x.n.op≠5:=j
   rw[decide_eq_false j]at b;have b:false=h:=b;subst b;exact eA9
  have j:x.n.op=5:=Decidable.not_not.1 j;rw[decide_eq_true j,Bool.true_and]at b;obtain⟨_,C,D⟩:=dU e (.inr j);obtain⟨r1,r2,_⟩:=nL e.ok (.inr j);have w:=congrArg List.length r2;simp only[JK,JV]at w;have v:=z N (kidD x 0) m C hm Oo Oo;refine af (endP e (a:=[x.n]) (y:=kidD x 0) (q:=row (kidD x 1)) r1 C.ok rfl) ?_;refine bC 1 (1+(row (kidD x 0)).length) ?_ (cS _) (h4:=by rw[List.length_map];omega);rw[du (p:=1) (n:=1+(row (kidD x 0)).length) r1 rfl rfl];cases o:rc (kidD x 0) m with
  |false=>
   rw[o]at v b;have b:false=h:=b;subst b;refine mg v ?_;exact kA9
  |true=>
   rw[o]at v;rw[o,Bool.true_and]at b;refine mg v ?_;refine vk ?_;refine ae (λu=>?_) (λu=>?_)
   ·have u:(i:Int)=(p:Int):=u
    rw[if_pos Oo]at b;refine aV ?_ (hb:=OK);refine bC (1+(row (kidD x 0)).length) (row x).length ?_ (cS _) (h1:=rfl) (h2:=by rw[List.length_map]) (h3:=Oo) (h4:=by rw[List.length_map];omega);rw[du (a:=x.n::row (kidD x 0)) (y:=kidD x 1) (q:=[]) (by rw[JD];exact r2) (by rw[JV];omega) (by rw[JV];omega)];refine vi ?_;refine au (i+1,N+1,kidD x 1,m++[1]) ⟨OS,D,hm.snoc Oo,by simp only[JK,List.length_singleton];omega,OS,by simp only;rw[show p+1-(i+1)=r by omega];exact b⟩ (sw 1000 39) (hm:=by show p+1-(i+1)<p+1-i;omega) (y':=⟨congrArg (λl=>some (SE.rw _ _ l)) (j3 iP m 1).symm,trivial⟩)
   ·have u:¬ (i:Int)=(p:Int):=u
    rw[if_neg Oo]at b;refine aV ?_ (hb:=OK);refine bC (1+(row (kidD x 0)).length) (row x).length ?_ (cS _) (h1:=rfl) (h2:=by rw[List.length_map]) (h3:=Oo) (h4:=by rw[List.length_map];omega);rw[du (a:=x.n::row (kidD x 0)) (y:=kidD x 1) (q:=[]) (by rw[JD];exact r2) (by rw[JV];omega) (by rw[JV];omega)];refine vi ?_;refine au (i+1,N+1,kidD x 1,m++[0]) ⟨OS,D,hm.snoc Oo,by simp only[JK,List.length_singleton];omega,OS,by simp only;rw[show p+1-(i+1)=r by omega];exact b⟩ (sw 1000 39) (hm:=by show p+1-(i+1)<p+1-i;omega) (y':=⟨congrArg (λl=>some (SE.rw _ _ l)) (j3 iP m 0).symm,trivial⟩)
 ·have t:¬ (i:Int)<=(p:Int):=t
  rw[show p+1-i=0 by omega]at b;have E:=z N x m e hm d s;rw[show rc x m=h from b]at E;refine af E ?_;exact eA9
theorem Kd(e:Ft (QB B) N x)(p:Nat)(w:p<=1000):VC prog 190 [ah (row x),pI p] (.bool (dy' p x)):=by
 generalize f:dy' p x=h;refine cA 36 [.tmp 4] τok func190 ?_;refine aj τok<|az τok (σ:=Nat×Int×Tr) [(1,_)] [] (λq=>[(0,vP (ah (row q.2.2))),(5,vI q.1)]) (λ_=>[]) (λq=>q.1<=p/\Ft (QB B) q.2.1 q.2.2/\dy' (p-q.1) q.2.2=h) (λq=>(row q.2.2).length) (0,N,x) ⟨KV _,e,f⟩ ?_
 clear f e
 rintro⟨i,N,x⟩ ⟨s,e,b⟩;simp only at s e b;have t:=aB e
 dsimp only
 refine aj τok<|vm (p:=ndP) 0 (aJ t) ?_;refine ae (λd=>?_) (λd=>?_)
 ·have d:x.n.op=4:=d
  obtain⟨_,k,u⟩:=dU e (.inl d);obtain⟨r1,r2,_⟩:=nL e.ok (.inl d);have l:=congrArg List.length r2;simp only[JK,JV]at l;have v:=aB k.head;refine af (endP e (a:=[x.n]) (y:=kidD x 0) (q:=row (kidD x 1)) r1 k.ok rfl) ?_;refine ae (λj=>?_) (λj=>?_)
  ·have j:(i:Int)=(p:Int):=j
   rw[show p-i=0 by omega]at b;simp only[dy']at b;rw[decide_eq_true d,Bool.true_and]at b;refine bC 1 (1+(row (kidD x 0)).length) ?_ (cS _) (h4:=by rw[List.length_map];omega);rw[du (p:=1) (n:=1+(row (kidD x 0)).length) r1 rfl rfl];refine af (tC k) ?_;refine vm (p:=ndP) 0 (aJ v) ?_;refine ae (λo=>?_) (λo=>?_)
   ·rw[decide_eq_true (p:=(headT (kidD x 0)).n.op=9) o]at b
    subst b;exact eA9
   ·rw[decide_eq_false (p:=(headT (kidD x 0)).n.op=9) o]at b
    subst b;exact eA9
  ·have j:¬ (i:Int)=(p:Int):=j
   obtain⟨r,hr⟩:∃r,p-i=r+1:=⟨p-i-1,Oo⟩
   rw[hr]at b;simp only[dy']at b;rw[decide_eq_true d,Bool.true_and]at b;refine bC (1+(row (kidD x 0)).length) (row x).length ?_ (cS _) (h1:=rfl) (h2:=by rw[List.length_map]) (h3:=Oo) (h4:=by rw[List.length_map];omega);rw[du (a:=x.n::row (kidD x 0)) (y:=kidD x 1) (q:=[]) (by rw[JD];exact r2) (by rw[JV];omega) (by rw[JV];omega)];refine vi ?_;exact au (i+1,N+1,kidD x 1) ⟨OS,u,by simp only;rw[show p-(i+1)=r by omega];exact b⟩ (hm:=by show (row (kidD x 1)).length<(row x).length;omega)
 ·have d:¬ x.n.op=4:=d
  have:h=false:=by
   rw[<- b];cases p-i<;>simp[dy',d]
  subst this;exact eA9
end
section
variable{B:aq}{pl:List Int}{g:Nat}{rc:RcF}{N:Int}{m:List Int}{x:Tr}
theorem Ke(hB:GoodB B)(T:qV B pl g rc)(hpl:pl.length<=1000)(w:Ft (QB B) N x)(s:x.n.op=11)(hm:Mk pl m)(a6:m.length+4*(row x).length<=100000)(hg:(row x).length<=g+1):VC prog 238 [pb B pl,ah (row x),i2 m] (.bool (kx B rc x m)):=by
 have X:=aB w;obtain⟨Y,u,a7,a5⟩:=gd w.ok s;obtain⟨i,e,s',ps,qi,hi,a8,he,I,hF⟩:=hB.fam (jK w.node' (.inr s)) (KJ _);have E:∀k,k<x.ks.length ->Ft (QB B) N (kidD x k)/\(row (kidD x k)).length<(row x).length:=λk u=>by
  have:=w.kidN k (by rw[Y];exact u) (b:=0) (by simp[kb,aY,s]);rw[Int.add_zero]at this;exact⟨this,(cj X (by rw[Y];exact u)).2.2⟩
 have F:∀k,k<x.ks.length ->row x=(x.n::rows (x.ks.take k))++(row (kidD x k)++rows (x.ks.drop (k+1)))/\(rows (x.ks.take (k+1))).length=(rows (x.ks.take k)).length+(row (kidD x k)).length/\(x.n::rows (x.ks.take k)).length+(row (kidD x k)).length<=(row x).length:=λk u=>by
  obtain⟨_,_,r1,r2⟩:=C8 w.ok s u;refine⟨r1,r2,?_⟩;have:=congrArg List.length r1;simp only[JK]at this;omega
 obtain⟨f0,l0⟩:=E 0 Oo;obtain⟨H,l1⟩:=E 1 Oo;obtain⟨r0,q0,m0⟩:=F 0 Oo;obtain⟨r1,q1,m1⟩:=F 1 Oo;have z0:(rows (x.ks.take 0)).length=0:=by simp[rows]
 rw[JV]at m0 m1;have q0:(rows (x.ks.take 1)).length=(rows (x.ks.take 0)).length+(row (kidD x 0)).length:=q0;have q1:(rows (x.ks.take 2)).length=(rows (x.ks.take 1)).length+(row (kidD x 1)).length:=q1;have Z:(rows (x.ks.take 2)).length=(row (kidD x 0)).length+(row (kidD x 1)).length:=Oo
 have a9:=w.len;have a':=H.nargs;have wh:=aB H.head;have a0:=db H.head.ok.pl;have eA:=ak rP ((argsT (kidD x 1)).map row);have b0:=ak row (argsT (kidD x 1));have eC:=ak aZ e.ctors;obtain⟨nb,b1⟩:∃k:Nat,x.n.b=(k:Int):=⟨x.n.b.toNat,Oo⟩
 generalize f:kx B rc x m=r;unfold kx at f;refine cA 108 [.tmp 6] τok func238 ?_;refine aC τok<|aC τok<|af (endP w (y:=kidD x 0) r0 f0.ok (by rw[JV];omega)) ?_;refine aC τok<|af (endP w (y:=kidD x 1) r1 H.ok (by rw[JV,JV];omega)) ?_;refine aC τok<|bC 1 ((x.n::rows (x.ks.take 0)).length+(row (kidD x 0)).length) ?_ (cS _) (h3:=by rw[JV];omega) (h4:=by rw[List.length_map,JV];omega);rw[du r0 (by rw[JV];omega) rfl];refine bC (1+(row (kidD x 0)).length) ((x.n::rows (x.ks.take 1)).length+(row (kidD x 1)).length) ?_ (cS _) (h1:=by rw[JV];omega) (h3:=by rw[JV];omega) (h4:=by rw[List.length_map,JV];omega);rw[du r1 (by rw[JV];omega) rfl];have o:=yq T (ys:=[kidD x 0,kidD x 1]) (L:=[[ah (row (kidD x 0))],[ah (row (kidD x 1))]]) rfl (N:=N) (λy hy=>by
  rcases List.mem_cons.1 hy with rfl|hy
  ·exact⟨f0,Oo,Oo⟩
  ·obtain rfl:=List.mem_singleton.1 hy
   exact⟨H,Oo,Oo⟩) Od hm
 have M:([kidD x 0,kidD x 1].all λy=>rc y m)=(rc (kidD x 0) m && rc (kidD x 1) m):=Od
 rw[M]at o;cases ha:(rc (kidD x 0) m && rc (kidD x 1) m)with
 |false=>
  rw[ha]at o f;have f:false=r:=f;subst f;refine af o ?_;exact kA9
 |true=>
 rw[ha]at o;rw[ha,Bool.true_and]at f;refine af o ?_;refine vk ?_;refine aC τok<|bC (1+(row (kidD x 0)).length) ((x.n::rows (x.ks.take 1)).length+(row (kidD x 1)).length) ?_ (cS _) (h1:=by rw[JV];omega) (h3:=by rw[JV];omega) (h4:=by rw[List.length_map,JV];omega);rw[du r1 (by rw[JV];omega) rfl];refine af (tC H) ?_;refine aC τok<|dB τok (σ:=Int) [(1,_),(2,_),(3,_),(8,_),(10,_)] [(3,_)] (λv=>[(11,vI v)]) (λ_=>[]) (λv=>v=if (headT (kidD x 1)).n.op=1 then bP m (headT (kidD x 1)).n.a else 0) ?_ ?_
 ·refine vm (p:=ndP) 0 (aJ wh) ?_
  refine ae (λj=>?_) (λj=>?_)
  ·have j:(headT (kidD x 1)).n.op=1:=j
   refine vm (p:=ndP) 0 (aJ wh) ?_;refine af (yp (m:=m) a0.2.2.1 Oo) ?_;exact au _ (if_pos j).symm
  ·have j:¬ (headT (kidD x 1)).n.op=1:=j
   exact au 0 (if_neg j).symm
 intro v hv;refine dB τok (σ:=Bool) [(1,_),(2,_),(3,_),(8,_)] [(3,_)] (λb=>[(12,vP (.bool b))]) (λ_=>[]) (λb=>b=nP (kidD x 1) m) ?_ ?_
 ·have U:nP (kidD x 1) m=(decide (v=2)||(decide (v=1) && decide ((argsT (kidD x 1)).length=0))):=by rw[hv];rfl
  refine ae (λj=>?_) (λj=>?_)
  ·exact au true (by rw[U,decide_eq_true (p:=v=2) j];rfl)
  refine ae (λz=>?_) (λz=>?_)
  ·refine ae (λO=>?_) (λO=>?_)
   ·have O:((((argsT (kidD x 1)).map row).map rP).length:Int)=0:=O
    exact au true (by rw[U,decide_eq_false (p:=v=2) j,decide_eq_true (p:=v=1) z,decide_eq_true Oo];rfl)
   ·have O:¬ ((((argsT (kidD x 1)).map row).map rP).length:Int)=0:=O
    exact au false (by rw[U,decide_eq_false (p:=v=2) j,decide_eq_true (p:=v=1) z,decide_eq_false Oo];rfl)
  ·exact au false (by rw[U,decide_eq_false (p:=v=2) j,decide_eq_false (p:=v=1) z];rfl)
 intro C a1;rw[<- a1,Y,hi]at f;rw[hi]at I;refine aj τok<|vm (p:=ndP) 0 (aJ X) ?_;refine vm (p:=aQ) i he ?_;refine vk ?_;refine vm (p:=ndP) 0 (aJ X) ?_;refine az τok (σ:=Nat) [(1,_),(2,_),(3,_),(12,_),(13,_),(77,_)] [(3,_)] (λk=>[(8,vI ((1+(rows (x.ks.take (2+k))).length:Nat):Int)),(78,vI k)]) (λ_=>[]) (λk=>k<=nb/\lE B rc i C m k (x.ks.drop (2+k))=r) (λk=>nb-k) 0 ⟨KV _,f⟩ ?_ (x1:=⟨congrArg (λn:Int=>some (vI n)) (by rw[JV,Z];omega),rfl,trivial⟩)
 clear f
 rintro k ⟨b2,d⟩;refine aj τok<|ae (λj=>?_) (λj=>?_)
 ·have j:(k:Int)<x.n.b:=j
  obtain⟨V,kL⟩:=E (2+k) Oo;obtain⟨W,kl,km⟩:=F (2+k) Oo;rw[JV]at km;have D:=(C8 w.ok s (k:=2+k) Oo).1;have a2:x.ks.drop (2+k)=kidD x (2+k)::x.ks.drop (2+k+1):=by
   rw[List.drop_eq_getElem_cons Oo];rw[gE]at D;rw[JB D]
  rw[a2]at d;simp only[lE,I]at d;refine af (endP w (y:=kidD x (2+k)) W V.ok (by rw[JV];omega)) ?_;cases C with
  |false=>
   rw[Bool.false_and,if_neg OO]at d;refine bC (1+(rows (x.ks.take (2+k))).length) ((x.n::rows (x.ks.take (2+k))).length+(row (kidD x (2+k))).length) ?_ (cS _) (h1:=rfl) (h3:=by rw[JV];omega) (h4:=by rw[List.length_map,JV];omega);rw[du W (by rw[JV];omega) rfl];have q:=yr T V hpl hm Oo Oo 0 Oo;cases h:fQ rc 0 (kidD x (2+k)) m with
   |false=>
    rw[h]at q d;have d:false=r:=d;subst d;refine af q ?_;exact kA9
   |true=>
    rw[h]at q;rw[h,Bool.true_and]at d;refine af q ?_;refine vk ?_;refine vi ?_;exact au (k+1) ⟨Oo,by rw[show 2+(k+1)=2+k+1 by omega];exact d⟩ (x:=⟨congrArg (λn:Int=>some (vI n)) (by rw[show 2+(k+1)=2+k+1 by omega,kl,JV];omega),rfl,trivial⟩)
  |true=>
   rw[Bool.true_and]at d;refine ae (λz=>?_) (λz=>?_)
   ·have z:(k:Int)<((e.ctors.map aZ).length:Int):=z
    rw[if_pos (decide_eq_true Oo)]at d;obtain⟨c,hc,_⟩:=ay (l:=e.ctors) (k:=k);have a3:e.ctors.getD k default=c:=by rw[List.getD_eq_getElem?_getD,hc];rfl
    rw[a3]at d;obtain⟨ga,go,S⟩:=hF.ct k c hc;have b3:c.args.length<=16:=by rw[S.args,List.length_map];exact S.la
    have a4:=ak (λt=>[ah t]) c.args;rw[<- a4]at d;refine vm (p:=aZ) k hc ?_;refine bC (1+(rows (x.ks.take (2+k))).length) ((x.n::rows (x.ks.take (2+k))).length+(row (kidD x (2+k))).length) ?_ (cS _) (h1:=rfl) (h3:=by rw[JV];omega) (h4:=by rw[List.length_map,JV];omega);rw[du W (by rw[JV];omega) rfl];have q:=yr T V hpl hm Oo Oo (c.args.map λt=>[ah t]).length Oo;cases h:fQ rc (c.args.map λt=>[ah t]).length (kidD x (2+k)) m with
    |false=>
     rw[h]at q d;have d:false=r:=d;subst d;refine af q ?_;exact kA9
    |true=>
     rw[h]at q;rw[h,Bool.true_and]at d;refine af q ?_;refine vk ?_;refine vi ?_;exact au (k+1) ⟨Oo,by rw[show 2+(k+1)=2+k+1 by omega];exact d⟩ (x:=⟨congrArg (λn:Int=>some (vI n)) (by rw[show 2+(k+1)=2+k+1 by omega,kl,JV];omega),rfl,trivial⟩)
   ·have z:¬ (k:Int)<((e.ctors.map aZ).length:Int):=z
    rw[if_neg (by simpa using (by omega:¬ k<e.ctors.length))]at d;refine bC (1+(rows (x.ks.take (2+k))).length) ((x.n::rows (x.ks.take (2+k))).length+(row (kidD x (2+k))).length) ?_ (cS _) (h1:=rfl) (h3:=by rw[JV];omega) (h4:=by rw[List.length_map,JV];omega);rw[du W (by rw[JV];omega) rfl];have q:=yr T V hpl hm Oo Oo 0 Oo;cases h:fQ rc 0 (kidD x (2+k)) m with
    |false=>
     rw[h]at q d;have d:false=r:=d;subst d;refine af q ?_;exact kA9
    |true=>
     rw[h]at q;rw[h,Bool.true_and]at d;refine af q ?_;refine vk ?_;refine vi ?_;exact au (k+1) ⟨Oo,by rw[show 2+(k+1)=2+k+1 by omega];exact d⟩ (x:=⟨congrArg (λn:Int=>some (vI n)) (by rw[show 2+(k+1)=2+k+1 by omega,kl,JV];omega),rfl,trivial⟩)
 ·have j:¬ (k:Int)<x.n.b:=j
  rw[JY Oo]at d;have d:true=r:=d;subst d;exact eA9
end
theorem Kf(m:List Int)(k:Nat):m.map iP++List.replicate k [PV.int .i64 0]=(m++List.replicate k 0).map iP:=by
 rw[List.map_append,List.map_replicate]
 rfl
section
variable{B:aq}{pl:List Int}
theorem Kg(hB:GoodB B)(hpl:∀p∈pl,0<=p/\p<=15)(a5:pl.length<=100):∀g,qV B pl g (ec B pl g):=by
 intro g
 induction g with
 |zero=>
  intro N x m _ _ _ h;have:=aS x;omega
 |succ g I=>
 intro N x m Y u a8 hg;have s:=Y.head;have wh:=aB s;have hn:=Y.nargs;have a9:=Y.len;have Z:=db s.ok.pl;have eA:=ak (λt=>[ah t]) ((argsT x).map row);have a':=ak row (argsT x);have eP:=ak iP pl;have b0:=aS (headT x);have E:∀y∈argsT x,Ft (QB B) N y/\m.length+4*(row y).length<=100000/\(row y).length<=g:=λy X=>by
  have:=eE' X;exact⟨Y.args y X,Oo,Oo⟩
 generalize b:ec B pl (g+1) x m=r;simp only[ec]at b
 generalize a6:ec B pl g=rc at *
 refine cA 156 [.tmp 6] τok func213 ?_;refine aj τok ?_;have o:=yq I (ys:=argsT x) rfl E Oo u;refine af (tC Y) ?_;cases ha:((argsT x).all λy=>rc y m)with
 |false=>
  rw[ha]at o b;have b:false=r:=b;subst b;refine af o ?_;exact eA9
 |true=>
 rw[ha]at o;rw[ha,Bool.true_and]at b;refine af o ?_;refine vm (p:=ndP) 0 (aJ wh) ?_
 generalize b1:headT x=h at *
 refine ae (λV=>?_) (λV=>?_)
 ·have V:h.n.op=1:=V
  rw[if_pos V]at b;refine af (yp (m:=m) Z.2.2.1 Oo) ?_;refine ae (λD=>?_) (λD=>?_)
  ·rw[if_pos D]at b
   subst b;exact eA9
  ·rw[if_neg D]at b
   obtain⟨j,hj,ej⟩:=(u.of Z.2.2.1).resolve_left D;rw[ej,show ((100:Int)+j-100).toNat=j by omega]at b;obtain⟨p,hp,_⟩:=ay (l:=pl) (k:=j) hj;obtain⟨p0,b2⟩:=hpl p (JQ hp);rw[List.getD_eq_getElem?_getD,hp]at b;have b:(decide (p<(argsT x).length) && iY (eI x p) m)=r:=b;rw[ej];refine vi ?_;refine vm (p:=iP) j hp ?_ Oo;refine ae (λv=>?_) (λv=>?_)
   ·have v:((((argsT x).map row).map λt=>[ah t]).length:Int)>p:=v
    rw[decide_eq_true Oo,Bool.true_and]at b;obtain⟨z,hz,_⟩:=ay (l:=argsT x) (k:=p.toNat);have e:eI x p=z:=by simp[eI,hz]
    rw[e]at b;have hl:=Kb (m:=m) (E z (JQ hz)).1 Oo;rw[b]at hl;refine vm (p:=rP) p.toNat (x:=row z) (by rw[JX,hz];rfl) ?_;refine af hl ?_;exact eA9
   ·have v:¬ ((((argsT x).map row).map λt=>[ah t]).length:Int)>p:=v
    rw[decide_eq_false Oo]at b;have b:false=r:=b;subst b;exact eA9
 have V:¬ h.n.op=1:=V;rw[if_neg V]at b;refine ae (λD=>?_) (λD=>?_)
 ·have D:h.n.op=11:=D
  rw[if_pos D]at b;have hM:=Ke hB I Oo s D u Oo Oo;rw[b]at hM;refine af hM ?_;exact eA9
 have D:¬ h.n.op=11:=D;rw[if_neg D]at b;refine ae (λv=>?_) (λv=>?_)
 ·have v:h.n.op=4:=v
  rw[if_pos (.inl v)]at b;obtain⟨_,M,T⟩:=dU s (.inl v);obtain⟨r1,r2,_⟩:=nL s.ok (.inl v);have F:=congrArg List.length r2;simp only[JK,JV]at F;have w:=I N (kidD h 0) m M u Oo Oo;have C:=I (N+1) (kidD h 1) (m++[0]) T (u.snoc (.inl rfl)) (by rw[JK,List.length_singleton];omega) Oo;unfold i2 at C;rw[j3]at C;refine af (endP s (a:=[h.n]) (y:=kidD h 0) (q:=row (kidD h 1)) r1 M.ok rfl) ?_;refine bC 1 (1+(row (kidD h 0)).length) ?_ (cS _) (h4:=by rw[List.length_map];omega);rw[du (p:=1) (n:=1+(row (kidD h 0)).length) r1 rfl rfl];cases hr:rc (kidD h 0) m with
  |false=>
   rw[hr]at w b;have b:false=r:=b;subst b;refine af w ?_;exact kA9
  |true=>
   rw[hr]at w;rw[hr,Bool.true_and]at b;rw[b]at C;refine af w ?_;refine bC (1+(row (kidD h 0)).length) (row h).length ?_ (cS _) (h1:=rfl) (h2:=by rw[List.length_map]) (h3:=Oo) (h4:=by rw[List.length_map];omega);rw[du (a:=h.n::row (kidD h 0)) (y:=kidD h 1) (q:=[]) (by rw[JD];exact r2) (by rw[JV];omega) (by rw[JV];omega)];refine eV (pd (pc u Oo) Oo) ?_;refine aV ?_ (hb:=OK);refine af C ?_;exact kA9
 have v:¬ h.n.op=4:=v;refine ae (λU=>?_) (λU=>?_)
 ·have U:h.n.op=5:=U
  rw[if_pos (.inr U)]at b;obtain⟨_,M,T⟩:=dU s (.inr U);obtain⟨r1,r2,_⟩:=nL s.ok (.inr U);have F:=congrArg List.length r2;simp only[JK,JV]at F;have w:=I N (kidD h 0) m M u Oo Oo;have C:=I (N+1) (kidD h 1) (m++[0]) T (u.snoc (.inl rfl)) (by rw[JK,List.length_singleton];omega) Oo;unfold i2 at C;rw[j3]at C;refine af (endP s (a:=[h.n]) (y:=kidD h 0) (q:=row (kidD h 1)) r1 M.ok rfl) ?_;refine bC 1 (1+(row (kidD h 0)).length) ?_ (cS _) (h4:=by rw[List.length_map];omega);rw[du (p:=1) (n:=1+(row (kidD h 0)).length) r1 rfl rfl];cases hr:rc (kidD h 0) m with
  |false=>
   rw[hr]at w b;have b:false=r:=b;subst b;refine af w ?_;exact kA9
  |true=>
   rw[hr]at w;rw[hr,Bool.true_and]at b;rw[b]at C;refine af w ?_;refine bC (1+(row (kidD h 0)).length) (row h).length ?_ (cS _) (h1:=rfl) (h2:=by rw[List.length_map]) (h3:=Oo) (h4:=by rw[List.length_map];omega);rw[du (a:=h.n::row (kidD h 0)) (y:=kidD h 1) (q:=[]) (by rw[JD];exact r2) (by rw[JV];omega) (by rw[JV];omega)];refine eV (pd (pc u Oo) Oo) ?_;refine aV ?_ (hb:=OK);refine af C ?_;exact kA9
 have U:¬ h.n.op=5:=U;rw[if_neg Oo]at b;refine ae (λS=>?_) (λS=>?_)
 ·have S:h.n.op=7:=S
  rw[if_pos S]at b;obtain⟨k3,M,T,f2⟩:=nM s S;obtain⟨_,_,_,r1,r2,r3⟩:=oQ s.ok S;have F:=congrArg List.length r3;simp only[JK,JV]at F;have h2:=I (N+1) (kidD h 2) (m++[0]) f2 (u.snoc (.inl rfl)) (by rw[JK,List.length_singleton];omega) Oo;unfold i2 at h2;rw[j3]at h2;have o:=yq I (ys:=[kidD h 0,kidD h 1]) (L:=[[ah (row (kidD h 0))],[ah (row (kidD h 1))]]) rfl (N:=N) (λy X=>by
   rcases List.mem_cons.1 X with rfl|X
   ·exact⟨M,Oo,Oo⟩
   ·obtain rfl:=List.mem_singleton.1 X
    exact⟨T,Oo,Oo⟩) Od u
  have a0:([kidD h 0,kidD h 1].all λy=>rc y m)=(rc (kidD h 0) m && rc (kidD h 1) m):=Od
  rw[a0]at o;refine af (endP s (a:=[h.n]) (y:=kidD h 0) (q:=row (kidD h 1)++row (kidD h 2)) r1 M.ok rfl) ?_;refine af (endP s (a:=h.n::row (kidD h 0)) (y:=kidD h 1) (q:=row (kidD h 2)) r2 T.ok OK) ?_;refine bC 1 (1+(row (kidD h 0)).length) ?_ (cS _) (h4:=by rw[List.length_map];omega);rw[du (p:=1) (n:=1+(row (kidD h 0)).length) r1 rfl rfl];refine bC (1+(row (kidD h 0)).length) ((h.n::row (kidD h 0)).length+(row (kidD h 1)).length) ?_ (cS _) (h1:=rfl) (h3:=by rw[JV];omega) (h4:=by rw[List.length_map,JV];omega);rw[du r2 (by rw[JV];omega) rfl];cases hr:(rc (kidD h 0) m && rc (kidD h 1) m)with
  |false=>
   rw[hr]at o b;have b:false=r:=b;subst b;refine af o ?_;exact kA9
  |true=>
   rw[hr]at o;rw[hr,Bool.true_and]at b;rw[b]at h2;refine af o ?_;refine bC ((h.n::row (kidD h 0)).length+(row (kidD h 1)).length) (row h).length ?_ (cS _) (h1:=rfl) (h2:=by rw[List.length_map]) (h3:=by rw[JV];omega) (h4:=by rw[List.length_map];omega);rw[du (a:=h.n::(row (kidD h 0)++row (kidD h 1))) (y:=kidD h 2) (q:=[]) (by rw[JD];exact r3) (by rw[JV,JV,JK];omega) (by rw[JV,JK];omega)];refine eV (pd (pc u Oo) Oo) ?_;refine aV ?_ (hb:=OK);refine af h2 ?_;exact kA9
 have S:¬ h.n.op=7:=S;rw[if_neg S]at b;refine ae (λH=>?_) (λH=>?_)
 ·have H:h.n.op=12:=H
  rw[if_pos H]at b;obtain⟨l1,l2,l3,l4,l5⟩:=dM s.ok H;have b3:=fK s.ok H;obtain⟨O,a1⟩:∃k,h.n.b.toNat=k:=⟨_,rfl⟩
  have b4:h.n.b=(O:Int):=Oo
  rw[a1]at b;have hz:=u.zeros O;refine eV (pd (pc u Oo) Oo) ?_;refine G0 O ?_;refine vk ?_;refine az τok (σ:=Nat) [(2,_),(3,_),(7,_),(125,_)] [(3,_)] (λi=>[(15,vI ((1+(rows (h.ks.take i)).length:Nat):Int)),(16,.c (.row 1000)),(126,vI i)]) (λi=>[(1000,.rw 230 1 ((m++List.replicate O 0).map iP))]) (λi=>i<=O/\ky rc m (m++List.replicate O 0) ((kidsT h).drop (2*i))=r) (λi=>O-i) 0 ⟨KV _,b⟩ ?_ (f:=sw 1000 123) (x1:=⟨congrArg (λn:Int=>some (vI n)) (by simp[rows]),rfl,rfl,trivial⟩) (y1:=⟨congrArg (λl=>some (SE.rw _ _ l)) (Kf m O),trivial⟩)
  clear b
  rintro i ⟨hi,d⟩
  dsimp only
  refine aj τok<|ae (λg7=>?_) (λg7=>?_)
  ·have g7:(i:Int)<h.n.b:=g7
   obtain⟨f,hf,a2,a3,b5,b6,b7,b8,a7,r1,r2,r3,r4⟩:=td s.ok H (i:=i) Oo;obtain⟨_,_,M,T⟩:=ib s H (i:=i) Oo;have a4:=congrArg List.length r1;simp only[JK,JV,JU]at a4;rw[r4]at d;simp only[ky]at d;have w:=I N (kidD h (2*i)) m M u Oo Oo;have C:=I (N+h.n.b) (kidD h (2*i+1)) (m++List.replicate O 0) T hz (by rw[JK,List.length_replicate];omega) Oo;have e1:(h.n::(rows (h.ks.take i)++[f.n])).length=1+(rows (h.ks.take i)).length+1:=OK
   have e2:(h.n::(rows (h.ks.take i)++(f.n::row (kidD h (2*i))))).length=1+(rows (h.ks.take i)).length+1+(row (kidD h (2*i))).length:=OK
   refine vi ?_;refine af (endP s (y:=kidD h (2*i)) r1 a2 (by rw[e1];omega)) ?_;refine af (endP s (y:=kidD h (2*i+1)) r2 a3 (by rw[e1,e2])) ?_;refine vi ?_;refine bC (1+(rows (h.ks.take i)).length+1) ((h.n::(rows (h.ks.take i)++[f.n])).length+(row (kidD h (2*i))).length) ?_ (cS _) (h1:=Oo) (h2:=rfl) (h3:=Oo) (h4:=by rw[List.length_map];omega);rw[du r1 e1.symm rfl];cases hr:rc (kidD h (2*i)) m with
   |false=>
    rw[hr]at w d;have d:false=r:=d;subst d;refine mg w ?_;exact kA9
   |true=>
   rw[hr]at w;rw[hr,Bool.true_and]at d;refine mg w ?_;refine bC ((h.n::(rows (h.ks.take i)++[f.n])).length+(row (kidD h (2*i))).length) ((h.n::(rows (h.ks.take i)++(f.n::row (kidD h (2*i))))).length+(row (kidD h (2*i+1))).length) ?_ (cS _) (h1:=rfl) (h2:=rfl) (h3:=Oo) (h4:=by rw[List.length_map];omega);rw[du r2 Oo rfl];cases W:rc (kidD h (2*i+1)) (m++List.replicate O 0)with
   |false=>
    rw[W]at C d;have d:false=r:=d;subst d;refine mg C ?_;exact kA9
   |true=>
   rw[W]at C;rw[W,Bool.true_and]at d;refine mg C ?_;refine vk ?_;refine vi ?_;exact au (i+1) ⟨Oo,d⟩ (x:=⟨congrArg (λn:Int=>some (vI n)) (by rw[r3];omega),rfl,rfl,trivial⟩)
  ·have g7:¬ (i:Int)<h.n.b:=g7
   rw[JY Oo]at d;have d:true=r:=d;subst d;exact eA9
 ·have H:¬ h.n.op=12:=H
  rw[if_neg H]at b;subst b;exact eA9
end
theorem D3(op:Int):∀(a b:List Tr) (x:Tr),dS op (a++b) x=dS op a (dS op b x)
 |[],_,_=>rfl
 |y::r,b,x=>by simp only[List.cons_append,dS,D3 op r b x]
theorem D4(a b:List Tr)(x:Tr):be (a++b) x=(be b x).bind (be a):=by
 unfold be;rw[D3]
 by_cases h:4096<(row (dS 4 b x)).length
 ·rw[if_pos h,if_pos]
  ·rfl
  ·rw[sN,JK]
   omega
 ·rw[if_neg h]
  rfl
section
variable{B:aq}(hS:dc B)(hr:cZ B=0)(hB:GoodB B)
include hS hr hB
theorem Kh{a:Int}(ha:bI B B.ents.length a=true):VC prog 61 [aW B,pI a] (cW (fE B a)):=by
 obtain⟨i,x,s,l,o,rfl,_,v,z,b⟩:=hB.fam ha (KJ _);obtain⟨C,D,E⟩:=b.ps_eq v;have f:=tB hS;rw[hr]at f;have F:=ak aQ B.ents;have d:=qP (known:=B.ents.length) (KJ _) (i:Int);rw[ha,show ((B.ents.length:Nat):Int)=((B.ents.map aQ).length:Int) by rw[F]]at d;have q:∀y∈l,Wf y:=λy j=>by
  obtain⟨k,r⟩:=JH j;have:=b.fp k y r;exact⟨this.ok,this.len⟩
 have t:∀y∈o,Wf y:=λy j=>by
  obtain⟨k,r⟩:=JH j;have:=b.fi k y r;exact⟨this.ok,this.len⟩
 have H:=b.lp;have I:=b.li;have L:fE B (i:Int)=be (l++o) s:=by
  rw[D4];unfold fE;rw[C,D,E]
 have w:=tz (x:=s) ⟨b.fs.ok,b.fs.len⟩ (ys:=l++o) (λy j=>by
  rcases List.mem_append.1 j with h|h
  ·exact q y h
  ·exact t y h) OK
 rw[<- L]at w;have u:VC prog 58 [pI 4,.sl (x.params.map rP++x.indices.map rP),ah x.sort] (cW (fE B (i:Int))):=by
  rw[<- List.map_append,b.params,b.indices,b.sort,<- List.map_append];exact w
 have M:=congrArg List.length b.params;have O:=congrArg List.length b.indices;rw[List.length_map]at M O;refine vf 39 [.tmp 4,.tmp 5] τok func61 ?_;refine af f ?_;refine vn ?_;refine af d ?_;refine vm i v ?_;refine va (p:=rP) ?_ (iW _);refine va (p:=rP) ?_ (iW _);refine vk ?_;refine af u ?_;cases S:fE B (i:Int)with
 |error e=>exact eA9
 |ok y=>exact eA9
end
theorem yt{n:Nat}{fr:Int}(b:n<=100)(d:0<=fr/\fr<=100):VO prog 111 [pI (fr+n-1),pI fr] 29 1 (((varsM n fr).map row).map rP):=by
 have ev:∀k,k<n ->(varsM n fr)[k]?=some (varX (fr+((n-1-k:Nat):Int))):=λk a=>by
  unfold varsM;rw[JX,List.getElem?_range a]
  rfl
 have e:(varsM n fr).length=n:=by simp[varsM]
 refine lu 20 [.tmp 4] τok func111 ?_;refine aj τok<|cV 5 1000 29 1 rfl rfl<|az τok (σ:=Nat) [(0,_),(1,_)] [] (λk=>[(5,.c (.row 1000)),(6,vI (fr+n-1-k))]) (λk=>[(1000,.rw 29 1 ((((varsM n fr).take k).map row).map rP))]) (λk=>k<=n) (λk=>n-k) 0 (KV _) ?_ (x1:=⟨rfl,by simp;rfl,trivial⟩);rintro k f;refine aj τok<|ae (λg=>?_) (λg=>?_)
 ·refine aV ?_ (hb:=OK)
  refine vi ?_;refine au (k+1) (by show k+1<=n;omega) (sw 1000 18) (x:=⟨rfl,congrArg (λz=>some (vI z)) Oo,trivial⟩) (y':=⟨congrArg (λl=>some (SE.rw _ _ l)) ?_,trivial⟩);rw[List.take_add_one,ev k Oo,Option.toList,List.map_append,List.map_append];refine congrArg (_++ ·) ?_;rw[show fr+((n-1-k:Nat):Int)=fr+n-1-k by omega]
  rfl
 ·exact⟨1000,rfl,congrArg (λl=>some (SE.rw 29 1 ((List.map row l).map rP))) (JG (l:=varsM n fr) (i:=k) Oo)⟩
theorem Ki{n:Nat}{fr:Int}(d:n<=100)(e:0<=fr/\fr<=100):∀y∈varsM n fr,Wf y:=λy a=>by
 unfold varsM at a;obtain⟨k,b,rfl⟩:=List.mem_map.1 a;have:=List.mem_range.1 b;exact⟨nH rfl (by show 0<=fr+((n-1-k:Nat):Int);omega) (by show fr+((n-1-k:Nat):Int)<=(1048576:Int);omega) rfl,by simp[varX,row,rows]⟩
theorem Kj{n:Nd}(a:aw n=true)(h:n.op=9 \/n.op=10):Wf (.mk n []):=by
 refine⟨⟨⟨?_,trivial⟩,?_⟩,by simp[row,rows]⟩
 ·simp only[cnt]
  rw[if_pos ⟨a,Oo,Oo⟩,if_neg Oo];have:bp n=0:=by unfold bp;rw[if_neg Oo,if_neg Oo,if_neg Oo,if_neg Oo]
  rw[this]
  rfl
 ·have:¬ n.op=2:=Oo
  simp[gE',eN',this]
theorem Kl{x:Tr}{ys:List Tr}{z:Tr}(a:Wf x)(b:∀y∈ys,Wf y)(h:aK x ys= .ok z):Wf z:=by
 unfold aK at h;split at h
 ·cases h
 ·rename_i d
  injection h with h
  subst h;exact⟨eF' ys x a.ok λy h=>(b y h).ok,Oo⟩
section
variable{B:aq}(hS:dc B)(hr:cZ B=0)(hB:GoodB B)
include hS hr hB
theorem Km{a b:Int}(ha:bI B B.ents.length a=true)(h0:0<=b)(hb:b<(aP B a).ctors.length):VC prog 62 [aW B,pI a,pI b] (cW (gh B a b)):=by
 have a0:=jS hB ha;obtain⟨i,x,s,d,qi,rfl,_,F,L,r⟩:=hB.fam ha (KJ _);rw[L]at hb;obtain⟨k,rfl⟩:∃k:Nat,b=(k:Int):=⟨b.toNat,Oo⟩
 obtain⟨c,M,_⟩:=ay (l:=x.ctors) (k:=k);obtain⟨f,v,q⟩:=r.ct k c M;obtain⟨e1,e2,e3⟩:=r.ps_eq F;obtain⟨e4,e5,e6⟩:=q.ag_eq F M;have w:=tB hS;rw[hr]at w;have eE:=ak aQ B.ents;have eC:=ak aZ x.ctors;have u:=qP (known:=B.ents.length) (KJ _) (i:Int);rw[ha,show ((B.ents.length:Nat):Int)=((B.ents.map aQ).length:Int) by rw[eE]]at u;have O:∀y∈d,Wf y:=λy o=>by
  obtain⟨k,S⟩:=JH o;have:=r.fp k y S;exact⟨this.ok,this.len⟩
 have T:∀y∈f,Wf y:=λy o=>by
  obtain⟨k,S⟩:=JH o;have:=q.fa k y S;exact⟨this.ok,this.len⟩
 have C:∀y∈v,Wf y:=λy o=>⟨(q.fo y o).ok,(q.fo y o).len⟩
 have a1:=r.lp;have a2:=q.la;have a3:=q.lo;have a4:=r.li;have l1:(x.params.map rP).length=d.length:=by rw[r.params];simp
 have l2:(c.args.map rP).length=f.length:=by rw[q.args];simp
 have l3:=congrArg List.length r.params;have l4:=congrArg List.length q.args;have l5:=congrArg List.length q.out;rw[List.length_map]at l3 l4 l5;have D:=Ki (n:=d.length) (fr:=(f.length:Int)) Oo Oo;have hv:=yt (n:=d.length) (fr:=(f.length:Int)) Oo Oo;have U:VO prog 111 [pI (((x.params.map rP).length:Int)+((c.args.map rP).length:Int)-1),pI ((c.args.map rP).length:Int)] 29 1 (((varsM d.length (f.length:Int)).map row).map rP):=by
  rw[l1,l2,Int.add_comm (d.length:Int)];exact hv
 have V:aw ⟨9,(i:Int),0⟩=true:=by simp[aw,aE];omega
 have E:=Kj V (.inl rfl);have W:=qO E (ys:=varsM d.length (f.length:Int)++v) (λy o=>by
  rcases List.mem_append.1 o with h|h
  ·exact D y h
  ·exact C y h) (by simp[varsM];omega)
 have j:VC prog 110 [ah (row (.mk ⟨9,(i:Int),0⟩ [])),.sl (((varsM d.length (f.length:Int)).map row).map rP++c.out.map rP)] (cW (aK (.mk ⟨9,(i:Int),0⟩ []) (varsM d.length (f.length:Int)++v))):=by
  rw[<- List.map_append,q.out,<- List.map_append];exact W
 have H:gh B (i:Int) (k:Int)=(aK (.mk ⟨9,(i:Int),0⟩ []) (varsM d.length (f.length:Int)++v)).bind λt=>be (d++f) t:=by
  unfold gh;rw[e1,e4,e5]
  congr 1
  funext t
  rw[D4]
 refine vf 87 [.tmp 6,.tmp 7] τok func62 ?_;refine af w ?_;refine vn ?_;refine af u ?_;refine vn ?_;refine vm i F ?_;refine vn ?_;refine vm i F ?_;refine vm k M ?_;have f1:=ak (λt=>[ah t]) x.params;have f2:=ak (λt=>[ah t]) c.args;refine vi ?_;refine vi ?_;refine eV U ?_;refine va (p:=rP) ?_ (iW _) (hb:=by simp[varsM];omega);cases I:aK (.mk ⟨9,(i:Int),0⟩ []) (varsM d.length (f.length:Int)++v)with
 |error e=>
  rw[I]at j H;rw[H];have h0:=hO I;subst h0;refine af j ?_;refine vk ?_;refine vy ?_;exact eA9
 |ok y=>
  rw[I]at j H;rw[H];have X:=Kl E (λy o=>by
   rcases List.mem_append.1 o with h|h
   ·exact D y h
   ·exact C y h) I
  have Y:=tz (x:=y) X (ys:=d++f) (λy o=>by
   rcases List.mem_append.1 o with h|h
   ·exact O y h
   ·exact T y h) OK
  have Z:VC prog 58 [pI 4,.sl (x.params.map rP++c.args.map rP),ah (row y)] (cW (be (d++f) y)):=by
   rw[<- List.map_append,r.params,q.args,<- List.map_append];exact Y
  refine af j ?_;refine vk ?_;refine vn ?_;refine va (p:=rP) ?_ (iW _);refine va (p:=rP) ?_ (iW _);refine af Z ?_;rw[show (Except.ok y:Except Int Tr).bind (λt=>be (d++f) t)=be (d++f) y from rfl];cases a5:be (d++f) y with
  |error e=>exact vk ⟨_,_,rfl,rfl,rfl⟩
  |ok z=>exact vk ⟨_,_,rfl,rfl,rfl⟩
end
theorem yu(n m:Nat):varsM (n+m) 0=varsM n (m:Int)++varsM m 0:=by
 unfold varsM;refine List.ext_getElem? λi=>?_;rcases Nat.lt_or_ge i n with h|h
 ·rw[List.getElem?_append_left (by simpa using h),JX,JX,List.getElem?_range h,List.getElem?_range Oo]
  exact congrArg (λz=>some (varX z)) Oo
 ·rw[List.getElem?_append_right (by simpa using h),JX,JX]
  simp only[List.length_map,List.length_range];rcases Nat.lt_or_ge i (n+m)with g|g
  ·rw[List.getElem?_range g,List.getElem?_range Oo]
   exact congrArg (λz=>some (varX z)) Oo
  ·rw[List.getElem?_eq_none (by simpa using g),List.getElem?_eq_none OK]
   rfl
theorem Kn{x:Tr}{ys:List Tr}{e:Int}(h:be ys x= .error e):e=9:=by
 unfold be at h;split at h
 ·injection h with h
  exact h.symm
 ·cases h
section
variable{B:aq}(hS:dc B)(hr:cZ B=0)(hB:GoodB B)
include hS hr hB
theorem Ko{N:Int}(h0:0<=N)(hN:N<=90000){a b:Int}(ha:bI B B.ents.length a=true)(b3:0<=b)(hb:b<(aP B a).ctors.length){D:List Tr}(hq:∀y∈D,Ft (QB B) N y)(Z:D.length=(gH B a).length){mo:Tr}(T:Ft (QB B) N mo):VC prog 113 [aW B,pI a,pI b,bw (D.map row),ah (row mo)] (cW (iE B a b D mo)):=by
 generalize d:iE B a b D mo=H;have b2:=jS hB ha;obtain⟨i,x,s,E,qi,rfl,_,hi,a2,U⟩:=hB.fam ha (KJ _);have b4:=hb;rw[a2]at hb;obtain⟨k,rfl⟩:∃k:Nat,b=(k:Int):=⟨b.toNat,Oo⟩
 obtain⟨c,hc,_⟩:=ay (l:=x.ctors) (k:=k);obtain⟨C,go,O⟩:=U.ct k c hc;obtain⟨e1,e2,e3⟩:=U.ps_eq hi;obtain⟨e4,e5,e6⟩:=O.ag_eq hi hc;have a3:=tB hS;rw[hr]at a3;have eE:=ak aQ B.ents;have eC:=ak aZ x.ctors;have Y:=qP (known:=B.ents.length) (KJ _) (i:Int);rw[ha,show ((B.ents.length:Nat):Int)=((B.ents.map aQ).length:Int) by rw[eE]]at Y;have a8:∀y∈C,Wf y:=λy o=>by
  obtain⟨k,hk⟩:=JH o;have:=O.fa k y hk;exact⟨this.ok,this.len⟩
 have a9:∀y∈go,Wf y:=λy o=>⟨(O.fo y o).ok,(O.fo y o).len⟩
 have b5:=U.lp;have b6:=O.la;have b7:=O.lo;have b8:=U.lc;have b9:=U.li;unfold iE at d;rw[e1,e4,e5]at d;rw[e1]at Z;have l1:(x.params.map rP).length=E.length:=by rw[U.params];simp
 have l2:(c.args.map rP).length=C.length:=by rw[O.args];simp
 have l3:=congrArg List.length U.params;have l4:=congrArg List.length O.args;have l5:=congrArg List.length O.out;rw[List.length_map]at l3 l4 l5;have f1:=ak (λt=>[ah t]) x.params;have f2:=ak (λt=>[ah t]) c.args;have f3:=ak (λt=>[ah t]) (D.map row);have f4:=ak row D;have f5:((D.map row).map rP).length=D.length:=Od
 have a0:Ft (QB B) ((E.length+C.length:Nat):Int) (.mk ⟨10,(i:Int),(k:Int)⟩ []):=nR (by simp[aw,aE];omega) (.inr rfl) (by
  simp only[QB,bV,aT];simp[ha,a2];omega)
 have a4:∀y∈varsM E.length (C.length:Int)++varsM C.length 0,Ft (QB B) ((E.length+C.length:Nat):Int) y:=λy o=>by
  rcases List.mem_append.1 o with o|o
  ·exact(kC (qk B) Oo Oo y o).mono Oo
  ·exact(kC (qk B) Oo Oo y o).mono Oo
 refine vf 170 [.tmp 10,.tmp 11] τok func113 ?_;refine af a3 ?_;refine vn ?_;refine af Y ?_;refine vn ?_;refine vm i hi ?_;refine vn ?_;refine vm i hi ?_;refine vn ?_;refine az τok (σ:=Nat) [(1,_),(2,_),(3,_),(4,_),(5,_)] [(5,_)] (λj=>[(13,vI j)]) (λ_=>[]) (λj=>j<=D.length) (λj=>D.length-j) 0 (KV _) ?_;rintro j g1;refine aj τok<|ae (λg=>?_) (λg=>?_)
 ·obtain⟨y,o,_⟩:=ay (l:=D) (k:=j)
  have S:=hq y (JQ o);have a5:=kI (row y) (by have:=S.len;omega);rw[lK ⟨S.ok,S.len⟩]at a5;refine vm (p:=rP) j (x:=row y) (by rw[JX,o];rfl) ?_;refine af a5 ?_;refine vn ?_;refine vi ?_;exact au (j+1) (by show j+1<=_;omega)
 clear g g1
 refine vm i hi ?_;refine vm k hc ?_;have a':=o4 ⟨T.ok,T.len⟩ (T.small Oo) (b:=((E.length+C.length:Nat):Int)) (fr:=0) Oo Oo;have hm:=T.lift (qk B) (b:=((E.length+C.length:Nat):Int)) Oo Oo Oo;have hv:=yt (n:=E.length+C.length) (fr:=0) Oo Oo;have M:=qO (x:=.mk ⟨10,(i:Int),(k:Int)⟩ []) ⟨a0.ok,a0.len⟩ (ys:=varsM (E.length+C.length) 0) (λy o=>by
  have:=a4 y (by rw[<- yu];exact o);exact⟨this.ok,this.len⟩) (by simp[varsM];omega)
 refine vi ?_;refine af (r:=.tup [ah (row (aH mo ((E.length+C.length:Nat):Int) 0)),pI 0]) ?_ ?_
 ·rw[f3,f4,f2,Z,l4,<- Int.natCast_add]
  exact a'
 refine vn ?_;refine vi ?_;refine vi ?_;refine eV (e:=29) (sz:=1) (l:=((varsM (E.length+C.length) 0).map row).map rP) ?_ ?_
 ·rw[f3,f4,f2,Z,l4,<- Int.natCast_add]
  rw[Int.zero_add]at hv;exact hv
 rw[<- yu]at d;cases h1:aK (.mk ⟨10,(i:Int),(k:Int)⟩ []) (varsM (E.length+C.length) 0)with
 |error er=>
  rw[h1]at M d;have e9:=hO h1;subst e9;have d:(.error 9:Except Int Tr)=H:=d;subst d;refine af M ?_;refine vy ?_;exact eA9
 |ok w=>
 rw[h1]at M d;refine af M ?_;refine vn ?_;have a1:=fL (qk B) a0 (λy o=>a4 y (by rw[<- yu];exact o)) h1;have a6:=qO (x:=aH mo ((E.length+C.length:Nat):Int) 0) ⟨hm.ok,hm.len⟩ (ys:=go++[w]) (λy o=>by
  rcases List.mem_append.1 o with h|h
  ·exact a9 y h
  ·obtain rfl:y=w:=by simpa using h
   exact⟨a1.ok,a1.len⟩) OK
 have F:VC prog 110 [ah (row (aH mo ((E.length+C.length:Nat):Int) 0)),.sl (c.out.map rP++[[ah (row w)]])] (cW (aK (aH mo ((E.length+C.length:Nat):Int) 0) (go++[w]))):=by
  rw[O.out];have e:(go.map row).map rP++[[ah (row w)]]=((go++[w]).map row).map rP:=by simp[rP]
  rw[e];exact a6
 refine va (p:=rP) ?_ (iW _);refine aV ?_;cases h2:aK (aH mo ((E.length+C.length:Nat):Int) 0) (go++[w])with
 |error er=>
  rw[h2]at F;have e9:=hO h2;subst e9;have d:(.error 9:Except Int Tr)=H:=by rw[<- d];exact(congrArg (λz=>Except.bind z λt=>(be C t).bind (cG D 0 E.length)) h2).symm
  subst d;refine af F ?_;refine vy ?_;exact eA9
 |ok t=>
 rw[h2]at F;have d:(be C t).bind (cG D 0 E.length)=H:=by rw[<- d];exact(congrArg (λz=>Except.bind z λt=>(be C t).bind (cG D 0 E.length)) h2).symm
 refine af F ?_;refine vn ?_;have ht:=fL (qk B) hm (λy o=>by
  rcases List.mem_append.1 o with o|o
  ·exact(O.up_o hi U.kind o).mono Oo
  ·obtain rfl:y=w:=by simpa using o
   exact a1.mono Oo) h2
 have a7:=tz (x:=t) ⟨ht.ok,ht.len⟩ (ys:=C) a8 Oo;have I:VC prog 58 [pI 4,.sl (c.args.map rP),ah (row t)] (cW (be C t)):=by
  rw[O.args];exact a7
 cases h3:be C t with
 |error er=>
  rw[h3]at I d;have e9:=Kn h3;subst e9;have d:(.error 9:Except Int Tr)=H:=d;subst d;refine af I ?_;refine vy ?_;exact eA9
 |ok u=>
 rw[h3]at I d;have d:cG D 0 E.length u=H:=d;refine af I ?_;refine vn ?_;have hu:=kB (qk B) (N:=N+E.length) (ht.mono Oo) (λk y o=>(O.up_a hi U.kind o).mono Oo) h3;refine vi ?_;refine az τok (σ:=Nat×Tr) [(3,_)] [] (λq=>[(19,vP (ah (row q.2))),(20,vI ((q.1:Int)-1))]) (λ_=>[]) (λq=>q.1<=D.length/\Ft (QB B) (N+q.1) q.2/\cG D 0 q.1 q.2=H) (λq=>q.1) (E.length,u) ⟨OS,hu,d⟩ ?_ (x1:=⟨rfl,congrArg (λz=>some (vI z)) OS,trivial⟩)
 clear d hu h3 I a7
 rintro⟨j,z⟩ ⟨hj,hz,f⟩;simp only at hj hz f;refine aj τok<|ae (λg=>?_) (λg=>?_)
 ·have g:(0:Int)<=(j:Int)-1:=g
  obtain⟨L,rfl⟩:∃L,j=L+1:=⟨j-1,Oo⟩
  simp only[cG]at f;obtain⟨p,hp,_⟩:=ay (l:=D) (k:=L);have b0:D.getD L (varX 0)=p:=by rw[List.getD_eq_getElem?_getD,hp];rfl
  rw[b0]at f;have V:=hq p (JQ hp);have W:=V.lift (qk B) (b:=(L:Int)) Oo Oo Oo;have b1:=o4 ⟨V.ok,V.len⟩ (V.small Oo) (b:=(L:Int)) (fr:=0) Oo Oo;have X:=tx (x:=z) ⟨hz.ok,hz.len⟩ (u:=aH p L 0) ⟨W.ok,W.len⟩ (W.small Oo) (v:=0) Oo;refine vm (p:=rP) L (x:=row p) (by rw[JX,hp];rfl) ?_ OS;refine af (r:=.tup [ah (row (aH p L 0)),pI 0]) ?_ ?_
  ·rw[show ((((L+1:Nat),z).1:Nat):Int)-1=(L:Int) by simp only;omega]
   exact b1
  refine vn ?_;cases hs:bk z (aH p L 0) 0 with
  |error er=>
   rw[hs]at X f;have e9:=iB hs;subst e9;have f:(.error 9:Except Int Tr)=H:=f;subst f;refine af X ?_;refine vy ?_;exact eA9
  |ok y=>
   rw[hs]at X f;have f:cG D 0 L y=H:=f;have S:=iy (qk B) (N:=N+L) (v:=0) (hz.mono Oo) W Oo Oo Oo Oo hs;refine af X ?_;refine vn ?_;refine vi ?_;exact au (L,y) ⟨OS,S.mono OS,f⟩ (x:=⟨rfl,congrArg (λz=>some (vI z)) OS,trivial⟩)
 ·obtain rfl:j=0:=by simp only at g;omega
  simp only[cG]at f;subst f;exact eA9
end
def ij(z:Int):Int:=if z=0 then -1 else if z=1 then -2 else if z=2 then -3 else z-100
def rM(m:List Int):List Int:=m.reverse.map ij
def lP(m:List Int):PV:=.sl ((rM m).map iP)
theorem tD(m:List Int):(rM m).length=m.length:=by simp[rM]
theorem Kq(m:List Int)(z:Int):rM (m++[z])=ij z::rM m:=by simp[rM]
theorem Kr(m:List Int)(z:Int)(k:Nat):rM (m++List.replicate k z)=List.replicate k (ij z)++rM m:=by simp[rM]
theorem D5(l:List Int):∀x∈l,(iP x).length=1/\∀q∈iP x,q.one=true:=λx _=>⟨rfl,λq a=>by
 obtain rfl:q=pI x:=by simpa[iP]using a
 rfl⟩
theorem Ks{m:List Int}{v:Nat}(h:v<m.length):(rM m)[v]?=some (ij (bP m v)):=by
 unfold rM bP;rw[if_neg Oo,JX,List.getElem?_reverse h,List.getD_eq_getElem?_getD,Int.toNat_natCast,gE]
 rfl
theorem tE(m:List Int)(hm:m.length<=1000000){v:Int}(a:0<=v):VC prog 163 [lP m,pI v] (pI (ij (bP m v))):=by
 obtain⟨j,rfl⟩:∃j:Nat,v=(j:Int):=⟨v.toNat,Oo⟩
 have b:=ak iP (rM m);have d:=tD m;refine vf 13 [.tmp 4] τok func163 ?_;refine ae (λg=>?_) (λg=>?_)
 ·refine vm j (Ks Oo) ?_
  exact eA9
 ·exact⟨_,_,rfl,rfl,by
   unfold bP;rw[if_pos Oo]
   rfl⟩
theorem tF(m:List Int)(hm:m.length<=1000000)(k:Nat)(a:k<=1000000)(z:Int):VC prog 117 [lP m,pI k,pI (ij z)] (lP (m++List.replicate k z)):=by
 have b:=tD m;refine cA 21 [.tmp 6] τok func117 ?_;refine aj τok<|cV 7 1000 3 1 rfl rfl<|az τok (σ:=Nat) [(0,_),(1,_),(2,_)] [] (λj=>[(7,.c (.row 1000)),(8,vI j)]) (λj=>[(1000,.rw 3 1 ((List.replicate j (ij z)).map iP))]) (λj=>j<=k) (λj=>k-j) 0 (KV _) ?_;rintro j d;refine aj τok<|ae (λg=>?_) (λg=>?_)
 ·refine aV ?_ (hb:=OK)
  refine vi ?_;exact au (j+1) (by show j+1<=k;omega) (sw 1000 17) (y':=⟨congrArg (λl=>some (SE.rw _ _ l)) (by rw[List.replicate_succ',List.map_append];rfl),trivial⟩)
 ·obtain rfl:j=k:=Oo
  refine va (p:=iP) ?_ (D5 _) (hb:=OK);exact⟨_,_,rfl,rfl,by unfold lP;rw[Kr,List.map_append];rfl⟩
theorem mk_of{pl m:List Int}(h:Mk pl m)(v:Int):bP m v=0 \/bP m v=1 \/bP m v=2 \/∃j:Nat,j<pl.length/\bP m v=100+j:=by
 unfold bP;split
 ·exact .inl rfl
 ·rename_i g
  rcases Nat.lt_or_ge (m.length-1-v.toNat) m.length with a|a
  ·rw[List.getD_eq_getElem?_getD,List.getElem?_eq_getElem a]
   exact h _ (List.getElem_mem a)
  ·rw[List.getD_eq_getElem?_getD,List.getElem?_eq_none a]
   exact .inl rfl
theorem D6{pl m:List Int}(h:Mk pl m)(v:Int):ij (bP m v)= -3↔bP m v=2:=by
 unfold ij;rcases mk_of h v with e|e|e|⟨j,_,e⟩<;>rw[e]
 ·decide
 ·decide
 ·decide
 ·constructor<;>intro q
  ·rw[if_neg Oo,if_neg Oo,if_neg Oo]at q;omega
  ·omega
theorem D7{pl m:List Int}(h:Mk pl m)(v:Int):ij (bP m v)= -2↔bP m v=1:=by
 unfold ij;rcases mk_of h v with e|e|e|⟨j,_,e⟩<;>rw[e]
 ·decide
 ·decide
 ·decide
 ·constructor<;>intro q
  ·rw[if_neg Oo,if_neg Oo,if_neg Oo]at q;omega
  ·omega
theorem Kt{pl m:List Int}(h:Mk pl m)(v:Int):(0<=ij (bP m v)↔100<=bP m v)/\(100<=bP m v ->ij (bP m v)=bP m v-100/\∃j:Nat,j<pl.length/\bP m v=100+j):=by
 unfold ij;rcases mk_of h v with e|e|e|⟨j,a,e⟩<;>rw[e]
 ·exact⟨OO,λh=>Oo⟩
 ·exact⟨OO,λh=>Oo⟩
 ·exact⟨OO,λh=>Oo⟩
 ·rw[if_neg Oo,if_neg Oo,if_neg Oo]
  exact⟨Oo,λ_=>⟨rfl,j,a,rfl⟩⟩
theorem tG{x:Tr}(d:Wf x)(h1:x.n.op=1):0<=x.n.a/\kidsT x=[]:=by
 obtain⟨n,e⟩:=x;have h1:n.op=1:=h1;obtain⟨a,b,c⟩:=d.ft.var_lt h1;exact⟨a,by subst c;simp[kidsT]⟩
theorem D8{x:Tr}(l:Wf x){pl m:List Int}(j:Mk pl m)(hm:m.length<=1000000):VC prog 164 [bB x,lP m] (.bool (iY x m)):=by
 refine cA 25 [.tmp 4] τok func164 ?_;refine aj τok<|az τok (σ:=Tr) [(1,_),(2,_)] [] (λ_=>[]) (λq=>[(2,.st 0 111 ((dT q).map .p))]) (λq=>Wf q/\headT q=headT x) (λq=>(row q).length) x ⟨l,rfl⟩ ?_;rintro z ⟨k,d⟩;refine aj τok<|ae (λg=>?_) (λg=>?_)
 ·obtain⟨f,a,o,r,u,i,s,t⟩:=lM k g
  refine vt 0 (by rw[o];rfl) ?_;exact au f ⟨r,by rw[<- i];exact d⟩
 ·obtain⟨i,s⟩:=gn g
  rw[i]at d;refine ae (λe=>?_) (λe=>?_)
  ·refine af (tE m hm (tG k e).1) ?_
   refine ae (λb=>?_) (λb=>?_)
   ·have b:=(D6 j _).1 b
    exact⟨_,_,rfl,rfl,by unfold iY;rw[<- d,decide_eq_true e,decide_eq_true b];rfl⟩
   ·have b:¬ bP m z.n.a=2:=λh=>b ((D6 j _).2 h)
    exact⟨_,_,rfl,rfl,by unfold iY;rw[<- d,decide_eq_true e,decide_eq_false b];rfl⟩
  ·exact⟨_,_,rfl,rfl,by unfold iY;rw[<- d,decide_eq_false e];rfl⟩
theorem gM{x:Tr}(a:Wf x)(h:x.n.op=4 \/x.n.op=5):kidsT x=[kidD x 0,kidD x 1]/\Wf (kidD x 0)/\Wf (kidD x 1)/\(row (kidD x 0)).length<(row x).length/\(row (kidD x 1)).length<(row x).length:=by
 obtain⟨_,_,e,_⟩:=nL a.ok h;have b:(kidsT x)[0]?=some (kidD x 0):=by rw[e];rfl
 have d:(kidsT x)[1]?=some (kidD x 1):=by rw[e];rfl
 exact⟨e,a.kid b,a.kid d,hH a.ok b,hH a.ok d⟩
theorem Ku{x:Tr}(t:Wf x)(p:Nat)(L:p<=1000):VC prog 115 [bB x,pI p] (.bool (dy' p x)):=by
 refine cA 41 [.tmp 4] τok func115 ?_;refine aj τok<|az τok (σ:=Nat×Tr) [(1,_),(2,_)] [] (λq=>[(5,vI q.1)]) (λq=>[(2,.st 0 111 ((dT q.2).map .p))]) (λq=>q.1<=p/\Wf q.2/\dy' (p-q.1) q.2=dy' p x) (λq=>p-q.1) (0,x) ⟨KV _,t,rfl⟩ ?_;rintro⟨j,z⟩ ⟨v,h,d⟩;simp only at v h d;refine aj τok<|ae (λg=>?_) (λg=>?_)
 ·simp only at g
  obtain⟨c,w⟩:∃c,p-j=c+1:=⟨p-j-1,Oo⟩
  rw[w]at d;simp only[dy']at d;refine ae (λb=>?_) (λb=>?_)
  ·obtain⟨e,r,s,C,D⟩:=gM h (.inl b)
   rw[decide_eq_true b,Bool.true_and]at d;refine vt 1 (by rw[e];rfl) ?_;refine vi ?_;exact au (j+1,kidD z 1) ⟨OS,s,by rw[<- d,show p-(j+1)=c by omega]⟩
  ·refine vy (p:=z.n.op≠4) ?_ b
   exact⟨_,_,rfl,rfl,by rw[<- d,decide_eq_false b];rfl⟩
 ·simp only at g
  obtain rfl:j=p:=Oo
  rw[Nat.sub_self]at d;simp only[dy']at d;refine ae (λb=>?_) (λb=>?_)
  ·have b:z.n.op≠4:=b
   exact⟨_,_,rfl,rfl,by rw[<- d,decide_eq_false b];rfl⟩
  have b:z.n.op=4:=Classical.not_not.1 b;obtain⟨e,r,s,C,D⟩:=gM h (.inl b);rw[decide_eq_true b,Bool.true_and]at d;refine vt 0 (by rw[e];rfl) ?_;refine az τok (σ:=Tr) [(1,_),(2,_)] [] (λ_=>[]) (λq=>[(2,.st 0 111 ((dT q).map .p))]) (λq=>Wf q/\headT q=headT (kidD z 0)) (λq=>(row q).length) (kidD z 0) ⟨r,rfl⟩ ?_;rintro u ⟨q1,i⟩;refine aj τok<|ae (λk=>?_) (λk=>?_)
  ·obtain⟨f,a,E,F,M,l,H,I⟩:=lM q1 k
   refine vt 0 (by rw[E];rfl) ?_;exact au f ⟨F,by rw[<- l];exact i⟩
  ·obtain⟨l,H⟩:=gn k
   rw[l]at i;rw[<- i]at d;refine ae (λo=>?_) (λo=>?_)
   ·exact⟨_,_,rfl,rfl,by rw[<- d,decide_eq_true o];rfl⟩
   ·exact⟨_,_,rfl,rfl,by rw[<- d,decide_eq_false o];rfl⟩
theorem tH{α:Type}{p q:α ->Bool}{l:List α}(h:∀y∈l,p y=q y):l.all p=l.all q:=by
 induction l with
 |nil=>rfl
 |cons y r a=>
  rw[List.all_cons,List.all_cons,h y Od,a λz b=>h z (by simp[b])]
theorem nW(N:Nat):∀{x:Tr},Wf x ->(row x).length<=N ->(Wf (headT x)/\(headT x).n.op≠6/\(row (headT x)).length<=(row x).length)/\∀y∈argsT x,Wf y/\(row y).length<(row x).length:=by
 induction N with
 |zero=>intro x d h;have:=aS x;omega
 |succ N o=>
  intro x d h
  by_cases e:x.n.op=6
  ·obtain⟨f,a,q,r,s,i,k,w⟩:=lM d e
   obtain⟨⟨t,u,z⟩,v⟩:=o r Oo;have l:=hH d.ok (j:=1) (y:=a) (by rw[q];rfl);rw[i,k];refine⟨⟨t,u,Oo⟩,λy b=>?_⟩;rcases List.mem_append.1 b with b|b
   ·have:=v y b
    exact⟨this.1,Oo⟩
   ·obtain rfl:y=a:=by simpa using b
    exact⟨s,l⟩
  ·obtain⟨i,k⟩:=gn e
   rw[i,k];exact⟨⟨d,e,KJ _⟩,Od⟩
def jq(B:aq)(pl:List Int)(rc:RcF)(x f:Tr)(m:List Int):Bool:=
 if f.n.op=1 then (if bP m f.n.a<100 then true else decide (pl.getD (bP m f.n.a-100).toNat 0<(argsT x).length) && iY (eI x (pl.getD (bP m f.n.a-100).toNat 0)) m)
 else if f.n.op=11 then kx B rc f m
 else if f.n.op=4 \/f.n.op=5 then rc (kidD f 0) m && rc (kidD f 1) (m++[0])
 else if f.n.op=7 then (rc (kidD f 0) m && rc (kidD f 1) m) && rc (kidD f 2) (m++[0])
 else if f.n.op=12 then ky rc m (m++List.replicate f.n.b.toNat 0) (kidsT f)
 else true
theorem yv(B:aq)(pl:List Int)(g:Nat)(x:Tr)(m:List Int):ec B pl (g+1) x m=((argsT x).all (λy=>ec B pl g y m) && jq B pl (ec B pl g) x (headT x) m):=rfl
section
variable{B:aq}{pl:List Int}{rc rc':RcF}{R:Nat}
theorem D9(h:∀y m,Wf y ->(row y).length<R ->rc y m=rc' y m):∀(n:Nat) (t:Tr) (m:List Int),Wf t ->(row t).length<R ->fQ rc n t m=fQ rc' n t m
 |0,t,m,b,hl=>h t m b hl
 |n+1,t,m,b,hl=>by
  simp only[fQ]
  by_cases a:t.n.op=5
  ·obtain⟨_,w0,d,e,f⟩:=gM b (.inr a)
   rw[if_pos a,if_pos a,h _ _ w0 Oo,D9 h n _ _ d Oo]
  ·rw[if_neg a,if_neg a,h _ _ b hl]
theorem Ea(h:∀y m,Wf y ->(row y).length<R ->rc y m=rc' y m)(a:Int)(d:Bool)(m:List Int):∀(l:List Tr) (k:Nat),(∀y∈l,Wf y/\(row y).length<R) ->lE B rc a d m k l=lE B rc' a d m k l
 |[],k,_=>rfl
 |t::r,k,hl=>by
  simp only[lE];rw[D9 h _ t m (hl t Od).1 (hl t Od).2,Ea h a d m r (k+1) λy b=>hl y (by simp[b])]
theorem Eb(h:∀y m,Wf y ->(row y).length<R ->rc y m=rc' y m)(m m':List Int):∀(l:List Tr),(∀y∈l,Wf y/\(row y).length<R) ->ky rc m m' l=ky rc' m m' l
 |[],_=>rfl
 |[_],_=>rfl
 |t::b::r,hl=>by
  simp only[ky];rw[h t m (hl t Od).1 (hl t Od).2,h b m' (hl b Od).1 (hl b Od).2,Eb h m m' r λy a=>hl y (by simp[a])]
theorem Kv(h:∀y m,Wf y ->(row y).length<R ->rc y m=rc' y m){f:Tr}(a:Wf f)(b:f.n.op=11)(hl:(row f).length<=R)(m:List Int):kx B rc f m=kx B rc' f m:=by
 have d:=gd a.ok b;have e:2<=(kidsT f).length:=by rw[d.1];omega
 obtain⟨_,i,o⟩:=cj a (k:=0);obtain⟨_,j,q⟩:=cj a (k:=1);unfold kx;rw[h _ _ i Oo,h _ _ j Oo,Ea h _ _ _ _ _ λy l=>by
  have:=sY a y (List.mem_of_mem_drop l);exact⟨this.1,Oo⟩]
theorem Ec(h:∀y m,Wf y ->(row y).length<R ->rc y m=rc' y m)(x:Tr){f:Tr}(i:Wf f)(hl:(row f).length<=R)(m:List Int):jq B pl rc x f m=jq B pl rc' x f m:=by
 unfold jq
 by_cases l:f.n.op=1
 ·rw[if_pos l,if_pos l]
 rw[if_neg l,if_neg l]
 by_cases a:f.n.op=11
 ·rw[if_pos a,if_pos a,Kv h i a hl]
 rw[if_neg a,if_neg a]
 by_cases b:f.n.op=4 \/f.n.op=5
 ·obtain⟨_,o,q,r,s⟩:=gM i b
  rw[if_pos b,if_pos b,h _ _ o Oo,h _ _ q Oo]
 rw[if_neg b,if_neg b]
 by_cases j:f.n.op=7
 ·obtain⟨e,_⟩:=oQ i.ok j
  have t:(kidsT f).length=3:=by rw[e];rfl
  obtain⟨_,o,r⟩:=cj i (k:=0);obtain⟨_,q,s⟩:=cj i (k:=1);obtain⟨_,u,w⟩:=cj i (k:=2);rw[if_pos j,if_pos j,h _ _ o Oo,h _ _ q Oo,h _ _ u Oo]
 rw[if_neg j,if_neg j]
 by_cases d:f.n.op=12
 ·rw[if_pos d,if_pos d,Eb h _ _ _ λy v=>by
   have:=sY i y v;exact⟨this.1,Oo⟩]
 rw[if_neg d,if_neg d]
end
theorem yw(B:aq)(pl:List Int):∀(g a:Nat) (x:Tr) (m:List Int),Wf x ->(row x).length<=g ->(row x).length<=a ->ec B pl g x m=ec B pl a x m:=by
 intro g
 induction g with
 |zero=>intro a x m _ h;have:=aS x;omega
 |succ g e=>
  intro a x m f h k;cases a with
  |zero=>have:=aS x;omega
  |succ a=>
   obtain⟨⟨i,l,j⟩,d⟩:=nW _ f (KJ _);rw[yv,yv,tH λy b=>e a y m (d y b).1 (by have:=(d y b).2;omega) (by have:=(d y b).2;omega),Ec (R:=(row x).length) (λy m b o=>e a y m b Oo Oo) x i j]
def dE(B:aq)(pl:List Int)(x:Tr)(m:List Int):Bool:=ec B pl (row x).length x m
theorem qW(B:aq)(pl:List Int){x:Tr}(d:Wf x)(m:List Int):dE B pl x m=((argsT x).all (λy=>dE B pl y m) && jq B pl (dE B pl) x (headT x) m):=by
 obtain⟨⟨e,i,f⟩,b⟩:=nW _ d (KJ _);obtain⟨g,h⟩:∃g,(row x).length=g+1:=⟨(row x).length-1,by have:=aS x;omega⟩
 unfold dE;rw[h,yv,tH (q:=λy=>ec B pl (row y).length y m) λy a=>yw B pl _ _ y m (b y a).1 (by have:=(b y a).2;omega) (KJ _),Ec (R:=(row x).length) (λy m a j=>yw B pl _ (row y).length y m a Oo (KJ _)) x e f]
def lQ(rc:RcF)(n:Nd)(m:List Int):Nat ->List Tr ->Bool
 |_,[]=>true
 |i,t::r=>rc t (m++List.replicate (kb n i).toNat 0) && lQ rc n m (i+1) r
theorem Ed(rc:RcF){n:Nd}(a:n.op=12)(m:List Int):∀(l:List Tr) (i:Nat),i%2=0 ->l.length%2=0 ->ky rc m (m++List.replicate n.b.toNat 0) l=lQ rc n m i l
 |[],_,_,_=>rfl
 |[_],_,_,h=>by simp at h
 |t::b::r,i,h,hl=>by
  have d:kb n i=0:=by unfold kb;rw[if_pos a,if_neg Oo]
  have e:kb n (i+1)=n.b:=by unfold kb;rw[if_pos a,if_pos Oo]
  simp only[ky,lQ];rw[Ed rc a m r (i+1+1) Oo (by simp only[JV]at hl;omega),d,e];simp[Bool.and_assoc]
def kM(x:Tr)(m:List Int):Bool:=decide ((headT x).n.op=1) && decide (100<=bP m (headT x).n.a)
section
variable{B:aq}{pl:List Int}{x:Tr}{m:List Int}
theorem Kw(b:Wf x)(h:kM x m=true):dE B pl x m=((decide (pl.getD (bP m (headT x).n.a-100).toNat 0<(argsT x).length) && iY (eI x (pl.getD (bP m (headT x).n.a-100).toNat 0)) m) && (argsT x).all (λy=>dE B pl y m)):=by
 unfold kM at h;simp only[Bool.and_eq_true,decide_eq_true_eq]at h;rw[qW B pl b];unfold jq;rw[if_pos h.1,if_neg Oo,Bool.and_comm]
theorem Kx(a:Wf x)(h:x.n.op=11):dE B pl x m=kx B (dE B pl) x m:=by
 obtain⟨b,d⟩:=gn (x:=x) Oo;rw[qW B pl a,b,d];unfold jq;rw[if_neg Oo,if_pos h]
 rfl
theorem Ky(j:Wf x)(h:kM x m=false)(l:x.n.op≠11):dE B pl x m=lQ (dE B pl) x.n m 0 (kidsT x):=by
 by_cases o:x.n.op=6
 ·obtain⟨f,a,w,z,E,s,v,F⟩:=lM j o
  have t:kb x.n 0=0:=by simp[kb,aY,o]
  have u:kb x.n 1=0:=by simp[kb,aY,o]
  rw[w];simp only[lQ];rw[t,u,qW B pl j,qW B pl z,v,s,List.all_append];have C:jq B pl (dE B pl) x (headT f) m=jq B pl (dE B pl) f (headT f) m:=by
   unfold jq
   by_cases d:(headT f).n.op=1
   ·have:bP m (headT f).n.a<100:=by
     unfold kM at h;rw[s,decide_eq_true d,Bool.true_and,decide_eq_false_iff_not]at h;omega
    rw[if_pos d,if_pos d,if_pos this,if_pos this]
   ·rw[if_neg d,if_neg d]
  rw[C];simp
  generalize (argsT f).all _=p
  generalize jq _ _ _ _ _ _=q
  generalize dE B pl a m=r
  cases p<;>cases q<;>cases r<;>rfl
 obtain⟨s,v⟩:=gn o;rw[qW B pl j,s,v];unfold jq;rw[List.all_nil,Bool.true_and]
 by_cases d:x.n.op=1
 ·have:bP m x.n.a<100:=by
   unfold kM at h;rw[s,decide_eq_true d,Bool.true_and,decide_eq_false_iff_not]at h;omega
  rw[if_pos d,if_pos this,(tG j d).2]
  rfl
 rw[if_neg d,if_neg l]
 by_cases i:x.n.op=4 \/x.n.op=5
 ·obtain⟨e,_⟩:=gM j i
  have t:kb x.n 0=0:=by unfold kb;rw[if_neg Oo];simp[aY]
  have u:kb x.n 1=1:=by unfold kb;rw[if_neg Oo];simp[aY];omega
  rw[if_pos i,e];simp only[lQ];rw[t,u];simp
 rw[if_neg i]
 by_cases k:x.n.op=7
 ·obtain⟨e,_⟩:=oQ j.ok k
  have t:kb x.n 0=0:=by simp[kb,aY,k]
  have u:kb x.n 1=0:=by simp[kb,aY,k]
  have D:kb x.n 2=1:=by simp[kb,aY,k]
  rw[if_pos k,e];simp only[lQ];rw[t,u,D];simp[Bool.and_assoc]
 rw[if_neg k]
 by_cases b:x.n.op=12
 ·rw[if_pos b]
  exact Ed _ b m _ 0 rfl (by have:=fK j.ok b;omega)
 rw[if_neg b];have w:=(oZ j.ok).1;have:kidsT x=[]:=by
  refine List.length_eq_zero_iff.1 ?_;have H:bq x.n=0:=by simp[bq,i,o,k,l,b]
  omega
 rw[this]
 rfl
end
end Go.Proofs.YtjnjbghlemiklaaGreat
namespace Go.Wx
section
variable{P:Program}{τ:Tau}{n:Nat}{A:AS}{K:Exit ->AS ->Prop}{c:Operand}{x y:Code}
theorem yx(i:VCode P n x A K)(h:rd A c (λa=>a= .c (.p (.bool true))):=by rfl):VCode P n (.cond c x y) A K:=by
 refine VCode.mk λj X k s w d=>?_;obtain⟨a,l,o,q⟩:=bM h;subst q;have e:=i.run j X k s w d;obtain⟨C,ρ,b⟩:=d;obtain⟨_,v,r,hr⟩:=b.op (Agr.rfl' A [c]) Od l o;have hr:RV C (.bool true) v:=hr;cases hr;unfold EvCode at e ⊢;exact λa f=>wp_cond_true (f.eval r) (e a f)
theorem yy(i:VCode P n y A K)(h:rd A c (λa=>a= .c (.p (.bool false))):=by rfl):VCode P n (.cond c x y) A K:=by
 refine VCode.mk λj X k s w d=>?_;obtain⟨a,l,o,q⟩:=bM h;subst q;have e:=i.run j X k s w d;obtain⟨C,ρ,b⟩:=d;obtain⟨_,v,r,hr⟩:=b.op (Agr.rfl' A [c]) Od l o;have hr:RV C (.bool false) v:=hr;cases hr;unfold EvCode at e ⊢;exact λa f=>wp_cond_false (f.eval r) (e a f)
end
end Go.Wx
namespace Go.Proofs.YtjnjbghlemiklaaGreat
open Go.Wx Cd Tm Lv
theorem qX(l:List Tr):∀x∈l,(trP x).length=6/\∀q∈trP x,q.one=true:=λx _=>by
 rw[jO];refine⟨rfl,λq a=>?_⟩;simp only[eJ,JJ,JZ,or_false]at a;rcases a with rfl|rfl|rfl|rfl|rfl|rfl<;>rfl
theorem yz{l:List Tr}{i:Nat}{k:List PV ->Prop}{y:Tr}(a:l[i]?=some y)(b:k (dT y)):oq (l.map trP) i k:=uD (dT y) (by rw[JX,a];exact congrArg some (jO y)) b
def Ee(B:aq)(pl:List Int)(R:Nat):Prop:=∀(y:Tr) (N:Int) (m:List Int),Ft (QB B) N y ->(row y).length<R ->Mk pl m ->m.length+4*(row y).length<=100000 ->VC prog 116 [aW B,bB y,lP m,.sl (pl.map iP)] (.bool (dE B pl y m))
theorem Ef{α:Type}{p:α ->Bool}{l:List α}{i:Nat}{y:α}(h:l[i]?=some y):(l.drop i).all p=(p y && (l.drop (i+1)).all p):=by
 have a:=aI h;rw[List.drop_eq_getElem_cons a,List.all_cons];rw[List.getElem?_eq_getElem a]at h;rw[JB h]
theorem Kz{s:Tr}(i:Wf s)(m:List Int):nP s m=(iY s m||(decide (s.n.op=1) && decide (bP m s.n.a=1))):=by
 unfold nP iY
 by_cases e:s.n.op=6
 ·obtain⟨f,a,j,k,l,h,d,o⟩:=lM i e
  rw[decide_eq_false (show ¬ s.n.op=1 by omega),decide_eq_false (show ¬ (argsT s).length=0 by rw[d];simp)]
  by_cases b:(headT s).n.op=1
  ·simp[b]
  ·simp[b]
 ·obtain⟨h,d⟩:=gn e
  rw[h,d]
  by_cases b:s.n.op=1
  ·simp[b]
  ·simp[b]
section
variable{B:aq}{pl:List Int}(hB:GoodB B)(hpl:∀p∈pl,0<=p/\p<=15)
include hB hpl
theorem KA{x:Tr}{N:Int}(F:Ft (QB B) N x)(I:Ee B pl (row x).length){m:List Int}(E:Mk pl m)(b5:m.length+4*(row x).length<=100000):VC prog 116 [aW B,bB x,lP m,.sl (pl.map iP)] (.bool (dE B pl x m)):=by
 have v:=aB F;have b4:=F.len;have b6:=aS x;refine cA 218 [.tmp 8] τok func116 ?_;refine aC τok<|aC τok<|aC τok<|cV 10 1000 111 6 rfl rfl<|dB τok (σ:=Unit) [(2,_),(3,_),(4,_),(5,_)] [(4,_),(5,_)] (λ_=>[(9,.c (.ptr 9 0)),(10,.c (.row 1000))]) (λ_=>[(9,.st 0 111 ((dT (headT x)).map .p)),(1000,.rw 111 6 ((argsT x).map trP))]) (λ_=>True) ?_ ?_
 ·refine az τok (σ:=Tr×List Tr) [(2,_),(3,_),(4,_),(5,_),(9,_)] [(4,_),(5,_)] (λq=>[(10,.c (.row 1000))]) (λq=>[(9,.st 0 111 ((dT q.1).map .p)),(1000,.rw 111 6 (q.2.map trP))]) (λq=>Wf q.1/\headT q.1=headT x/\argsT q.1++q.2=argsT x) (λq=>(row q.1).length) (x,[]) ⟨v,rfl,Od⟩ ?_
  rintro⟨z,ar⟩ ⟨g1,L,H⟩;simp only at g1 L H;have b7:=mV v 4096 v.len;have hl:=congrArg List.length H;rw[JK]at hl;refine aj τok<|ae (λg=>?_) (λg=>?_)
  ·obtain⟨f,a,V,hf,ha,e1,e2,b8⟩:=lM g1 g
   refine vt 1 (by rw[V];rfl) ?_;refine va ?_ (qX _);refine vt 0 (by rw[V];rfl) ?_;exact au (f,a::ar) ⟨hf,by rw[<- e1];exact L,by rw[<- H,e2];simp⟩ (sw 1000 32) (y':=⟨rfl,congrArg (λl=>some (SE.rw _ _ l)) (by rw[List.map_cons,jO a];rfl),trivial⟩)
  ·obtain⟨e1,e2⟩:=gn g
   rw[e1]at L;rw[e2,List.nil_append]at H;subst L H;exact au () trivial
 rintro _ _;obtain⟨⟨h1,h2,h3⟩,h4⟩:=nW _ v (KJ _);refine dB τok (σ:=Unit) [(2,_),(3,_),(4,_),(5,_)] [(4,_),(5,_)] (λ_=>[]) (λ_=>[]) (λ_=>kM x m=false) ?_ ?_
 ·have a3:=mV v 4096 v.len
  have eA:=ak trP (argsT x);refine ae (λg=>?_) (λg=>?_)
  ·have X:=tG h1 g
   refine af (tE m Oo X.1) ?_;obtain⟨c1,c2⟩:=Kt E (headT x).n.a;refine ae (λL=>?_) (λL=>?_)
   ·have H:=c1.1 L
    obtain⟨c3,j,hj,c4⟩:=c2 H;obtain⟨p,hp,_⟩:=ay (l:=pl) (k:=j) hj;have b9:=hpl p (JQ hp);have M:kM x m=true:=by unfold kM;rw[decide_eq_true g,decide_eq_true H];rfl
    have r:=Kw (B:=B) (pl:=pl) v M;have a4:pl.getD (bP m (headT x).n.a-100).toNat 0=p:=by
     rw[show (bP m (headT x).n.a-100).toNat=j by omega,List.getD_eq_getElem?_getD,hp]
     rfl
    rw[a4]at r;refine af (tE m Oo X.1) ?_;refine vm (p:=iP) j hp ?_ Oo;refine ae (λg5=>?_) (λg5=>?_)
    ·exact⟨_,_,rfl,rfl,by rw[r,decide_eq_false (show ¬ p<((argsT x).length:Int) by omega)];rfl⟩
    rw[decide_eq_true (show p<((argsT x).length:Int) by omega),Bool.true_and]at r;obtain⟨y,hy,_⟩:=ay (l:=argsT x) (k:=p.toNat);have eD:eI x p=y:=by unfold eI;rw[List.getD_eq_getElem?_getD,hy];rfl
    rw[eD]at r;refine vt p.toNat hy ?_;refine yz hy<|bH (D8 (h4 y (JQ hy)).1 E Oo) (λO=>?_) (λO=>?_)
    ·rw[O,Bool.true_and]at r
     refine az τok (σ:=Nat) [(2,_),(3,_),(4,_),(10,_)] [(4,_),(1000,_)] (λi=>[(12,vI i)]) (λ_=>[]) (λi=>i<=(argsT x).length/\dE B pl x m=((argsT x).drop i).all (λy=>dE B pl y m)) (λi=>(argsT x).length-i) 0 ⟨KV _,r⟩ ?_;rintro i ⟨S,d⟩;refine aj τok<|ae (λY=>?_) (λY=>?_)
     ·obtain⟨z,W,_⟩:=ay (l:=argsT x) (k:=i)
      rw[Ef W]at d;have T:=JQ W;refine vt i W ?_;refine yz W<|bH (I z N m (F.args z T) (h4 z T).2 E (by have:=(h4 z T).2;omega)) (λo=>?_) (λo=>?_)
      ·refine vk ?_
       refine vi ?_;exact au (i+1) ⟨Oo,by rw[d,o,Bool.true_and]⟩
      ·refine vk ?_
       exact⟨_,_,rfl,rfl,by rw[d,o];rfl⟩
     ·rw[JY Oo]at d
      exact⟨_,_,rfl,rfl,by rw[d];rfl⟩
    ·exact⟨_,_,rfl,rfl,by rw[r,O];rfl⟩
   ·exact au () (by unfold kM;rw[decide_eq_true g,decide_eq_false Oo];rfl)
  ·exact au () (by unfold kM;rw[decide_eq_false g];rfl)
 rintro _ a5;refine VCode.seq<|aC τok<|ae (λg=>?_) (λg=>?_)
 ·refine yx ?_
  have V:=gd v.ok g;have eK:=ak trP (kidsT x);have kl:((kidsT x).length:Int)=2+x.n.b:=by rw[V.1];exact V.2.1
  obtain⟨a6,w0,l0⟩:=cj v (k:=0);obtain⟨Z,w1,l1⟩:=cj v (k:=1);have f0:=F.kidD (k:=0) Oo;have f1:=F.kidD (k:=1) Oo;have r:=Kx (B:=B) (pl:=pl) (m:=m) v g;unfold kx at r;have hq:=F.node';have ha:bI B B.ents.length x.n.a=true:=by
   simp[QB,bV,aT,g]at hq;exact hq
  refine aC τok<|vt 0 a6 ?_;refine bH (I _ _ m f0.2 l0 E Oo) (λs0=>?_) (λs0=>?_)
  ·rw[s0,Bool.true_and]at r
   refine vt 1 Z ?_;refine bH (I _ _ m f1.2 l1 E Oo) (λO=>?_) (λO=>?_)
   ·rw[O,Bool.true_and]at r
    refine vk ?_;refine aC τok<|vt 1 Z ?_;refine dB τok (σ:=Bool) [(2,_),(3,_),(4,_),(5,_),(13,_)] [(4,_),(5,_),(13,_)] (λb=>[(14,vP (.bool b))]) (λ_=>[]) (λb=>b=nP (kidD x 1) m) ?_ ?_
    ·have ed:nP (kidD x 1) m=(iY (kidD x 1) m||(decide ((kidD x 1).n.op=1) && decide (bP m (kidD x 1).n.a=1))):=Kz w1 m
     refine bH (D8 w1 E Oo) (λo=>?_) (λo=>?_)
     ·exact au true (by rw[ed,o];rfl)
     ·refine ae (λS=>?_) (λS=>?_)
      ·refine af (tE m Oo (tG w1 S).1) ?_
       refine ae (λd=>?_) (λd=>?_)
       ·have d:=(D7 E _).1 d
        exact au true (by rw[ed,decide_eq_true S,decide_eq_true d];simp)
       ·have d:¬ bP m (kidD x 1).n.a=1:=λh=>d ((D7 E _).2 h)
        exact au false (by rw[ed,o,decide_eq_false d];simp)
      ·exact au false (by rw[ed,o,decide_eq_false S];rfl)
    rintro C a7;rw[<- a7]at r;obtain⟨a,ea⟩:∃a,x.n.a=a:=⟨_,rfl⟩
    rw[ea]at ha r;obtain⟨ei,en,s',ps,qi,rfl,_,a8,a9,hF⟩:=hB.fam ha (KJ _);have eC:=ak aZ en.ctors;refine aC τok<|vm ei a8 ?_ Oo;refine aC τok ?_;have a':∀k,k<(kidsT x).length-2 ->∃t,(kidsT x)[2+k]?=some t/\(kidsT x).drop (2+k)=t::(kidsT x).drop (2+(k+1)):=λk V=>ay;refine az τok (σ:=Nat) [(2,_),(3,_),(4,_),(5,_),(14,_),(15,_)] [(4,_),(5,_)] (λk=>[(16,vI k)]) (λ_=>[]) (λk=>k<=(kidsT x).length-2/\dE B pl x m=lE B (dE B pl) (ei:Int) C m k ((kidsT x).drop (2+k))) (λk=>(kidsT x).length-2-k) 0 ⟨KV _,r⟩ ?_;rintro k ⟨S,d⟩;refine aC τok<|ae (λY=>?_) (λY=>?_)
    ·obtain⟨t,ht,hd⟩:=a' k Oo
     rw[hd]at d;simp only[lE]at d;obtain⟨cnt,U⟩:∃c:Nat,(if (C && decide (k<(aP B (ei:Int)).ctors.length))=true then ((aP B (ei:Int)).ctors.getD k default).args.length else 0)=c:=⟨_,rfl⟩
     rw[U]at d;rw[a9]at U;refine VCode.seq (VCode.blk<|aC τok<|dB τok (σ:=Unit) [(2,_),(3,_),(4,_),(5,_),(14,_),(15,_),(16,_)] [(4,_),(5,_)] (λ_=>[(17,vI cnt)]) (λ_=>[]) (λ_=>cnt<=16) ?_ ?_)
     ·cases C with
      |false=>exact au () (by rw[<- U];simp) (x:=⟨congrArg (λz=>some (vI z)) (by rw[<- U];rfl),trivial⟩)
      |true=>
       refine ae (λk4=>?_) (λk4=>?_)
       ·obtain⟨c,hc,_⟩:=ay (l:=en.ctors) (k:=k)
        obtain⟨ga,go,hC⟩:=hF.ct k c hc;have l4:=congrArg List.length hC.args;rw[List.length_map]at l4;have b':=hC.la;have e5:c.args.length=cnt:=by
         rw[<- U,if_pos OK,List.getD_eq_getElem?_getD,hc]
         rfl
        refine vm k hc ?_;exact au () Oo (x:=⟨congrArg (λz=>some (vI z)) (by rw[List.length_map,e5]),trivial⟩)
       ·exact au () (by rw[<- U,if_neg OK];omega) (x:=⟨congrArg (λz=>some (vI z)) (by rw[<- U,if_neg OK];rfl),trivial⟩)
     rintro _ a0;obtain⟨D,wi,li⟩:=cj v (k:=2+k);have fi:=(F.kidD (k:=2+k) Oo).2;rw[ht]at D;obtain rfl:=JB D;refine aj τok<|vi ?_;refine vt (2+k) ht ?_;refine az τok (σ:=Nat×Tr×List Int×Int) [(2,_),(3,_),(4,_),(5,_),(14,_),(15,_),(16,_),(18,_)] [(4,_),(5,_)] (λq=>[(17,vI q.1),(19,vP (lP q.2.2.1))]) (λq=>[(18,.st 0 111 ((dT q.2.1).map .p))]) (λq=>q.1<=16/\Ft (QB B) q.2.2.2 q.2.1/\(row q.2.1).length<(row x).length/\Mk pl q.2.2.1/\q.2.2.1.length+4*(row q.2.1).length<=100000/\fQ (dE B pl) q.1 q.2.1 q.2.2.1=fQ (dE B pl) cnt (kidD x (2+k)) m) (λq=>(row q.2.1).length) (cnt,kidD x (2+k),m,N+kb x.n (2+k)) ⟨a0,fi,li,E,OS,rfl⟩ ?_;rintro⟨c,u,mm,NN⟩ ⟨r1,r2,r3,r4,r5,w⟩;simp only at r1 r2 r3 r4 r5 w;have c0:=aS u;have wu:=aB r2;refine aj τok<|ae (λk4=>?_) (λk4=>?_)
     ·simp only at k4
      obtain⟨c',rfl⟩:∃c',c=c'+1:=⟨c-1,Oo⟩
      simp only[fQ]at w;refine ae (λk5=>?_) (λk5=>?_)
      ·obtain⟨e,v0,v1,l0,l1⟩:=gM wu (.inr k5)
       have g0:=(r2.kidD (k:=0) (by rw[e];simp)).2;have g1:=(r2.kidD (k:=1) (by rw[e];simp)).2;rw[if_pos k5]at w;refine vt 0 (by rw[e];rfl) ?_;refine bH (I _ _ mm g0 Oo r4 Oo) (λo=>?_) (λo=>?_)
       ·rw[o,Bool.true_and]at w
        refine vk ?_;refine af (tF mm Oo 1 Oo 2) ?_;refine vt 1 (by rw[e];rfl) ?_;refine vi ?_;exact au (c',kidD u 1,mm++[2],_) ⟨Oo,g1,OS,r4.snoc Oo,OK,w⟩ (x:=⟨congrArg (λz=>some (vI z)) OS,rfl,trivial⟩)
       ·refine vk ?_
        exact⟨_,_,rfl,rfl,by rw[d,<- w,o];rfl⟩
      ·rw[if_neg k5]at w
       refine bH (I _ _ mm r2 r3 r4 r5) (λo=>?_) (λo=>?_)
       ·refine aj τok ?_
        refine vi ?_;exact au (k+1) ⟨Oo,by rw[d,<- w,o,Bool.true_and]⟩
       ·exact⟨_,_,rfl,rfl,by rw[d,<- w,o];rfl⟩
     ·simp only at k4
      obtain rfl:c=0:=Oo
      simp only[fQ]at w;refine bH (I _ _ mm r2 r3 r4 r5) (λo=>?_) (λo=>?_)
      ·refine aj τok ?_
       refine vi ?_;exact au (k+1) ⟨Oo,by rw[d,<- w,o,Bool.true_and]⟩
      ·exact⟨_,_,rfl,rfl,by rw[d,<- w,o];rfl⟩
    ·rw[JY Oo]at d
     exact aj τok<|⟨_,_,rfl,rfl,by rw[d];rfl⟩
   ·refine vk ?_
    exact⟨_,_,rfl,rfl,by rw[r,O];rfl⟩
  ·refine vk ?_
   exact⟨_,_,rfl,rfl,by rw[r,s0];rfl⟩
 ·refine yy ?_
  refine aj τok ?_;show VCode _ _ _ _ _;have r:=Ky (B:=B) (pl:=pl) v a5 g;have eK:=ak trP (kidsT x);have c5:=gA v.ok;refine aj τok<|az τok (σ:=Nat) [(2,_),(3,_),(4,_),(5,_)] [(4,_),(5,_)] (λi=>[(20,vI i)]) (λ_=>[]) (λi=>i<=(kidsT x).length/\dE B pl x m=lQ (dE B pl) x.n m i ((kidsT x).drop i)) (λi=>(kidsT x).length-i) 0 ⟨KV _,r⟩ ?_;rintro i ⟨S,d⟩;refine aj τok<|ae (λY=>?_) (λY=>?_)
  ·have hi:i<(kidsT x).length:=Oo
   obtain⟨D,wi,li⟩:=cj v hi;have fi:=(F.kidD hi).2;obtain⟨b1,b2⟩:=mU v.ok i;obtain⟨q,hq⟩:∃q:Nat,kb x.n i=(q:Int):=⟨(kb x.n i).toNat,Oo⟩
   have a1:=H0 x.n i Oo;rw[hq]at a1;have b0:=tF m Oo q Oo 0;have W:=ay hi;obtain⟨z,a2,b3⟩:=W;rw[D]at a2;obtain rfl:=JB a2;rw[b3]at d;simp only[lQ]at d;rw[hq,Int.toNat_natCast]at d;refine vt i D ?_;refine af a1 ?_;refine af b0 ?_;refine bH (I _ _ _ fi li (E.zeros q) OK) (λs=>?_) (λs=>?_)
   ·refine vk ?_
    refine vi ?_;exact au (i+1) ⟨Oo,by rw[d,s,Bool.true_and]⟩
   ·refine vk ?_
    exact⟨_,_,rfl,rfl,by rw[d,s];rfl⟩
  ·rw[JY Oo]at d
   exact⟨_,_,rfl,rfl,by rw[d];rfl⟩
theorem Dz':∀R,Ee B pl R
 |0=>λy N m _ h=>Oo
 |R+1=>λy N m e hl f b=>KA hB hpl e (λz i m' j k d a=>Dz' R z i m' j Oo d a) f b
end
end Go.Proofs.YtjnjbghlemiklaaGreat
namespace Go.Wx
section
variable{P:Program}{τ:Tau}{n:Nat}{A:AS}{K:Exit ->AS ->Prop}{c:Code}
def AC.nzc:AC ->AC
 | .p x=>.p x.nz
 |c=>c
theorem KB(j:Nat){T:Nat}{f:Nat}{cs:List AC}(h:VCode P n c (A.upd [] [(j,.st f T (cs.map AC.nzc))]) K)(i:look A.m j=some (.st f T cs):=by rfl):VCode P n c A K:=by
 refine h.of λS X U s w ⟨C,ρ,k⟩=>?_;obtain⟨b,r,v,D,V,E,F⟩:=k.ent j _ i;exact⟨C,_,k.modSt (wr:=[]) (cs':=cs.map AC.nzc) (us':=r) i v ((Kp.refl [] w).weak Od) D (by simpa using E) (λq c u d H=>by
  rw[JX]at d;cases e:cs[q]? with
  |none=>rw[e]at d;cases d
  |some l=>
   rw[e]at d;obtain rfl:=JB d;obtain⟨I,o⟩:=F q l u e H;refine⟨I,λL=>?_⟩;cases l with
   |p x=>exact RV.nz (o λz M=>by cases M)
   |_=>exact o L) (s':=s) (λt a O=>by cases O) (λ_ _=>rfl)⟩
end
end Go.Wx
namespace Go.Proofs.YtjnjbghlemiklaaGreat
open Go.Wx Cd Tm Lv
theorem Eg{rc rc':RcF}(h:∀y m,Wf y ->rc y m=rc' y m):∀(n:Nat) (t:Tr) (m:List Int),Wf t ->gG rc n t m=gG rc' n t m
 |0,t,m,a=>h t m a
 |n+1,t,m,a=>by
  simp only[gG]
  by_cases b:t.n.op=5
  ·obtain⟨_,w0,d,e,f⟩:=gM a (.inr b)
   rw[h _ _ w0,Eg h n _ _ d]
  ·rw[decide_eq_false b]
   rfl
def i3(i:Nat):List Int:=(List.range i).map λk:Nat=>100+(k:Int)
theorem KC(n:Nat):gg n n=i3 n:=by
 unfold gg i3;refine List.map_congr_left λi a=>?_;rw[if_pos (List.mem_range.1 a)]
theorem KE{pl:List Int}{n:Nat}(h:pl.length=n):Mk pl (i3 n):=λv a=>by
 obtain⟨k,b,rfl⟩:=List.mem_map.1 a;exact .inr (.inr (.inr ⟨k,by have:=List.mem_range.1 b;omega,rfl⟩))
theorem yA(i:Nat):rM (i3 (i+1))=(i:Int)::rM (i3 i):=by
 unfold i3;rw[List.range_succ,List.map_append];show rM (_++[100+(i:Int)])=_;rw[Kq];unfold ij;rw[if_neg Oo,if_neg Oo,if_neg Oo];rw[show 100+(i:Int)-100=i by omega]
theorem Eh(B:aq)(x:Tr):∀(n i:Nat),decide (kA B x n i=0)=(List.range n).all λk=>nQ B x (i+k)
 |0,i=>rfl
 |n+1,i=>by
  rw[List.range_succ_eq_map,List.all_cons,List.all_map,Nat.add_zero];cases a:nQ B x i with
  |false=>
   have e:kA B x (n+1) i=18:=if_neg (by rw[a];decide);rw[e]
   rfl
  |true=>
   have e:kA B x (n+1) i=kA B x n (i+1):=if_pos a;rw[e,Eh B x n (i+1),Bool.true_and];exact tH λk _=>by simp[Function.comp,Nat.add_comm,Nat.add_left_comm,Nat.add_assoc]
def qY(B:aq)(x:Tr)(i:Nat):Bool:=dy' ((placesM x).getD i 0).toNat (kidD x (2*i)) && gG (dE B (placesM x)) (((placesM x).getD i 0).toNat+1) (kidD x (2*i+1)) (i3 x.n.b.toNat)
theorem KF(B:aq){x:Tr}{i:Nat}(h:Wf (kidD x (2*i+1))):nQ B x i=qY B x i:=by
 unfold nQ qY;rw[KC,Eg (λy m a=>yw B (placesM x) 4096 (row y).length y m a a.len (KJ _)) _ _ _ h]
 rfl
def lR(B:aq)(x:Tr)(i:Nat):Bool:=((List.range x.n.b.toNat).drop i).all (qY B x)
theorem KG(B:aq){x:Tr}{i:Nat}(h:i<x.n.b.toNat):lR B x i=(qY B x i && lR B x (i+1)):=by
 unfold lR;exact Ef (List.getElem?_range h)
theorem KH(B:aq){x:Tr}(b:Wf x)(a:x.n.op=12):decide (fD B x=0)=lR B x 0:=by
 unfold fD lR;rw[Eh,List.drop_zero];refine tH λk d=>?_;have d:=List.mem_range.1 d;have e:=fK b.ok a;rw[KW,KF B (cj b).2.1]
section
variable{B:aq}(hB:GoodB B)
include hB
theorem KI{x:Tr}{N:Int}(E:Ft (QB B) N x)(b:x.n.op=12):VC prog 65 [aW B,bB x] (.bool (decide (fD B x=0))):=by
 have r:=aB E;have V:=E.len;rw[KH B r b]
 generalize F:lR B x 0=Z
 have hf:=fK r.ok b;have H:=gA r.ok;have I:funsT x=x.ks.map (·.n):=by unfold funsT;rw[if_pos b]
 have a0:(x.ks.length:Int)=x.n.b:=(dM r.ok b).1;have a3:(placesM x).length=x.ks.length:=by simp[placesM]
 have hpl:∀p∈placesM x,0<=p/\p<=15:=λp s=>by
  obtain⟨k,D⟩:=JH s;have H:=aI D;obtain⟨f,L,_,_,_,_,_,a1,a2,_⟩:=td r.ok b (i:=k) Oo;unfold placesM at D;rw[JX,L]at D;obtain rfl:=JB D;exact⟨a1,a2⟩
 refine cA 102 [.tmp 4] τok func65 ?_;refine aj τok<|cV 5 1000 3 1 rfl rfl<|cV 6 1001 3 1 rfl rfl<|az τok (σ:=Nat) [(2,_),(3,_)] [(2,_),(3,_)] (λi=>[(5,.c (.row 1000)),(6,.c (.row 1001)),(7,vI i)]) (λi=>[(1000,.rw 3 1 (((placesM x).take i).map iP)),(1001,.rw 3 1 ((rM (i3 i)).map iP))]) (λi=>i<=x.ks.length) (λi=>x.ks.length-i) 0 (KV _) ?_;rintro i W;have e1:=ak iP ((placesM x).take i);have e2:=ak iP (rM (i3 i));have e3:(rM (i3 i)).length=i:=by rw[tD];simp[i3]
 have e4:((placesM x).take i).length=i:=by rw[List.length_take];omega
 refine aj τok<|ae (λg=>?_) (λg=>?_)
 ·obtain⟨f,w,_⟩:=ay (l:=x.ks) (k:=i)
  refine vm i (x:=f.n) (by rw[I,JX,w];rfl) ?_;refine aV ?_;refine va (p:=iP) ?_ (D5 _);refine vi ?_;exact au (i+1) (by show i+1<=_;omega) (λk=>sw 1000 28 (sw 1001 32 k)) (y':=⟨congrArg (λl=>some (SE.rw _ _ l)) (by
   rw[List.take_add_one,List.map_append];unfold placesM;rw[JX,w]
   rfl),congrArg (λl=>some (SE.rw _ _ l)) (by rw[yA];rfl),trivial⟩)
 obtain rfl:i=x.ks.length:=Oo
 have et:(placesM x).take x.ks.length=placesM x:=JG Oo;rw[et]at e1 e4 ⊢;have hn:x.n.b.toNat=x.ks.length:=Oo
 have d:=Dz' (B:=B) (pl:=placesM x) hB hpl;refine lw 5 1000 ?_;refine lw 6 1001 ?_;refine az τok (σ:=Nat) [(2,_),(3,_),(5,_),(6,_)] [(2,_),(3,_)] (λi=>[(8,vI i)]) (λ_=>[]) (λi=>i<=x.ks.length/\Z=lR B x i) (λi=>x.ks.length-i) 0 ⟨KV _,F.symm⟩ ?_
 clear g W
 rintro i ⟨W,h⟩;refine aj τok<|ae (λg=>?_) (λg=>?_)
 ·rw[KG B Oo]at h
  obtain⟨p,s,_⟩:=ay (l:=placesM x) (k:=i);have a4:=hpl p (JQ s);obtain⟨q,rfl⟩:∃q:Nat,p=(q:Int):=⟨p.toNat,Oo⟩
  have M:((placesM x).getD i 0).toNat=q:=by rw[List.getD_eq_getElem?_getD,s];rfl
  unfold qY at h;rw[M,hn]at h;obtain⟨h0,w0,l0⟩:=cj r (k:=2*i);obtain⟨h1,w1,l1⟩:=cj r (k:=2*i+1);have f1:=(E.kidD (k:=2*i+1) Oo).2;refine vi ?_;refine vt (2*i) h0 ?_;refine vm (p:=iP) i s ?_;refine bH (Ku w0 q Oo) (λO=>?_) (λO=>?_)
  ·rw[O,Bool.true_and]at h
   generalize S:gG (dE B (placesM x)) (q+1) (kidD x (2*i+1)) (i3 x.ks.length)=BD at h
   refine vk ?_;refine vi ?_;refine vi ?_;refine vt (2*i+1) h1 ?_;refine az τok (σ:=Nat×Tr×List Int×Int) [(2,_),(3,_),(5,_),(6,_),(8,_),(9,_)] [(2,_),(3,_)] (λz=>[(10,vP (lP z.2.2.1)),(11,vI z.1)]) (λz=>[(9,.st 0 111 ((dT z.2.1).map .p))]) (λz=>z.1<=q+1/\Ft (QB B) z.2.2.2 z.2.1/\Mk (placesM x) z.2.2.1/\z.2.2.1.length+4*(row z.2.1).length<=100000/\gG (dE B (placesM x)) (q+1-z.1) z.2.1 z.2.2.1=BD) (λz=>(row z.2.1).length) (0,kidD x (2*i+1),i3 x.ks.length,N+kb x.n (2*i+1)) ⟨KV _,f1,KE Oo,by rw[tD]at e3;simp only;omega,S⟩ ?_;rintro⟨j,u,v,NN⟩ ⟨r1,r2,C,X,a⟩;simp only at r1 r2 C X a;have wu:=aB r2;refine aj τok<|vm (p:=iP) i s ?_;refine ae (λT=>?_) (λT=>?_)
   ·simp only at T
    obtain⟨c,hc⟩:∃c,q+1-j=c+1:=⟨q-j,Oo⟩
    rw[hc]at a;simp only[gG]at a;refine ae (λo=>?_) (λo=>?_)
    ·refine vk ?_
     have o:¬ u.n.op=5:=o;exact⟨_,_,rfl,rfl,by rw[h,<- a,decide_eq_false o];rfl⟩
    have o:u.n.op=5:=Classical.not_not.1 o;rw[decide_eq_true o,Bool.true_and]at a;obtain⟨e,v0,v1,l0,l1⟩:=gM wu (.inr o);have y0:=(r2.kidD (k:=0) (by rw[e];simp)).2;have Y:=(r2.kidD (k:=1) (by rw[e];simp)).2;refine vt 0 (by rw[e];rfl) ?_;refine bH (d _ _ _ v y0 (Nat.lt_succ_self _) C Oo) (λt=>?_) (λt=>?_)
    ·rw[t,Bool.true_and]at a
     refine vk ?_;refine vm (p:=iP) i s ?_;refine ae (λU=>?_) (λU=>?_)
     ·simp only at U
      rw[if_pos Oo]at a;refine af (tF v Oo 1 Oo 1) ?_;refine vt 1 (by rw[e];rfl) ?_;refine vi ?_;exact au (j+1,kidD u 1,v++[1],_) ⟨OS,Y,C.snoc Oo,OK,by rw[<- a,show q+1-(j+1)=c by omega]⟩
     ·simp only at U
      rw[if_neg Oo]at a;refine af (tF v Oo 1 Oo 0) ?_;refine vt 1 (by rw[e];rfl) ?_;refine vi ?_;exact au (j+1,kidD u 1,v++[0],_) ⟨OS,Y,C.snoc Oo,OK,by rw[<- a,show q+1-(j+1)=c by omega]⟩
    ·refine vk ?_
     exact⟨_,_,rfl,rfl,by rw[h,<- a,t];rfl⟩
   ·simp only at T
    rw[show q+1-j=0 by omega]at a;simp only[gG]at a;refine bH (d _ _ _ v r2 (Nat.lt_succ_self _) C X) (λt=>?_) (λt=>?_)
    ·refine vi ?_
     exact au (i+1) ⟨Oo,by rw[h,<- a,t,Bool.true_and]⟩
    ·exact⟨_,_,rfl,rfl,by rw[h,<- a,t];rfl⟩
  ·refine vk ?_
   exact⟨_,_,rfl,rfl,by rw[h,O];rfl⟩
 ·have e0:lR B x i=true:=by
   unfold lR;rw[JY OK]
   rfl
  exact⟨_,_,rfl,rfl,by rw[h,e0];rfl⟩
end
section
variable{B:aq}{N:Int}
theorem yB(n:Nat):List.replicate n [PV.int .i64 0]=(gg n 0).map iP:=by
 apply List.ext_getElem
 ·simp[gg]
 ·intro i a b
  simp[gg,iP]
theorem KL(hB:GoodB B){x:Tr}(o:Ft (QB B) N x)(h:x.n.op=12):VC prog 157 [aW B,ah (row x)] (pI (fD B x)):=by
 generalize d:fD B x=e;unfold fD at d;have wx:=aB o;have hl:=dM o.ok h;have Z:=o.len;obtain⟨b,v⟩:∃b:Nat,x.n.b=(b:Int):=⟨x.n.b.toNat,Oo⟩
 have s:x.n.b.toNat=b:=Oo
 rw[s]at d;have w:(placesM x).length=b:=by simp[placesM];omega
 have hpl:∀p∈placesM x,0<=p/\p<=15:=λp t=>by
  obtain⟨k,z⟩:=JH t;have a4:=aI z;obtain⟨f,I,_,_,_,_,_,a1,a2,_⟩:=td o.ok h (i:=k) Oo;unfold placesM at z;rw[JX,I]at z;obtain rfl:=JB z;exact⟨a1,a2⟩
 have a5:(kz x).length=b:=by simp[kz];omega
 have a6:(iD x).length=b:=by simp[iD];omega
 have C:∀j,(gg b j).length=b:=λj=>by simp[gg]
 refine cA 96 [.tmp 4] τok func157 ?_;refine aj τok<|vm (p:=ndP) 0 (aJ wx) ?_;refine Aj b ?_ v v;refine jE 6 5 1000 3 1 rfl rfl rfl OO<|cV 8 1002 29 1 rfl rfl<|cV 9 1003 29 1 rfl rfl<|az τok (σ:=Nat) [(1,_),(6,_),(23,_)] [] (λi=>[(7,.c (.row 1001)),(8,.c (.row 1002)),(9,.c (.row 1003)),(10,vI ((1+(rows (x.ks.take i)).length:Nat):Int)),(24,vI i)]) (λi=>[(6,.st 0 228 [.p (.int .i64 B.vars),.p (.sl (B.orders.map orP)),.p (.sl (B.ents.map aQ)),.p (.int .i64 B.nat),.p (.sl (B.prims.map prP)),.row 1000]),(1000,.rw 3 1 (((placesM x).take i).map iP)),(1001,.rw 230 1 ((gg b i).map iP)),(1002,.rw 29 1 ((((iD x).take i).map row).map rP)),(1003,.rw 29 1 ((((kz x).take i).map row).map rP))]) (λi=>i<=b) (λi=>b-i) 0 (KV _) ?_ (f:=sw 1001 22) (x1:=⟨rfl,rfl,rfl,congrArg (λn:Int=>some (vI n)) (by simp[rows]),rfl,trivial⟩) (y1:=⟨rfl,rfl,congrArg (λl=>some (SE.rw _ _ l)) (yB b),rfl,rfl,trivial⟩);rintro i hi;have L:∀k,k<=b ->((placesM x).take k).length=k:=λk z=>by rw[List.length_take];omega
 dsimp only
 refine aj τok<|ae (λD=>?_) (λD=>?_)
 ·have D:(i:Int)<x.n.b:=D
  obtain⟨f,hf,M,O,a7,S,a8,a0,a3,r1,r2,r3,r4⟩:=td o.ok h (i:=i) Oo;have T:=congrArg List.length r1;simp only[JK,JV,JU]at T;have U:(x.n::(rows (x.ks.take i)++[f.n])).length=1+(rows (x.ks.take i)).length+1:=OK
  have e2:(x.n::(rows (x.ks.take i)++(f.n::row (kidD x (2*i))))).length=1+(rows (x.ks.take i)).length+1+(row (kidD x (2*i))).length:=OK
  have a9:=C i;obtain⟨u,hu,_⟩:=ay (l:=gg b i) (k:=i);have tp:(placesM x).take (i+1)=(placesM x).take i++[f.n.a]:=dA (by unfold placesM;rw[JX,hf];rfl);have tt:(kz x).take (i+1)=(kz x).take i++[kidD x (2*i)]:=dA (by unfold kz;rw[JX,List.getElem?_range Oo];rfl);have tb:(iD x).take (i+1)=(iD x).take i++[kidD x (2*i+1)]:=dA (by unfold iD;rw[JX,List.getElem?_range Oo];rfl);have l1:=L i hi;refine vm (p:=ndP) (1+(rows (x.ks.take i)).length) S ?_;refine aV ?_ (hb:=OK);refine vk ?_;refine vi ?_;refine vm (p:=iP) i hu ?_;refine dG hu<|vi ?_;refine af (endP o (y:=kidD x (2*i)) r1 M (by rw[U];omega)) ?_;refine vi ?_;refine bC (1+(rows (x.ks.take i)).length+1) ((x.n::(rows (x.ks.take i)++[f.n])).length+(row (kidD x (2*i))).length) ?_ (cS _) (h1:=Oo) (h2:=rfl) (h3:=Oo) (h4:=by rw[List.length_map];omega);rw[du r1 U.symm rfl];refine aV ?_ (hb:=OK);refine af (endP o (y:=kidD x (2*i+1)) r2 O (by rw[U,e2])) ?_;refine bC ((x.n::(rows (x.ks.take i)++[f.n])).length+(row (kidD x (2*i))).length) ((x.n::(rows (x.ks.take i)++(f.n::row (kidD x (2*i))))).length+(row (kidD x (2*i+1))).length) ?_ (cS _) (h1:=rfl) (h2:=rfl) (h3:=Oo) (h4:=by rw[List.length_map];omega);rw[du r2 Oo rfl];refine aV ?_ (hb:=OK);refine vi ?_;exact au (i+1) (by show i+1<=b;omega) (λk=>sw 1000 35 (sw 1003 53 (sw 1002 63 k))) (x:=⟨rfl,rfl,rfl,congrArg (λn:Int=>some (vI n)) (by rw[r3];omega),rfl,trivial⟩) (y':=⟨rfl,congrArg (λl=>some (SE.rw _ _ l)) (by rw[tp,j3];rfl),congrArg (λl=>some (SE.rw _ _ l)) (by rw[<- I0 Oo,List.map_set];rfl),congrArg (λl=>some (SE.rw _ _ l)) (by rw[tb,j3,j3];rfl),congrArg (λl=>some (SE.rw _ _ l)) (by rw[tt,j3,j3];rfl),trivial⟩)
 have D:¬ (i:Int)<x.n.b:=D;obtain rfl:i=b:=Oo
 rw[show (placesM x).take i=placesM x from JG Oo,show (kz x).take i=kz x from JG Oo,show (iD x).take i=iD x from JG Oo];have eB:=ak rP ((iD x).map row);have a':=ak row (iD x);refine lw 65 1002 ?_;refine lw 9 1003 ?_;refine lw 7 1001 ?_;refine nE 6 5 1000 ?_;refine az τok (σ:=Nat) [(6,_),(7,_),(9,_),(65,_),(66,_)] [(6,_)] (λj=>[(67,vI j)]) (λ_=>[]) (λj=>j<=i/\kA B x (i-j) j=e) (λj=>i-j) 0 ⟨KV _,d⟩ ?_
 clear d
 rintro j ⟨hj,a⟩;refine aj τok<|ae (λE=>?_) (λE=>?_)
 ·have E:(j:Int)<((((iD x).map row).map rP).length:Int):=E
  obtain⟨_,_,f0,V⟩:=ib o h (i:=j) Oo;obtain⟨p,t,_⟩:=ay (l:=placesM x) (k:=j);obtain⟨p0,b0⟩:=hpl p (JQ t);obtain⟨q,rfl⟩:∃q:Nat,p=(q:Int):=⟨p.toNat,Oo⟩
  have W:((iD x).map row)[j]?=some (row (kidD x (2*j+1))):=by rw[JX];unfold iD;rw[JX,List.getElem?_range Oo];rfl
  have X:((kz x).map row)[j]?=some (row (kidD x (2*j))):=by rw[JX];unfold kz;rw[JX,List.getElem?_range Oo];rfl
  have ok:nQ B x j=(dy' q (kidD x (2*j)) && gG (ec B (placesM x) 4096) (q+1) (kidD x (2*j+1)) (gg i i)):=by
   unfold nQ;rw[List.getD_eq_getElem?_getD,t,s]
   rfl
  obtain⟨r,hr⟩:∃r,i-j=r+1:=⟨i-j-1,Oo⟩
  rw[hr]at a;simp only[kA]at a;rw[ok]at a;have F:=Kd f0 q Oo;have H:=Kc (Kg hB hpl Oo 4096) V Oo (I1 w) (by have:=C i;have:=V.len;omega) V.len q Oo;refine vm (p:=rP) j W ?_;refine vm (p:=rP) j X ?_;refine vm (p:=iP) j t ?_;cases Y:dy' q (kidD x (2*j))with
  |false=>
   rw[Y]at F a;have a:18=e:=a;subst a;refine af F ?_;exact kA9
  |true=>
  rw[Y]at F;rw[Y,Bool.true_and]at a;refine af F ?_;refine vm (p:=iP) j t ?_;cases hd:gG (ec B (placesM x) 4096) (q+1) (kidD x (2*j+1)) (gg i i)with
  |false=>
   rw[hd]at H a;have a:18=e:=a;subst a;refine af H ?_;exact kA9
  |true=>
  rw[hd]at H a;have a:kA B x r (j+1)=e:=a;refine af H ?_;refine vk ?_;refine vi ?_;exact au (j+1) ⟨Oo,by rw[show i-(j+1)=r by omega];exact a⟩
 ·have E:¬ (j:Int)<((((iD x).map row).map rP).length:Int):=E
  rw[show i-j=0 by omega]at a;have a:0=e:=a;subst a;exact eA9
end
theorem DC':VD prog 204 .returning [0,1,2] [] []:=by
 refine xr ⟨_,func204,rfl,OO⟩ λk f w=>?_;obtain⟨l,o,q,rfl⟩:=Cq f;refine callsD_of_wpS func204 rfl λa r b=>?_;apply wpS_seq;apply wpS_region;simp[wpOpsS,go_sem,recoverD,b,Exit.thenS,Instr.typeAssert,underlying129,Tryz.zeroValue129];refine wpS_of_wp (Go.wp_mono (kY τok (n:=13) _ ⟨[(4,.bool false)],[]⟩ _ (λe s d=>e= .normal/\s.d=[]/\Kp [] w d) ?_ _ (nI Od rfl Od)) ?_)
 ·exact⟨rfl,rfl,Kp.alloc _ _⟩
 rintro e t d ⟨s,h,rfl,i,j⟩;exact sK h i rfl b ⟨⟨_,rfl⟩,rfl,j⟩
def yC(x y z:PV):List (Nat×SE):=[(0,.st 1 29 [.p x]),(1,.st 2 3 [.p y]),(2,.st 3 34 [.p z])]
theorem KM(er:Int){x y z:PV}:VD prog 204 (.panicking (ew er)) [0,1,2] (yC x y z) (yC (.raw (.slice none 0 0)) (pI 0) (pI er)):=by
 refine⟨⟨_,func204,rfl,OO⟩,λw X C ρ d=>?_⟩;refine callsD_of_wpS func204 rfl λb o f=>?_;apply wpS_seq;apply wpS_region;simp[wpOpsS,go_sem,recoverD,f,Exit.thenS,Instr.typeAssert,underlying129,Tryz.zeroValue129];refine wpS_of_wp (Go.wp_mono (xt (n:=13) (m2:=yC (.raw (.slice none 0 0)) (pI 0) (pI er)) (q:=3) (p:=4) (k:=3) d (aj τok ?_) (nI Od rfl (by simp[ini]))) ?_)
 ·refine vk ?_
  exact⟨rfl,rfl,rfl,rfl,trivial⟩
 rintro e r t ⟨rfl,s,h,i,j,a,l⟩;exact wH h i rfl ⟨⟨_,rfl⟩,rfl,j,a,l⟩
section
variable{B:aq}{cx:Ctx}(hB:GoodB B)(hcx:CxOk B cx)(hcl:cx.length<=90000)
include hB hcx hcl
theorem KN{x:Tr}(a:Ft (QB B) (cx.length:Int) x){n:Nat}(d:n<=100000):VG prog 181 [.c (.ptr 0 0),.c (.ptr 1 0)] [(0,.st 1 250 ((ia B cx n).map .p)),(1,.st 2 29 [.p (ah (row x))])] (match bY B cx GW x 4096 n with
  | .ok q=>.ok (.c (.p (ah (row q.1))),[(0,.st 1 250 ((ia B cx q.2).map .p)),(1,.st 2 29 [.p (ah (row x))])])
  | .error e=>.error (ew e)):=by
 have f:=a.len;have b:=II hB hcx hcl GW x 4096 n a (by unfold len;omega) (Int.le_refl _) Oo (by unfold GW;omega);refine cI 9 [.tmp 3] τok func181 ?_;refine aj τok<|af (oR a) ?_;cases hr:bY B cx GW x 4096 n with
 |error e=>
  rw[hr]at b;refine cD b ?_;exact rfl
 |ok q=>
  rw[hr]at b;refine ax b ?_;refine af (CP (oH hB hcx hcl GW x 4096 n q.1 q.2 a (by unfold len;omega) (Int.le_refl _) hr).1) ?_;exact .inl ⟨_,_,_,id,rfl,rfl,rfl,rfl,⟨rfl,rfl,trivial⟩,rfl⟩
theorem yD{x:Tr}(d:Ft (QB B) (cx.length:Int) x)(fuel:Int):VG prog 180 [.c (.p (aW B)),.c (.p (aG (cx.map aA))),.c (.p (ah (row x))),.c (.p (pI fuel)),.c (.fn 181 [100])] [(100,.st 1 29 [.p (ah (row x))])] (.ok (match dC B cx x fuel with
  | .ok q=>(.c (.p (.tup [ah (row q.1),pI q.2,pI 0])),[(100,.st 1 29 [.p (ah (row x))])])
  | .error e=>(.c (.p (.tup [.sl [],pI 0,pI e])),[]))):=by
 have b:min (max fuel 0) 100000=((bE fuel:Nat):Int):=by unfold bE;omega
 have a:=KN hB hcx hcl d (n:=bE fuel) (by unfold bE;omega);unfold dC
 generalize bY B cx GW x 4096 (bE fuel)=r at a ⊢
 rcases r with e|q
 all_goals
  refine oL 30 [.cell 10 29,.cell 11 3,.cell 12 34] τok func180 ?_;refine aj τok<|⟨⟨rfl,rfl,rfl⟩,rfl,λf=>?_⟩;refine aj τok ?_
  first
   |refine mh (λk=>sw 0 21 (sw 1 100 k)) a ?_ (he:=by rw[b];repeat first|exact True.intro|refine And.intro rfl ?_)
    refine jP (λk=>k+10) (λ_=>0) (KM e) ?_;exact .inl ⟨_,_,_,id,rfl,rfl,rfl,rfl,trivial,rfl⟩
   |refine bv (λk=>sw 0 21 (sw 1 100 k)) (λk=>k-99) a ?_ (he:=by rw[b];repeat first|exact True.intro|refine And.intro rfl ?_)
    refine vk ?_;refine jP (λk=>k+10) (λ_=>0) DC' ?_;exact .inl ⟨_,_,_,id,rfl,rfl,rfl,rfl,⟨rfl,trivial⟩,rfl⟩
theorem KO{x:Tr}(b:Ft (QB B) (cx.length:Int) x)(n:Int):VC prog 147 [aW B,aG (cx.map aA),ah (row x),pI n] (match dC B cx x n with
  | .ok q=>.tup [ah (row q.1),pI q.2,pI 0]
  | .error e=>.tup [.sl [],pI 0,pI e]):=by
 have a:=yD hB hcx hcl b n
 generalize dC B cx x n=r at a ⊢
 rcases r with e|q
 all_goals
  refine vf 20 [.tmp 8,.tmp 9,.tmp 10] τok func147 ?_;refine bv (λk=>sw 100 6 k) (λ_=>0) a ?_;exact eA9
end
theorem yE(l:List Atom)(hl:l.length<=1000000000)(vars:Int):VC prog 137 [cr l,pI vars] (.bool (cF l vars)):=by
 have E:=ak atP l;have i:vars<0 \/16<vars \/l.length<1 \/4<l.length ->false=cF l vars:=λh=>by unfold cF;rw[if_pos h]
 refine vf 53 [.tmp 4] τok func137 ?_;refine ae (λt=>?_) (λt=>?_)
 ·exact⟨_,_,rfl,rfl,cy (i Oo)⟩
 refine ae (λu=>?_) (λu=>?_)
 ·exact⟨_,_,rfl,rfl,cy (i Oo)⟩
 refine ae (λv=>?_) (λv=>?_)
 ·exact⟨_,_,rfl,rfl,cy (i Oo)⟩
 refine ae (λw=>?_) (λw=>?_)
 ·exact⟨_,_,rfl,rfl,cy (i Oo)⟩
 rw[show cF l vars=eX vars l (-1) by unfold cF;rw[if_neg Oo]];generalize d:eX vars l (-1)=e;refine az τok (σ:=Nat×Int) [(1,_),(24,_),(25,_)] [] (λq=>[(5,vI q.2),(26,vI q.1)]) (λ_=>[]) (λq=>q.1<=l.length/\eX vars (l.drop q.1) q.2=e) (λq=>l.length-q.1) (0,-1) ⟨KV _,d⟩ ?_;rintro⟨k,b⟩ ⟨z,hr⟩;simp only at z hr;refine aj τok<|ae (λf=>?_) (λf=>?_);rotate_left
 ·have f:¬ (k:Int)<((l.map atP).length:Int):=f
  rw[JY Oo]at hr;exact⟨_,_,rfl,rfl,cy hr⟩
 have f:(k:Int)<((l.map atP).length:Int):=f;obtain⟨x,C,D⟩:=ay (l:=l) (k:=k);rw[D]at hr;simp only[eX]at hr;have a:x.var<=b \/vars<x.var \/x.add<0 \/1000<x.add ->false=e:=λh=>by rw[<- hr,if_pos h]
 refine vm (p:=atP) k C ?_;refine ae (λj=>?_) (λj=>?_)
 ·exact⟨_,_,rfl,rfl,cy (a (.inl j))⟩
 have j:¬ x.var<=b:=j;refine ae (λo=>?_) (λo=>?_)
 ·exact⟨_,_,rfl,rfl,cy (a (.inr (.inl o)))⟩
 refine ae (λr=>?_) (λr=>?_)
 ·exact⟨_,_,rfl,rfl,cy (a (.inr (.inr (.inl r))))⟩
 refine ae (λs=>?_) (λs=>?_)
 ·exact⟨_,_,rfl,rfl,cy (a (.inr (.inr (.inr s))))⟩
 rw[if_neg Oo]at hr;refine vi ?_;exact au (k+1,x.var) ⟨by show k+1<=_;omega,hr⟩
def pe(g:G)(x:Atom):List (Nat×SE):=[(0,.st 1 164 [.row 2]),(1,.st 2 48 [.p (pI x.var),.p (pI x.add)]),(2,.ob 3 (QG g))]
theorem KP(g:G)(x y:Atom)(f:0<=x.add/\x.add<=1000)(i:0<=y.add/\y.add<=1000):VG prog 257 [.c (.p (.agg (atP y))),.c (.ptr 0 0),.c (.ptr 1 0)] (pe g x) (.ok (.c (.p (.bool (dg g x y))),pe g x)):=by
 generalize a:dg g x y=e;unfold dg at a;refine cI 27 [.tmp 4] τok func257 ?_;refine aj τok<|sH m2e ?_;cases b:g x.var y.var with
 |none=>
  rw[b]at a;exact .inl ⟨_,_,_,id,rfl,rfl,rfl,cy a,⟨rfl,rfl,rfl,trivial⟩,rfl⟩
 |some d=>
  rw[b]at a;refine vi ?_;refine ae (λh=>?_) (λh=>?_)
  ·exact .inl ⟨_,_,_,id,rfl,rfl,rfl,cy ((decide_eq_true h).symm.trans a),⟨rfl,rfl,rfl,trivial⟩,rfl⟩
  ·exact .inl ⟨_,_,_,id,rfl,rfl,rfl,cy ((decide_eq_false h).symm.trans a),⟨rfl,rfl,rfl,trivial⟩,rfl⟩
theorem KR(g:G)(x:Atom)(l:List Atom)(hl:l.length<=1000000)(h:0<=x.add/\x.add<=1000)(i:∀y∈l,0<=y.add/\y.add<=1000):VG prog 258 [.c (.p (cr l)),.c (.fn 257 [0,1])] (pe g x) (.ok (.c (.p (pI (mz (dg g x) l 0))),pe g x)):=by
 have q:=ak atP l;generalize a:mz (dg g x) l 0=e;refine cI 19 [.tmp 4] τok func258 ?_;refine aj τok<|az τok (σ:=Nat) [(0,_),(1,_),(6,_),(7,_)] [(0,_),(1,_),(2,_)] (λk=>[(8,vI k)]) (λ_=>[]) (λk=>k<=l.length/\mz (dg g x) (l.drop k) k=e) (λk=>l.length-k) 0 ⟨KV _,a⟩ ?_;rintro k ⟨r,hr⟩;refine aj τok<|ae (λj=>?_) (λj=>?_);rotate_left
 ·rw[JY Oo]at hr
  exact .inl ⟨_,_,_,id,rfl,rfl,rfl,congrArg (PV.int .i64) hr,⟨rfl,rfl,rfl,trivial⟩,rfl⟩
 obtain⟨y,b,o⟩:=ay (l:=l) (k:=k);rw[o]at hr;simp only[mz]at hr;have d:=KP g x y h (i y (JQ b));refine vm (p:=atP) k b ?_;cases f:dg g x y with
 |true=>
  rw[f]at d hr;refine bv id (λk=>k+1) d ?_;exact .inl ⟨_,_,_,id,rfl,rfl,rfl,congrArg (PV.int .i64) hr,⟨rfl,rfl,rfl,trivial⟩,rfl⟩
 |false=>
  rw[f]at d hr;refine bv id (λk=>k+1) d ?_;refine vi ?_;exact au (k+1) ⟨Oo,hr⟩
theorem KS(g:G)(x:Atom)(l:List Atom)(hl:l.length<=1000000)(a:0<=x.add/\x.add<=1000)(b:∀y∈l,0<=y.add/\y.add<=1000):VG prog 256 [.c (.p (cr l)),.c (.fn 257 [0,1])] (pe g x) (.ok (.c (.p (.bool (l.any (dg g x)))),pe g x)):=by
 refine cI 9 [.tmp 4] τok func256 ?_;refine aj τok<|bv id (λk=>k+1) (KR g x l hl a b) ?_;rw[<- Cf (dg g x) l 0 OO];refine ae (λh=>?_) (λh=>?_)
 ·exact .inl ⟨_,_,_,id,rfl,rfl,rfl,cy (decide_eq_true h).symm,⟨rfl,rfl,rfl,trivial⟩,rfl⟩
 ·exact .inl ⟨_,_,_,id,rfl,rfl,rfl,cy (decide_eq_false h).symm,⟨rfl,rfl,rfl,trivial⟩,rfl⟩
theorem KU(vars:Int)(os:List aO)(a b:List Atom)(ha:a.length<=1000000)(hb:b.length<=1000000):VC prog 250 [pI vars,.sl (os.map orP),cr a,cr b] (.bool (jf vars os a b)):=by
 have E:=ak atP a;have o:=D1 vars os;have q:=yE a Oo vars;have r:=yE b Oo vars;generalize d:jf vars os a b=s;unfold jf at d;refine vf 44 [.tmp 8] τok func250 ?_;cases h:dZ vars os with
 |error n=>
  rw[h]at o d;have F:=closedF_err h;refine bv (λ_=>16) (λ_=>0) o ?_;refine vy ?_ (show n≠0 by omega);exact⟨_,_,rfl,rfl,cy d⟩
 |ok g=>
  rw[h]at o d;simp only at d;refine bv (λ_=>16) (λ_=>0) o ?_;refine vn ?_ OO;cases f:cF a vars with
  |false=>
   rw[f]at q d;exact af q<|⟨_,_,rfl,rfl,cy d⟩
  |true=>
  rw[f]at q d;refine af q ?_;cases i:cF b vars with
  |false=>
   rw[i]at r d;exact af r<|⟨_,_,rfl,rfl,cy d⟩
  |true=>
  rw[i]at r d;rw[Bool.true_and,Bool.true_and]at d;refine af r ?_;have z:=jg f;have t:=jg i;refine az τok (σ:=Nat) [(3,_),(9,_),(33,_),(34,_)] [(9,_),(16,_)] (λk=>[(35,vI k)]) (λ_=>[]) (λk=>k<=a.length/\((a.drop k).all λx=>b.any (dg g x))=s) (λk=>a.length-k) 0 ⟨KV _,d⟩ ?_
  clear d
  rintro k ⟨H,hr⟩;refine aj τok<|ae (λC=>?_) (λC=>?_);rotate_left
  ·rw[JY Oo]at hr
   exact⟨_,_,rfl,rfl,cy hr⟩
  obtain⟨x,u,D⟩:=ay (l:=a) (k:=k);rw[D,List.all_cons]at hr;have j:=z.2 x (JQ u);have e:=KS g x b hb ⟨j.1,j.2.1⟩ λy v=>⟨(t.2 y v).1,(t.2 y v).2.1⟩
  refine vm (p:=atP) k u ?_;cases w:b.any (dg g x)with
  |false=>
   rw[w]at e hr;exact bv (λk=>[9,12,16].getD k 0) (λ_=>0) e<|⟨_,_,rfl,rfl,cy hr⟩
  |true=>
   rw[w]at e hr;refine bv (λk=>[9,12,16].getD k 0) (λ_=>0) e ?_;refine vi ?_;exact au (k+1) ⟨Oo,hr⟩
open Go.Wx Cd Tm Lv
theorem br_at:Br2 rAt atP (λx=>I64 x.var/\I64 x.add):=⟨λ_=>rfl,λx d C e f h=>by
 match e,f with
 |[a,b],_=>exact⟨by rw[fM (h 0 _ a rfl rfl),fM (h 1 _ b rfl rfl)],d⟩,λ_ _ _ h=>h.2⟩
theorem DF':kn rAt atP:=λC d x ⟨e,_⟩=>by
 subst e;refine⟨rfl,λi y u a b=>?_⟩
 match i,a,b with
 |0,a,b=>obtain rfl:=JB a;obtain rfl:=JB b;exact .int _ _
 |1,a,b=>obtain rfl:=JB a;obtain rfl:=JB b;exact .int _ _
theorem tI{x:Tr}(e:Ok .tm x)(d:(row x).length<=4096)(h2:x.n.op=2):VC prog 86 [ah (row x)] (cr (bK x)):=by
 have hr:=iA e;have a:kidsT x=[]:=by unfold kidsT;cases x;exact if_pos h2
 have f:atmsT x=x.ks.map (·.n):=by unfold atmsT;rw[if_pos h2]
 rw[a,f]at hr;simp only[cd,JD]at hr;have b:=congrArg List.length hr;simp only[JV,List.length_map]at b;have o:=ak ndP (row x);have h:(((row x).map ndP).take (row x).length).drop 1=(x.ks.map (·.n)).map ndP:=by
  rw[JG Oo,hr]
  rfl
 have q:=ak ndP (x.ks.map (·.n));have r:=ak (λk:Tr=>k.n) x.ks;refine vf 23 [.tmp 2] τok func86 ?_;refine bC 1 (row x).length ?_ (λy i=>by
  obtain⟨_,_,rfl⟩:=List.mem_map.1 i
  rfl)
 rw[h];refine cV 3 1000 48 2 rfl rfl<|az τok (σ:=Nat) [(7,_),(8,_)] [] (λj=>[(3,.c (.row 1000)),(9,vI j)]) (λj=>[(1000,.rw 48 2 (((bK x).take j).map atP))]) (λj=>j<=x.ks.length) (λj=>x.ks.length-j) 0 (KV _) ?_;intro j s;refine aj τok<|ae (λg=>?_) (λg=>?_)
 ·have g:(j:Int)<(((x.ks.map (·.n)).map ndP).length:Int):=g
  obtain⟨k,a,_⟩:=ay (l:=x.ks) (k:=j);refine vm (p:=ndP) j (x:=k.n) (by rw[JX,a];rfl) ?_;refine aV ?_ (hb:=OK);refine vi ?_;exact au (j+1) (by show j+1<=_;omega) (sw 1000 20) (y':=⟨congrArg (λl=>some (SE.rw _ _ l)) (by
   rw[List.take_add_one,List.map_append];unfold bK;rw[JX,a]
   rfl),trivial⟩)
 ·have g:¬ (j:Int)<(((x.ks.map (·.n)).map ndP).length:Int):=g
  rw[JG (by simp[bK];omega)];exact eA9
theorem Ei{x y:Operand}{p q:Nd}{k:PV ->Prop}(e:k (.bool (decide (p=q)))):mc prog .eql 42 x y (.c (.p (.agg (ndP p)))) (.c (.p (.agg (ndP q)))) k:=by
 refine⟨_,λC ρ va o w f i=>?_,e⟩;have rd:∀{p:Nd} {v:Value},RA C ρ (.c (.p (.agg (ndP p)))) v ->v=jd p:=λ{p v} h=>by
  have h:RV C (.agg (ndP p)) v:=h;cases h with
  |agg r j l d=>
   match j,l with
   |[a,b,c],_=>rw[fM (d 0 _ a rfl rfl),fM (d 1 _ b rfl rfl),fM (d 2 _ c rfl rfl)]
 obtain rfl:=rd f;obtain rfl:=rd i;exact⟨_,.bool _,CZ _ _ p q w⟩
section
variable{Q:Nd ->Prop}{N:Int}{x y:Tr}
theorem KX(r:Ft Q N x)(s:Ft Q N y):VC prog 214 [ah (row x),ah (row y)] (.bool (decide (row x=row y))):=by
 have t:=r.len;have u:=s.len
 generalize row x=a at t ⊢
 generalize row y=b at u ⊢
 have w:=ak ndP a;have z:=ak ndP b;have o:a≠b ->PV.bool false= .bool (decide (a=b)):=λh=>by rw[decide_eq_false h]
 refine vf 26 [.tmp 4] τok func214 ?_;refine ae (λg=>?_) (λg=>?_)
 ·exact⟨_,_,rfl,rfl,o λh=>by subst h;omega⟩
 refine vl τok (σ:=Nat) [(0,_),(1,_),(12,_)] (λi=>[(13,vI i)]) (λi=>i<=a.length/\a.take i=b.take i) (λi=>a.length-i) 0 ⟨KV _,Od⟩ ?_;rintro i ⟨C,f⟩;refine ae (λg=>?_) (λg=>?_)
 ·obtain⟨p,j,D⟩:=ay (l:=a) (k:=i)
  obtain⟨q,d,v⟩:=ay (l:=b) (k:=i);refine vm i j ?_;refine vm i d ?_;refine tl ?_
  by_cases h:p=q
  ·rw[decide_eq_true h]
   refine vk ?_;refine vi ?_;exact au (i+1) ⟨Oo,by rw[List.take_add_one,List.take_add_one,f,j,d,h]⟩
  ·rw[decide_eq_false h]
   exact vk ⟨_,_,rfl,rfl,o λe=>h (by subst e;rw[j]at d;exact JB d)⟩
 ·exact⟨_,_,rfl,rfl,by
   rw[JG Oo,JG Oo]at f;rw[decide_eq_true f]
   rfl⟩
theorem yF{a b:List Int}(ha:∀x∈a,I64 x)(hb:∀x∈b,I64 x)(h1:a.length<=1000)(h2:b.length<=1000):VC prog 253 [.sl (a.map iP),.sl (b.map iP)] (.bool (decide (a=b))):=by
 have r:=ak iP a;have s:=ak iP b;have j:a≠b ->PV.bool false= .bool (decide (a=b)):=λh=>by rw[decide_eq_false h]
 refine vf 26 [.tmp 4] τok func253 ?_;refine ae (λg=>?_) (λg=>?_)
 ·exact⟨_,_,rfl,rfl,j λh=>by subst h;omega⟩
 refine vl τok (σ:=Nat) [(0,_),(1,_),(12,_)] (λi=>[(13,vI i)]) (λi=>i<=a.length/\a.take i=b.take i) (λi=>a.length-i) 0 ⟨KV _,Od⟩ ?_;rintro i ⟨h1,h2⟩;refine ae (λg=>?_) (λg=>?_)
 ·obtain⟨p,f,t⟩:=ay (l:=a) (k:=i)
  obtain⟨q,d,o⟩:=ay (l:=b) (k:=i);refine vm i f ?_;refine vm i d ?_;refine ae (λh=>?_) (λh=>?_)
  ·exact vk ⟨_,_,rfl,rfl,j λe=>h (by subst e;rw[f]at d;exact JB d)⟩
  ·have h:¬ p≠q:=h
   refine vk ?_;refine vi ?_;exact au (i+1) ⟨Oo,by rw[List.take_add_one,List.take_add_one,h2,f,d,Decidable.not_not.1 h]⟩
 ·exact⟨_,_,rfl,rfl,by
   rw[JG Oo,JG Oo]at h2;rw[decide_eq_true h2]
   rfl⟩
theorem Ej(a:Ft Q N x)(d:x.n.op=12):VC prog 254 [ah (row x)] (.sl ((placesM x).map iP)):=by
 have w:=aB a;have F:=dM a.ok d;have t:=a.len;obtain⟨b,z⟩:∃b:Nat,x.n.b=(b:Int):=⟨x.n.b.toNat,Oo⟩
 have hpl:(placesM x).length=b:=by simp[placesM];omega
 refine cA 27 [.tmp 2] τok func254 ?_;refine aj τok<|vm (p:=ndP) 0 (aJ w) ?_;refine cV 3 1000 3 1 rfl rfl<|az τok (σ:=Nat) [(0,_),(8,_)] [] (λi=>[(3,.c (.row 1000)),(4,vI ((1+(rows (x.ks.take i)).length:Nat):Int)),(9,vI i)]) (λi=>[(1000,.rw 3 1 (((placesM x).take i).map iP))]) (λi=>i<=b) (λi=>b-i) 0 (KV _) ?_ (x1:=⟨rfl,congrArg (λn:Int=>some (vI n)) (by simp[rows]),rfl,trivial⟩);intro i H;have I:((placesM x).take i).length=i:=by rw[List.length_take];omega
 refine aj τok<|ae (λe=>?_) (λe=>?_)
 ·have e:(i:Int)<x.n.b:=e
  obtain⟨f,h,_⟩:=ay (l:=x.ks) (k:=i);obtain⟨u,v,j,C,_,o,q,_,r,r1,r2⟩:=kj a.ok d h;have D:(placesM x).take (i+1)=(placesM x).take i++[f.n.a]:=dA (by unfold placesM;rw[JX,h];rfl);have s:=congrArg List.length r1;simp only[JK,JV]at s;have E:(rows (x.ks.take (i+1))).length=(rows (x.ks.take i)).length+(1+((row u).length+(row v).length)):=by
   rw[dA h,dc',JK];rw[j];simp[rows,row];omega
  refine vm (p:=ndP) (1+(rows (x.ks.take i)).length) r ?_;refine aV ?_ (hb:=OK);refine vi ?_;refine af (endP a (y:=u) r1 o OK) ?_;refine af (endP a (y:=v) r2 q OK) ?_;refine vi ?_;exact au (i+1) (by show i+1<=b;omega) (sw 1000 18) (x:=⟨rfl,congrArg (λn:Int=>some (vI n)) (by rw[E];simp;omega),rfl,trivial⟩) (y':=⟨congrArg (λl=>some (SE.rw _ _ l)) (by rw[D,List.map_append];rfl),trivial⟩)
 ·have e:¬ (i:Int)<x.n.b:=e
  rw[show (placesM x).take i=placesM x from JG Oo];exact eA9
theorem Ek(a:Ok .tm x)(h2:x.n.op=2):(bK x).length<=1000000:=by
 obtain⟨_,b,_,d⟩:=C4 a h2;unfold bK;rw[List.length_map];omega
theorem El{B:aq}(hI:BoI B)(a:Ft Q N x)(b:Ft Q N y)(h1:x.n.op=2)(h2:y.n.op=2):VC prog 250 [.int .i64 B.vars,.sl (B.orders.map orP),cr (bK x),cr (bK y)] (.bool (jf B.vars B.orders (bK x) (bK y))):=KU _ _ _ _ (Ek a.ok h1) (Ek b.ok h2)
end
section
variable{B:aq}(hI:BoI B)(hB:GoodB B)
include hI hB
variable{cx:Ctx}(hcx:CxOk B cx)(hcl:cx.length<=260)
include hcx hcl
theorem Em{x:Tr}(a:Ft (QB B) (cx.length:Int) x)(n:Int):VC prog 147 [aW B,aG (cx.map aA),ah (row x),pI n] (match dC B cx x n with
  | .ok q=>.tup [ah (row q.1),pI q.2,pI 0]
  | .error e=>.tup [.sl [],pI 0,pI e]):=KO hB hcx (by omega) a n
end
def fU(B:aq)(c:PV)(n er:PV):List PV:=[.int .i64 B.vars,.sl (B.orders.map orP),.sl (B.ents.map aQ),.int .i64 B.nat,.sl (B.prims.map prP),c,n,er]
abbrev iJ(B:aq)(cx:Ctx)(n:Int):List PV:=fU B (aG (cx.map aA)) (pI n) (pI 0)
def kN(B:aq)(cx:Ctx)(r:Except Int (Bool×Nat)):List PV×PV:=match r with
 | .ok q=>(iJ B cx q.2,.bool q.1)
 | .error e=>(fU B (aG (cx.map aA)) .unk (pI e),.bool false)
def lS(B:aq)(cx:Ctx)(x y:Tr)(u:Bool)(n:Nat)(r:Except Int (Bool×Nat)):Prop:=VP prog 197 241 (iJ B cx n) (kN B cx r).1 [ah (row x),ah (row y),.bool u] (kN B cx r).2
def tJ(B:aq)(g:Nat)(rc:RcC):Prop:=∀(cx:Ctx) (x y:Tr) (u:Bool) (n:Nat),CxOk B cx ->cx.length<=260 ->Ft (QB B) (cx.length:Int) x ->Ft (QB B) (cx.length:Int) y ->n<=g ->n<=100000 ->lS B cx x y u n (rc cx x y u n)
section
variable{B:aq}{cx:Ctx}{n:Nat}
theorem Eo(hI:BoI B)(hB:GoodB B)(hcx:CxOk B cx)(hcl:cx.length<=260){x:Tr}(d:Ft (QB B) (cx.length:Int) x):(∀e,dC B cx x (n:Int)= .error e ->VP prog 215 241 (iJ B cx n) (fU B (aG (cx.map aA)) (pI 0) (pI e)) [ah (row x)] (.tup [.sl [],.bool false]))/\∀q,dC B cx x (n:Int)= .ok q ->VP prog 215 241 (iJ B cx n) (iJ B cx q.2) [ah (row x)] (.tup [ah (row q.1),.bool true]):=by
 have a:=Em hI hB hcx hcl d (n:Int);refine⟨λe b=>?_,λq f=>?_⟩
 ·rw[b]at a
  have h:e≠0:=by rcases whnf_er _ _ _ _ _ b with rfl|rfl<;>decide
  refine aX (r:=.ok (_,_)) 38 [.tmp 4,.tmp 5] τok func215 ?_;refine aj τok<|af a ?_;refine vk ?_;refine vn (p:=e=0) ?_ h;exact eP9
 ·rw[f]at a
  refine aX (r:=.ok (_,_)) 38 [.tmp 4,.tmp 5] τok func215 ?_;refine aj τok<|af a ?_;refine vk ?_;refine vy (p:=(0:Int)=0) ?_ rfl;exact eP9
theorem KY(hI:BoI B){f g:Tr}{N:Int}(e:Ft (QB B) N f)(h:Ft (QB B) N g)(f2:f.n.op=2)(j:g.n.op=2)(u:Bool){c fu:PV}:VP prog 239 241 (fU B c fu (pI 0)) (fU B c fu (pI 0)) [ah (row f),ah (row g),.bool u] (.bool (gD B f g u)):=by
 have i:=El hI e h f2 j;have l:=El hI h e j f2;generalize b:gD B f g u=d;unfold gD at b;refine aX (r:=.ok (_,_)) 57 [.tmp 8] τok func239 ?_;refine aj τok<|af (tI e.ok e.len f2) ?_;refine af (tI h.ok h.len j) ?_;refine vm (p:=ndP) 0 (aJ (aB e)) ?_;refine vm (p:=ndP) 0 (aJ (aB h)) ?_;refine ae (λa=>?_) (λa=>?_)
 ·rw[decide_eq_true (p:=f.n.a=g.n.a) a,Bool.true_and]at b
  cases k:jf B.vars B.orders (bK f) (bK g)with
  |false=>
   rw[k]at i b;have b:false=d:=b;subst b;refine af i ?_;exact kP9
  |true=>
   rw[k]at i;rw[k,Bool.true_and]at b;refine af i ?_;cases u with
   |true=>
    have b:true=d:=b;subst b;exact kP9
   |false=>
    rw[Bool.false_or]at b;rw[b]at l;refine af l ?_;exact kP9
 ·rw[decide_eq_false (p:=f.n.a=g.n.a) a]at b
  have b:false=d:=b;subst b;exact kP9
variable{g:Nat}{rc:RcC}
theorem Er(o:tJ B g rc)(s:mG rc)(hcx:CxOk B cx)(hcl:cx.length<=260)(M:n<=g)(F:n<=100000){xs ys:List Tr}(t:∀x∈xs,Ft (QB B) (cx.length:Int) x)(u:∀x∈ys,Ft (QB B) (cx.length:Int) x)(hl:xs.length=ys.length)(H:xs.length<=100000):VP prog 217 241 (iJ B cx n) (kN B cx (cX rc cx xs ys n)).1 [bw (xs.map row),bw (ys.map row)] (kN B cx (cX rc cx xs ys n)).2:=by
 generalize f:cX rc cx xs ys n=d;have O:=ak rP (xs.map row);have S:=ak row xs;refine aX (r:=.ok (_,_)) 25 [.tmp 6] τok func217 ?_;refine aj τok<|az τok (σ:=Nat×Nat) [(0,_),(1,_),(2,_),(9,_)] [] (λq=>[(10,vI q.1)]) (λq=>[(0,.st 1 241 ((iJ B cx q.2).map .p))]) (λq=>q.1<=xs.length/\q.2<=n/\cX rc cx (xs.drop q.1) (ys.drop q.1) q.2=d) (λq=>xs.length-q.1) (0,n) ⟨KV _,KJ _,f⟩ ?_
 clear f
 rintro⟨i,m⟩ ⟨I,L,a⟩;simp only at I L a
 dsimp only
 refine aj τok<|ae (λj=>?_) (λj=>?_)
 ·have j:(i:Int)<(((xs.map row).map rP).length:Int):=j
  obtain⟨x,D,v⟩:=ay (l:=xs) (k:=i);obtain⟨y,E,w⟩:=ay (l:=ys) (k:=i);rw[v,w]at a;simp only[cX]at a;have h:=o cx x y false m hcx hcl (t x (JQ D)) (u y (JQ E)) Oo Oo;unfold lS at h;refine vm (p:=rP) i (x:=row x) (by rw[JX,D];rfl) ?_;refine vm (p:=rP) i (x:=row y) (by rw[JX,E];rfl) ?_;cases z:rc cx x y false m with
  |error e=>
   rw[z]at h a;have a:.error e=d:=a;subst a;refine ax h ?_;exact kP9
  |ok q=>
   obtain⟨b,C⟩:=q;have:=s _ _ _ _ _ _ z;simp only at this;rw[z]at h a;cases b with
   |false=>
    have a:.ok (false,C)=d:=a;subst a;refine ax h ?_;exact kP9
   |true=>
    have a:cX rc cx (xs.drop (i+1)) (ys.drop (i+1)) C=d:=a;refine ax h ?_;refine vk ?_;refine vi ?_;exact au (i+1,C) ⟨OS,OS,a⟩
 ·have j:¬ (i:Int)<(((xs.map row).map rP).length:Int):=j
  rw[JY Oo]at a;have a:.ok (true,m)=d:=a;subst a;exact eP9
end
end Go.Proofs.YtjnjbghlemiklaaGreat
