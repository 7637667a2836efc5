import Derived.Test.YtjnjbghlemiklaaGreatMq13
set_option linter.unusedVariables false
set_option linter.unusedSimpArgs false
set_option linter.unusedSectionVars false
set_option maxRecDepth 100000
set_option maxHeartbeats 4000000
open Go.Proofs.Tryz
namespace Go.Proofs.YtjnjbghlemiklaaGreat
open Go.Wx Cd Tm Lv
theorem L6{a:List Atom}(ha:a.length<=1000000){by_:Int}:VC prog 53 [cr a,pI by_] (.tup [cr (fc a by_),pI (di a by_)]):=by
 have A:=ak atP a;have hr:=qR ha 16;have f:∀e,di a by_=e ->e≠0 ->PV.tup [.sl [],pI e]= .tup [cr (fc a by_),pI (di a by_)]:=λe h m=>by
  have:fc a by_=[]:=by unfold fc;rw[if_neg Oo]
  rw[this,h]
  rfl
 refine cA 48 [.tmp 4,.tmp 5] τok func53 ?_;refine aj τok<|bH hr (λr=>?_) (λr=>?_)
 ·have v:=jg r
  refine ae (λo=>?_) (λo=>?_)
  ·exact⟨_,_,rfl,rfl,f 1 (by unfold di;rw[if_neg (by simp[r]),if_pos o]) OO⟩
  have s:di a by_=if a.any (λx=>decide (1000<x.add+by_))then 6 else 0:=by unfold di;rw[if_neg (by simp[r]),if_neg o]
  refine cV 6 1000 48 2 rfl rfl<|az τok (σ:=Nat) [(0,_),(1,_),(4,_),(5,_)] [] (λi=>[(6,.c (.row 1000)),(7,vI i)]) (λi=>[(1000,.rw 48 2 ((gC (a.take i) by_).map atP))]) (λi=>i<=a.length/\∀x∈a.take i,¬ 1000<x.add+by_) (λi=>a.length-i) 0 ⟨KV _,Od⟩ ?_;rintro i ⟨C,p⟩;refine aj τok<|ae (λg=>?_) (λg=>?_)
  ·obtain⟨x,b,D⟩:=ay (l:=a) (k:=i)
   have j:=JQ b;obtain⟨x1,x2,E,F⟩:=v.2 x j;have d:1000<x.add+by_ ->PV.tup [.sl [],pI 6]= .tup [cr (fc a by_),pI (di a by_)]:=λh=>f 6 (by rw[s,if_pos (List.any_eq_true.2 ⟨x,j,decide_eq_true h⟩)]) OO;refine ae (λw=>?_) (λw=>?_)
   ·exact⟨_,_,rfl,rfl,d Oo⟩
   refine vm i b ?_;refine vi ?_;refine ae (λq=>?_) (λq=>?_)
   ·exact⟨_,_,rfl,rfl,d q⟩
   refine vm i b ?_;refine vm i b ?_;refine vi ?_;refine aV ?_ (hb:=by simp[gC];omega);refine vk ?_;refine vi ?_;refine au (i+1) ⟨Oo,λz u=>?_⟩ (sw 1000 46) (y':=⟨congrArg (λl=>some (SE.rw _ _ l)) (by rw[List.take_add_one,b];simp[gC,cQ];rfl),trivial⟩);rw[List.take_add_one,b,Option.toList]at u;rcases List.mem_append.1 u with h|h
   ·exact p z h
   ·obtain rfl:=List.mem_singleton.1 h
    exact q
  ·rw[JG Oo]at p
   have m:di a by_=0:=by
    rw[s,if_neg];intro h;obtain⟨x,b,y⟩:=List.any_eq_true.1 h;exact p x b (of_decide_eq_true y)
   exact⟨_,_,rfl,rfl,by
    have:fc a by_=gC a by_:=if_pos m;rw[this,m,JG Oo]
    rfl⟩
 ·exact⟨_,_,rfl,rfl,f 19 (by unfold di;rw[if_pos r]) OO⟩
def mv(l:List Atom)(v:Nat):Int:=(mapF l v).getD (-1)
theorem E5{l:List Atom}{x:Atom}{v:Nat}(h:x.var≠(v:Int)):mv (l++[x]) v=mv l v:=by
 unfold mv;rw[s6,xC (λe=>h e.symm)]
theorem ze{l:List Atom}{x:Atom}{v:Nat}(h:x.var=(v:Int))(a:0<=x.add):mv (l++[x]) v=if mv l v<x.add then x.add else mv l v:=by
 unfold mv;rw[s6,<- h,s7];cases mapF l x.var with
 |none=>simp;omega
 |some u=>simp
theorem L7{l:List Atom}(hl:∀x∈l,0<=x.add/\x.add<=1000)(v:Nat):-1<=mv l v/\mv l v<=1000/\(mv l v<0 ->mapF l v=none)/\(0<=mv l v ->mapF l v=some (mv l v)):=by
 unfold mv;cases a:mapF l v with
 |none=>simp
 |some u=>
  obtain⟨y,b,_,rfl⟩:=s8 a;have:=hl y b;simp;omega
def ng(a b:List Atom)(k:Nat):List Atom:=(List.range k).filterMap λ(v:Nat)=>(mapF (a++b) v).map λn=>⟨(v:Int),n⟩
theorem E6(a b:List Atom)(k:Nat):ng a b (k+1)=ng a b k++((mapF (a++b) k).map λn=>(⟨(k:Int),n⟩:Atom)).toList:=by
 unfold ng;rw[List.range_succ,List.filterMap_append];cases h:mapF (a++b) k with
 |none=>simp[h]
 |some n=>simp[h]
theorem L8(a b:List Atom)(k:Nat):(ng a b k).length<=k:=by
 have:=List.length_filterMap_le (λ(v:Nat)=>(mapF (a++b) v).map λn=>(⟨(v:Int),n⟩:Atom)) (List.range k)
 simpa[ng]using this
theorem zf{a b:List Atom}(ha:a.length<=1000000)(hb:b.length<=1000000):VC prog 57 [cr a,cr b] (.tup [cr (dh a b),pI (cB a b)]):=by
 have W:=ak atP a;have X:=ak atP b;have z:=qR ha 16;have A:=qR hb 16;have m:∀e,cB a b=e ->e≠0 ->PV.tup [.sl [],pI e]= .tup [cr (dh a b),pI (cB a b)]:=λe h C=>by
  have:dh a b=[]:=by unfold dh;rw[if_neg Oo]
  rw[this,h]
  rfl
 refine cA 80 [.tmp 4,.tmp 5] τok func57 ?_;refine aj τok<|bH z (λq=>?_) (λq=>?_)
 ·refine bH A (λs=>?_) (λs=>?_)
  ·have K:=jg q
   have L:=jg s;have D:=(xD q).1;have E:∀x∈a++b,0<=x.add/\x.add<=1000:=λx d=>by
    rcases List.mem_append.1 d with h|h
    ·have:=K.2 x h;omega
    ·have:=L.2 x h;omega
   have M:cB a b=if 4<(maxL a b).length then 5 else 0:=by unfold cB;rw[if_neg (by simp[q,s])]
   refine cV 6 1000 48 2 rfl rfl<|az τok (σ:=Nat) [(0,_),(1,_),(4,_),(5,_)] [] (λv=>[(6,.c (.row 1000)),(7,vI v)]) (λv=>[(1000,.rw 48 2 ((ng a b v).map atP))]) (λv=>v<=17) (λv=>17-v) 0 OO ?_;rintro v Y;have N:=L8 a b v;refine aj τok<|ae (λg=>?_) (λg=>?_)
   ·refine az τok (σ:=Nat) [(0,_),(1,_),(4,_),(5,_),(6,_),(7,_)] [(1000,_)] (λi=>[(8,vI (mv (a.take i) v)),(9,vI i)]) (λ_=>[]) (λi=>i<=a.length) (λi=>a.length-i) 0 (KV _) ?_
    rintro i u;refine aj τok<|ae (λO=>?_) (λO=>?_)
    ·obtain⟨x,d,P⟩:=ay (l:=a) (k:=i)
     have o:=JQ d;have f:a.take (i+1)=a.take i++[x]:=by rw[List.take_add_one,d];rfl
     refine vm i d ?_;refine ae (λw=>?_) (λw=>?_)
     ·have Q:mapF (a.take i) v=none:=IP λy R e=>by
       have S:(a.take i++[x]).Pairwise (λx y=>x.var<y.var):=by rw[<- f];exact D.sublist (List.take_sublist _ _)
       have:=(List.pairwise_append.1 S).2.2 y R x Od;omega
      refine vm i d ?_;refine vi ?_;exact au (i+1) (by show i+1<=_;omega) (x:=⟨by
       have:=(K.2 x o).1;have e:mv (a.take (i+1)) v=x.add:=by
        rw[f,ze w this,if_pos];unfold mv;rw[Q];simp;omega
       rw[e];rfl,rfl,trivial⟩)
     ·refine vi ?_
      exact au (i+1) (by show i+1<=_;omega) (x:=⟨by rw[f,E5 w];rfl,rfl,trivial⟩)
    ·rw[JG Oo]
     refine az τok (σ:=Nat) [(0,_),(1,_),(4,_),(5,_),(6,_),(7,_)] [(1000,_)] (λi=>[(8,vI (mv (a++b.take i) v)),(10,vI i)]) (λ_=>[]) (λi=>i<=b.length) (λi=>b.length-i) 0 (KV _) ?_ (x1:=⟨by rw[List.take_zero,JD];rfl,rfl,trivial⟩);rintro i w;have p:=L7 (l:=a++b.take i) (λx d=>E x (by
      rcases List.mem_append.1 d with h|h
      ·simp[h]
      ·simp[List.mem_of_mem_take h])) v
     refine aj τok<|ae (λT=>?_) (λT=>?_)
     ·obtain⟨x,d,P⟩:=ay (l:=b) (k:=i)
      have o:=JQ d;have r:=(L.2 x o).1;have f:a++b.take (i+1)=(a++b.take i)++[x]:=by rw[List.take_add_one,d];simp
      refine vm i d ?_;refine ae (λj=>?_) (λj=>?_)
      ·refine vm i d ?_
       refine ae (λF=>?_) (λF=>?_)
       ·refine vm i d ?_
        refine vi ?_;exact au (i+1) (by show i+1<=_;omega) (x:=⟨by rw[f,ze j r,if_pos F];rfl,rfl,trivial⟩)
       ·refine vi ?_
        exact au (i+1) (by show i+1<=_;omega) (x:=⟨by rw[f,ze j r,if_neg F];rfl,rfl,trivial⟩)
      ·refine vi ?_
       exact au (i+1) (by show i+1<=_;omega) (x:=⟨by rw[f,E5 j];rfl,rfl,trivial⟩)
     ·rw[JG Oo]at p
      have f:b.take i=b:=JG Oo;refine ae (λj=>?_) (λj=>?_)
      ·rw[f]at j
       have H:=p.2.2.2 j;refine aV ?_ (hb:=OK);refine vi ?_;exact au (v+1) (by show v+1<=17;omega) (sw 1000 75) (y':=⟨congrArg (λl=>some (SE.rw _ _ l)) (by rw[E6,H,f];simp[cQ];rfl),trivial⟩)
      ·rw[f]at j
       have H:=p.2.2.1 Oo;refine vi ?_;exact au (v+1) (by show v+1<=17;omega) (y':=⟨congrArg (λl=>some (SE.rw _ _ l)) (by rw[E6,H];simp),trivial⟩)
   ·have I:v=17:=Oo
    subst I;have U:ng a b 17=maxL a b:=rfl;have V:=ak atP (ng a b 17);refine ae (λu=>?_) (λu=>?_)<;>simp only[V]at u<;>rw[U]at u
    ·exact⟨_,_,rfl,rfl,m 5 (by rw[M,if_pos Oo]) OO⟩
    ·have C:cB a b=0:=by rw[M,if_neg Oo]
     exact⟨_,_,rfl,rfl,by
      have:dh a b=maxL a b:=if_pos C;rw[this,C]
      rfl⟩
  ·exact⟨_,_,rfl,rfl,m 19 (by unfold cB;rw[if_pos (.inr s)]) OO⟩
 ·exact⟨_,_,rfl,rfl,m 19 (by unfold cB;rw[if_pos (.inl q)]) OO⟩
theorem kT{cx:Ctx}(k:Tr)(v:Option Tr)(hc:cx.length<=1000):VC prog 56 [aG (cx.map aA),.agg [ah (row k),ah (nS' v)]] (aG ((cx++[(k,v)]).map aA)):=by
 have:=L2 (c:=cx.map aA) (aA (k,v)) (by simpa using hc);rw[List.map_append];exact this
section
variable{B:aq}{cx:Ctx}{t:Tr}{n:Nat}
def dX(B:aq)(cx:Ctx)(t:Tr)(n:Nat)(r:RS Tr):Prop:=VP prog 29 93 (cH B n 0) (gr B r) [aG (cx.map aA),ah (row t)] (pq r)
variable(hS:dc B)(hR:cZ B=0)(hB:GoodB B)(hcx:CxOk B cx)(hcl:cx.length<=260)(ht:Ft (QB B) (cx.length:Int) t)
include hB hcx hcl ht
theorem L9(h1:t.n.op=1):dX B cx t n (.ok (aH (eZ cx t.n.a).1 (t.n.a+1) 0,n)):=by
 unfold dX;generalize a:(.ok (aH (eZ cx t.n.a).1 (t.n.a+1) 0,n):RS Tr)=h;have c:=aB ht;have eC:=ak bdP (cx.map aA);have i:=ak aA cx;refine aX (r:=.ok (_,_)) 379 [.tmp 6] τok func29 ?_;refine aj τok<|vn (p:=(0:Int)≠0) ?_ OO;refine vm (p:=ndP) 0 (aJ c) ?_;refine af (iI c) ?_;refine vy (p:=t.n.op=1) ?_ h1;have d:0<=t.n.a/\t.n.a<cx.length:=by
  obtain⟨l,m⟩:=t;obtain⟨j,k,_⟩:=ht.var_lt h1;exact⟨j,k⟩
 have e:=mA d.1 d.2;obtain⟨f,o⟩:=hcx _ _ e;refine vi ?_;refine vi ?_;refine vm (p:=bdP) (cx.length-1-t.n.a.toNat) (x:=aA (eZ cx t.n.a)) (by rw[JX,e];rfl) ?_;refine vi ?_;refine af (o4 (x:=(eZ cx t.n.a).1) (aB f) (f.small Oo) (b:=t.n.a+1) (fr:=0) Oo Oo) ?_;refine ax (gu n _) ?_;refine vk ?_;subst a;exact eP9
theorem Ma(h2:t.n.op=2):dX B cx t n (rt t n):=by
 unfold dX;generalize b:rt t n=e;have c:=aB ht;refine aX (r:=.ok (_,_)) 379 [.tmp 6] τok func29 ?_;refine aj τok<|vn (p:=(0:Int)≠0) ?_ OO;refine vm (p:=ndP) 0 (aJ c) ?_;refine af (iI c) ?_;refine vn (p:=t.n.op=1) ?_;refine vy (p:=t.n.op=2) ?_ h2;have f:=(qC ht h2).hi;refine af (tT c h2) ?_;refine af (L6 (a:=bK t) Oo (by_:=1)) ?_;have d:(fc (bK t) 1).length<=1000:=by
  by_cases h:di (bK t) 1=0
  ·have:=(xN (qC ht h2) h).hi
   omega
  ·unfold fc
   simp[h]
 refine af (E4 1 d) ?_;unfold rt at b
 by_cases h:di (bK t) 1=0
 ·rw[if_neg Oo]at b
  subst b;rw[h];refine ax (gu n _) ?_;exact eP9
 ·rw[if_pos h]at b
  subst b;refine ax (kS n h _) ?_;exact eP9
theorem Mb(b:t.n.op=8):dX B cx t n (.ok (tr (aP B t.n.a).type,n)):=by
 unfold dX;generalize a:(.ok (tr (aP B t.n.a).type,n):RS Tr)=e;have c:=aB ht;refine aX (r:=.ok (_,_)) 379 [.tmp 6] τok func29 ?_;refine aj τok<|vn (p:=(0:Int)≠0) ?_ OO;refine vm (p:=ndP) 0 (aJ c) ?_;refine af (iI c) ?_;refine vn (p:=t.n.op=1) ?_;refine vn (p:=t.n.op=2) ?_;refine vn (p:=t.n.op=4) ?_;refine vn (p:=t.n.op=5) ?_;refine vn (p:=t.n.op=6) ?_;refine vn (p:=t.n.op=7) ?_;refine vy (p:=t.n.op=8) ?_ b;obtain⟨i,x,j,k,l,f,h,d⟩:=hB.dfn ht.node' b;refine vm (p:=aQ) i f ?_;refine vk ?_;subst a;refine⟨_,_,_,rfl,rfl,?_,rfl,rfl⟩;simp only[pq,h,d.type,gW d.ft.ok,gz']
 rfl
include hS hR
theorem Mc(d:t.n.op=9):dX B cx t n (dy (fE B t.n.a) n):=by
 unfold dX;generalize a:dy (fE B t.n.a) n=b;have f:=aB ht;refine aX (r:=.ok (_,_)) 379 [.tmp 6] τok func29 ?_;refine aj τok<|vn (p:=(0:Int)≠0) ?_ OO;refine vm (p:=ndP) 0 (aJ f) ?_;refine af (iI f) ?_;refine vn (p:=t.n.op=1) ?_;refine vn (p:=t.n.op=2) ?_;refine vn (p:=t.n.op=4) ?_;refine vn (p:=t.n.op=5) ?_;refine vn (p:=t.n.op=6) ?_;refine vn (p:=t.n.op=7) ?_;refine vn (p:=t.n.op=8) ?_;refine vy (p:=t.n.op=9) ?_ d;have h:=db ht.ok.pl;have c:=Kh hS hR hB (xd ht.node' d h.2.2.1);cases hr:fE B t.n.a with
 |ok x=>
  rw[hr]at c a;have a:(.ok (x,n):RS Tr)=b:=a;subst a;refine af c ?_;refine ax (gu n _) ?_;exact kP9
 |error e=>
  have i:=xR hr;rw[hr]at c a;have a:(.error (e,n):RS Tr)=b:=a;subst a;refine af c ?_;refine ax (kS n (show e≠0 by omega) _) ?_;exact kP9
theorem Me(b:t.n.op=10):dX B cx t n (dy (gh B t.n.a t.n.b) n):=by
 unfold dX;generalize a:dy (gh B t.n.a t.n.b) n=c;have f:=aB ht;refine aX (r:=.ok (_,_)) 379 [.tmp 6] τok func29 ?_;refine aj τok<|vn (p:=(0:Int)≠0) ?_ OO;refine vm (p:=ndP) 0 (aJ f) ?_;refine af (iI f) ?_;refine vn (p:=t.n.op=1) ?_;refine vn (p:=t.n.op=2) ?_;refine vn (p:=t.n.op=4) ?_;refine vn (p:=t.n.op=5) ?_;refine vn (p:=t.n.op=6) ?_;refine vn (p:=t.n.op=7) ?_;refine vn (p:=t.n.op=8) ?_;refine vn (p:=t.n.op=9) ?_;refine vy (p:=t.n.op=10) ?_ b;have h:=db ht.ok.pl;have d:=Km hS hR hB (jK ht.node' (.inl b)) h.1 (sQ ht.node' b);cases hr:gh B t.n.a t.n.b with
 |ok x=>
  rw[hr]at d a;have a:(.ok (x,n):RS Tr)=c:=a;subst a;refine af d ?_;refine ax (gu n _) ?_;exact kP9
 |error e=>
  have i:=xS hr;rw[hr]at d a;have a:(.error (e,n):RS Tr)=c:=a;subst a;refine af d ?_;refine ax (kS n (show e≠0 by omega) _) ?_;exact kP9
variable{rs:RcS}{rc:RcJ}(hfg:Fg rs rc)(hr:cv B rc)
include hfg hr
theorem Mf(h4:t.n.op=4)(K:n<=100000)(A:∀n,n<=100000 ->dQ B rs cx (kidD t 0) n)(C:cx.length<=256 ->∀n,n<=100000 ->dQ B rs (cx++[(kidD t 0,none)]) (kidD t 1) n):dX B cx t n (ru B rs cx t n):=by
 unfold dX;generalize c:ru B rs cx t n=f;have i:=aB ht;have N:=ak aA cx;refine aX (r:=.ok (_,_)) 379 [.tmp 6] τok func29 ?_;refine aj τok<|vn (p:=(0:Int)≠0) ?_ OO;refine vm (p:=ndP) 0 (aJ i) ?_;refine af (iI i) ?_;refine vn (p:=t.n.op=1) ?_;refine vn (p:=t.n.op=2) ?_;refine vy (p:=t.n.op=4) ?_ h4;obtain⟨T,D,O⟩:=dU ht (.inl h4);unfold ru at c;have m:=pu hS hB hfg hr hcx hcl D K (A n K);cases o:fF B rs cx (kidD t 0) n with
 |error e=>
  have s:=jn hr (fj (io hfg _ _) o);rw[o]at m c;have c:(.error e:RS Tr)=f:=c;subst c;refine vm (p:=rP) 0 (aF i) ?_;refine ax m ?_;refine vm (p:=rP) 0 (aF i) ?_;refine af (kT (kidD t 0) none Oo) ?_;refine vm (p:=rP) 1 (aF i) ?_;refine ax (E3 e.2 s _ _) ?_;refine vk ?_;refine vy (p:=e.1≠0) ?_ s;exact eP9
 |ok p=>
 obtain⟨⟨P,d⟩,u⟩:=p;have L:=fW (io hfg _ _) o;obtain⟨U,E,_⟩:=gj hB hr L;obtain⟨_,Q,F⟩:=jm hB hr hcx D L;simp only at E Q F;rw[o]at m c;refine vm (p:=rP) 0 (aF i) ?_;refine ax m ?_;have j:=hcx.snoc D (v:=none) λx R=>by cases R
 have l:Ft (QB B) ((cx++[(kidD t 0,none)]).length:Int) (kidD t 1):=by rw[bL];exact O.mono Oo
 have w:=pu hS hB hfg hr j (by rw[bL];omega) l (n:=u) Oo (C Oo u Oo);have c:bA (fF B rs (cx++[(kidD t 0,none)]) (kidD t 1) u) (λq n=>if cB d q.2≠0 then .error (cB d q.2,n)else .ok (dV q.1 (dh d q.2),n))=f:=c;refine vm (p:=rP) 0 (aF i) ?_;refine af (kT (kidD t 0) none Oo) ?_;refine vm (p:=rP) 1 (aF i) ?_;cases y:fF B rs (cx++[(kidD t 0,none)]) (kidD t 1) u with
 |error e=>
  have s:=jn hr (fj (io hfg _ _) y);rw[y]at w c;have c:(.error e:RS Tr)=f:=c;subst c;refine ax w ?_;refine vk ?_;refine vy (p:=e.1≠0) ?_ s;exact eP9
 |ok p=>
 obtain⟨⟨M,k⟩,z⟩:=p;obtain⟨_,S,H⟩:=jm hB hr j l (fW (io hfg _ _) y);simp only at S H;rw[y]at w c;have c:(if cB d k≠0 then .error (cB d k,z)else .ok (dV M (dh d k),z))=f:=c;refine ax w ?_;refine vk ?_;refine vn (p:=(0:Int)≠0) ?_ OO;have:=F.hi;have:=H.hi;refine af (zf (a:=d) (b:=k) Oo Oo) ?_;have I:(dh d k).length<=1000:=by
  by_cases h:cB d k=0
  ·have:=(xO F H h).hi
   omega
  ·unfold dh
   simp[h]
 refine af (E4 M I) ?_
 by_cases h:cB d k=0
 ·rw[if_neg Oo]at c
  subst c;rw[h];refine ax (gu z _) ?_;exact eP9
 ·rw[if_pos h]at c
  subst c;refine ax (kS z h _) ?_;exact eP9
theorem Mg(D:t.n.op=5)(E:n<=100000)(q:∀n,n<=100000 ->dQ B rs cx (kidD t 0) n)(s:cx.length<=256 ->∀n,n<=100000 ->dQ B rs (cx++[(kidD t 0,none)]) (kidD t 1) n):dX B cx t n (rx B rs cx t n):=by
 unfold dX;generalize a:rx B rs cx t n=b;have c:=aB ht;have I:=ak aA cx;refine aX (r:=.ok (_,_)) 379 [.tmp 6] τok func29 ?_;refine aj τok<|vn (p:=(0:Int)≠0) ?_ OO;refine vm (p:=ndP) 0 (aJ c) ?_;refine af (iI c) ?_;refine vn (p:=t.n.op=1) ?_;refine vn (p:=t.n.op=2) ?_;refine vn (p:=t.n.op=4) ?_;refine vy (p:=t.n.op=5) ?_ D;obtain⟨Q,j,K⟩:=dU ht (.inr D);unfold rx at a;have k:=pu hS hB hfg hr hcx hcl j E (q n E);cases l:fF B rs cx (kidD t 0) n with
 |error e=>
  have d:=jn hr (fj (io hfg _ _) l);rw[l]at k a;have a:(.error e:RS Tr)=b:=a;subst a;refine vm (p:=rP) 0 (aF c) ?_;refine ax k ?_;refine vm (p:=rP) 0 (aF c) ?_;refine af (kT (kidD t 0) none Oo) ?_;refine vm (p:=rP) 1 (aF c) ?_;refine ax (rD e.2 d _ _) ?_;refine vk ?_;refine vy (p:=e.1≠0) ?_ d;exact eP9
 |ok p=>
 obtain⟨⟨L,R⟩,u⟩:=p;have F:=fW (io hfg _ _) l;obtain⟨S,w,_⟩:=gj hB hr F;obtain⟨_,M,N⟩:=jm hB hr hcx j F;simp only at w M N;rw[l]at k a;refine vm (p:=rP) 0 (aF c) ?_;refine ax k ?_;have f:=hcx.snoc j (v:=none) λx O=>by cases O
 have A:Ft (QB B) ((cx++[(kidD t 0,none)]).length:Int) (kidD t 1):=by rw[bL];exact K.mono Oo
 have h:=s Oo u Oo;unfold dQ at h;have a:bA (rs (cx++[(kidD t 0,none)]) (kidD t 1) u) (λz n=>dy (be [kidD t 0] z) n)=b:=a;refine vm (p:=rP) 0 (aF c) ?_;refine af (kT (kidD t 0) none Oo) ?_;refine vm (p:=rP) 1 (aF c) ?_;cases m:rs (cx++[(kidD t 0,none)]) (kidD t 1) u with
 |error e=>
  have d:=hr.er _ _ _ _ (nc hfg m);rw[m]at h a;have a:(.error e:RS Tr)=b:=a;subst a;refine ax h ?_;refine vk ?_;refine vy (p:=e.1≠0) ?_ d;exact eP9
 |ok p=>
 obtain⟨z,i⟩:=p;have H:=hr.ft _ _ _ _ f (by rw[bL];omega) A (jv hfg m);simp only at H;rw[m]at h a;have a:dy (be [kidD t 0] z) i=b:=a;refine ax h ?_;refine vk ?_;refine vn (p:=(0:Int)≠0) ?_ OO;refine vm (p:=rP) 0 (aF c) ?_;have o:=tz (x:=z) (aB H) (ys:=[kidD t 0]) (λy P=>by
  obtain rfl:y=kidD t 0:=by simpa using P
  exact aB j) Od
 cases C:be [kidD t 0] z with
 |ok x=>
  rw[C]at o a;have a:(.ok (x,i):RS Tr)=b:=a;subst a;refine af o ?_;refine ax (gu i _) ?_;exact eP9
 |error e=>
  have d:=jU C;rw[C]at o a;have a:(.error (e,i):RS Tr)=b:=a;subst a;refine af o ?_;refine ax (kS i (show e≠0 by omega) _) ?_;exact eP9
end
section
variable{B:aq}{cx:Ctx}{t:Tr}{n:Nat}{rs:RcS}{rc:RcJ}
variable(hS:dc B)(hR:cZ B=0)(hB:GoodB B)(hcx:CxOk B cx)(hcl:cx.length<=260)(ht:Ft (QB B) (cx.length:Int) t)(hfg:Fg rs rc)(hr:cv B rc)
include hS hR hB hcx hcl ht hfg hr
theorem Mh(K:t.n.op=6)(L:n<=100000)(A:∀n,n<=100000 ->dQ B rs cx (kidD t 0) n)(C:∀n,n<=100000 ->dQ B rs cx (kidD t 1) n):dX B cx t n (ry B rs cx t n):=by
 unfold dX;generalize a:ry B rs cx t n=b;have f:=aB ht;have M:=ak aA cx;refine aX (r:=.ok (_,_)) 379 [.tmp 6] τok func29 ?_;refine aj τok<|vn (p:=(0:Int)≠0) ?_ OO;refine vm (p:=ndP) 0 (aJ f) ?_;refine af (iI f) ?_;refine vn (p:=t.n.op=1) ?_;refine vn (p:=t.n.op=2) ?_;refine vn (p:=t.n.op=4) ?_;refine vn (p:=t.n.op=5) ?_;refine vy (p:=t.n.op=6) ?_ K;obtain⟨R,N,D⟩:=qA ht K;unfold ry at a;refine vm (p:=rP) 0 (aF f) ?_;have i:=A n L;unfold dQ at i;cases j:rs cx (kidD t 0) n with
 |error e=>
  have c:=hr.er _ _ _ _ (nc hfg j);rw[j]at i a;have a:(.error e:RS Tr)=b:=a;subst a;refine ax i ?_;refine ax (rC e.2 c _ _) ?_;refine vn (p:=e.1=0) ?_ c;refine vy (p:=e.1≠0) ?_ c;exact eP9
 |ok q=>
 obtain⟨y,m⟩:=q;have E:=hr.ft _ _ _ _ hcx hcl N (jv hfg j);have O:=hr.le _ _ _ _ (jv hfg j);simp only at E O;rw[j]at a i;have hW:=rE hS hB hcx hcl E (n:=m) Oo;have a:bA (fV B cx y m) (λz n=>if (headT z).n.op≠4 \/0<(argsT z).length then .error (12,n)else
  bA (gO B rs cx (kidD t 1) (kidD (headT z) 0) n) λ_ n=>dy (bk (kidD (headT z) 1) (kidD t 1) 0) n)=b:=a
 refine ax i ?_;cases o:fV B cx y m with
 |error e=>
  have c:=kG (fj (ik y m) o);rw[o]at a hW;have a:(.error e:RS Tr)=b:=a;subst a;refine ax hW ?_;refine vn (p:=e.1=0) ?_ c;refine vy (p:=e.1≠0) ?_ c;exact eP9
 |ok q=>
 obtain⟨z,k⟩:=q;obtain⟨_,F,d⟩:=iG hB hcx E (fW (ik y m) o);simp only at d F;rw[o]at a hW;have a:(if (headT z).n.op≠4 \/0<(argsT z).length then .error (12,k)else
  bA (gO B rs cx (kidD t 1) (kidD (headT z) 0) k) λ_ n=>dy (bk (kidD (headT z) 1) (kidD t 1) 0) n)=b:=a
 refine ax hW ?_;refine vy (p:=(0:Int)=0) ?_ rfl;refine vm (p:=ndP) 0 (aJ (aB d)) ?_;refine ae (λg=>?_) (λg=>?_)
 ·rw[if_pos ((nf (aB d) OO).2 g)]at a
  subst a;refine vy (p:=(12:Int)≠0) ?_ OO;exact eP9
 rw[if_neg (λh=>g ((nf (aB d) OO).1 h))]at a;have g:z.n.op=4:=Decidable.of_not_not g;rw[(gn (x:=z) Oo).1]at a;refine vn (p:=(0:Int)≠0) ?_ OO;refine af (iI (aB d)) ?_;obtain⟨S,P,Q⟩:=dU d (.inl g);refine vm (p:=rP) 1 (aF f) ?_;refine vm (p:=rP) 0 (aF (aB d)) ?_;have s:=tY hS hB hfg hr hcx hcl D P (n:=k) Oo (C k Oo);cases H:gO B rs cx (kidD t 1) (kidD z 0) k with
 |error e=>
  have c:=mO hr (fj (kR hfg _ _ _) H);rw[H]at a s;have a:(.error e:RS Tr)=b:=a;subst a;refine ax s ?_;refine vk ?_;refine vy (p:=e.1≠0) ?_ c;exact eP9
 |ok q=>
 obtain⟨_,l⟩:=q;rw[H]at a s;have a:dy (bk (kidD z 1) (kidD t 1) 0) l=b:=a;refine ax s ?_;refine vk ?_;refine vn (p:=(0:Int)≠0) ?_ OO;refine vm (p:=rP) 1 (aF (aB d)) ?_;refine vm (p:=rP) 1 (aF f) ?_;have w:=tx (x:=kidD z 1) (aB Q) (u:=kidD t 1) (aB D) (D.small Oo) (v:=0) Oo;cases I:bk (kidD z 1) (kidD t 1) 0 with
 |ok x=>
  rw[I]at w a;have a:(.ok (x,l):RS Tr)=b:=a;subst a;refine af w ?_;refine ax (gu l _) ?_;exact kP9
 |error e=>
  have c:=iB I;rw[I]at w a;have a:(.error (e,l):RS Tr)=b:=a;subst a;refine af w ?_;refine ax (kS l (show e≠0 by omega) _) ?_;exact kP9
theorem Mi(M:t.n.op=7)(N:n<=100000)(y:∀n,n<=100000 ->dQ B rs cx (kidD t 0) n)(A:∀n,n<=100000 ->dQ B rs cx (kidD t 1) n)(C:cx.length<=256 ->∀n,n<=100000 ->dQ B rs (cx++[(kidD t 0,some (kidD t 1))]) (kidD t 2) n):dX B cx t n (rz B rs cx t n):=by
 unfold dX;generalize a:rz B rs cx t n=b;have c:=aB ht;have P:=ak aA cx;refine aX (r:=.ok (_,_)) 379 [.tmp 6] τok func29 ?_;refine aj τok<|vn (p:=(0:Int)≠0) ?_ OO;refine vm (p:=ndP) 0 (aJ c) ?_;refine af (iI c) ?_;refine vn (p:=t.n.op=1) ?_;refine vn (p:=t.n.op=2) ?_;refine vn (p:=t.n.op=4) ?_;refine vn (p:=t.n.op=5) ?_;refine vn (p:=t.n.op=6) ?_;refine vy (p:=t.n.op=7) ?_ M;obtain⟨R,D,j,Q⟩:=nM ht M;unfold rz at a;have k:=pu hS hB hfg hr hcx hcl D N (y n N);refine vm (p:=rP) 0 (aF c) ?_;cases l:fF B rs cx (kidD t 0) n with
 |error e=>
  have d:=jn hr (fj (io hfg _ _) l);rw[l]at k a;have a:(.error e:RS Tr)=b:=a;subst a;refine ax k ?_;refine vm (p:=rP) 1 (aF c) ?_;refine vm (p:=rP) 0 (aF c) ?_;refine ax (L3 e.2 d _ _ _) ?_;refine vk ?_;refine vm (p:=rP) 0 (aF c) ?_;refine vm (p:=rP) 1 (aF c) ?_;refine af (kT (kidD t 0) (some (kidD t 1)) Oo) ?_;refine vm (p:=rP) 2 (aF c) ?_;refine ax (rD e.2 d _ _) ?_;refine vk ?_;refine vy (p:=e.1≠0) ?_ d;exact eP9
 |ok p=>
 obtain⟨q1,m⟩:=p;obtain⟨S,E,_⟩:=gj hB hr (fW (io hfg _ _) l);simp only at E;rw[l]at k a;have o:=tY hS hB hfg hr hcx hcl j D (n:=m) Oo (A m Oo);have a:bA (gO B rs cx (kidD t 1) (kidD t 0) m) (λ_ n=>
  bA (rs (cx++[(kidD t 0,some (kidD t 1))]) (kidD t 2) n) λz n=>dy (bk z (kidD t 1) 0) n)=b:=a
 refine ax k ?_;refine vm (p:=rP) 1 (aF c) ?_;refine vm (p:=rP) 0 (aF c) ?_;cases q:gO B rs cx (kidD t 1) (kidD t 0) m with
 |error e=>
  have d:=mO hr (fj (kR hfg _ _ _) q);rw[q]at a o;have a:(.error e:RS Tr)=b:=a;subst a;refine ax o ?_;refine vk ?_;refine vm (p:=rP) 0 (aF c) ?_;refine vm (p:=rP) 1 (aF c) ?_;refine af (kT (kidD t 0) (some (kidD t 1)) Oo) ?_;refine vm (p:=rP) 2 (aF c) ?_;refine ax (rD e.2 d _ _) ?_;refine vk ?_;refine vy (p:=e.1≠0) ?_ d;exact eP9
 |ok p=>
 obtain⟨_,F⟩:=p;have H:=(kF hr (fW (kR hfg _ _ _) q)).2;simp only at H;rw[q]at a o;have f:=hcx.snoc D (v:=some (kidD t 1)) λx I=>by injection I with I;rw[<- I];exact j
 have K:Ft (QB B) ((cx++[(kidD t 0,some (kidD t 1))]).length:Int) (kidD t 2):=by rw[bL];exact Q.mono Oo
 have h:=C Oo F Oo;unfold dQ at h;have a:bA (rs (cx++[(kidD t 0,some (kidD t 1))]) (kidD t 2) F) (λz n=>dy (bk z (kidD t 1) 0) n)=b:=a;refine ax o ?_;refine vk ?_;refine vm (p:=rP) 0 (aF c) ?_;refine vm (p:=rP) 1 (aF c) ?_;refine af (kT (kidD t 0) (some (kidD t 1)) Oo) ?_;refine vm (p:=rP) 2 (aF c) ?_;cases s:rs (cx++[(kidD t 0,some (kidD t 1))]) (kidD t 2) F with
 |error e=>
  have d:=hr.er _ _ _ _ (nc hfg s);rw[s]at h a;have a:(.error e:RS Tr)=b:=a;subst a;refine ax h ?_;refine vk ?_;refine vy (p:=e.1≠0) ?_ d;exact eP9
 |ok p=>
 obtain⟨z,i⟩:=p;have O:=hr.ft _ _ _ _ f (by rw[bL];omega) K (jv hfg s);simp only at O;rw[s]at h a;have a:dy (bk z (kidD t 1) 0) i=b:=a;refine ax h ?_;refine vk ?_;refine vn (p:=(0:Int)≠0) ?_ OO;refine vm (p:=rP) 1 (aF c) ?_;have w:=tx (x:=z) (aB O) (u:=kidD t 1) (aB j) (j.small Oo) (v:=0) Oo;cases L:bk z (kidD t 1) 0 with
 |ok x=>
  rw[L]at w a;have a:(.ok (x,i):RS Tr)=b:=a;subst a;refine af w ?_;refine ax (gu i _) ?_;exact eP9
 |error e=>
  have d:=iB L;rw[L]at w a;have a:(.error (e,i):RS Tr)=b:=a;subst a;refine af w ?_;refine ax (kS i (show e≠0 by omega) _) ?_;exact eP9
end
theorem Mj(B:aq)(x:Tr):fD B x=0 \/fD B x=18:=by
 unfold fD
 generalize (0:Nat)=i
 induction x.n.b.toNat generalizing i with
 |zero=>exact .inl rfl
 |succ k a=>
  simp only[kA];split
  ·first|exact .inr rfl|exact a _
  ·first|exact .inr rfl|exact a _
section
variable{B:aq}{cx:Ctx}{t:Tr}{n:Nat}{rs:RcS}{rc:RcJ}
variable(hS:dc B)(hR:cZ B=0)(hB:GoodB B)(hcx:CxOk B cx)(hcl:cx.length<=260)(ht:Ft (QB B) (cx.length:Int) t)(hfg:Fg rs rc)(hr:cv B rc)
include hS hR hB hcx hcl ht hfg hr
theorem Ml(d:t.n.op=12)(hn:n<=100000)(D:∀i,i<t.n.b.toNat ->∀n,n<=100000 ->dQ B rs cx (kidD t (2*i)) n)(u:cx.length<=256 ->∀i,i<t.n.b.toNat ->∀n,n<=100000 ->dQ B rs (cx++bi t) (kidD t (2*i+1)) n):dX B cx t n (rr B rs cx t n):=by
 unfold dX;obtain⟨l1,l2,l3,l4,l5⟩:=dM ht.ok d;have W:=fK ht.ok d;obtain⟨v,E⟩:∃k,t.n.b.toNat=k:=⟨_,rfl⟩
 have P:t.n.b=(v:Int):=Oo
 generalize c:rr B rs cx t n=l;have s:=aB ht;have X:=ak aA cx;refine aX (r:=.ok (_,_)) 379 [.tmp 6] τok func29 ?_;refine aj τok<|vn (p:=(0:Int)≠0) ?_ OO;refine vm (p:=ndP) 0 (aJ s) ?_;refine af (iI s) ?_;refine vn (p:=t.n.op=1) ?_;refine vn (p:=t.n.op=2) ?_;refine vn (p:=t.n.op=4) ?_;refine vn (p:=t.n.op=5) ?_;refine vn (p:=t.n.op=6) ?_;refine vn (p:=t.n.op=7) ?_;refine vn (p:=t.n.op=8) ?_;refine vn (p:=t.n.op=9) ?_;refine vn (p:=t.n.op=10) ?_;refine vn (p:=t.n.op=11) ?_;unfold rr at c;rw[E]at c D u;obtain⟨U,F⟩:∃f:Unit ->Nat ->RS Tr,f=λ_ n=>if fD B t≠0 then .error (fD B t,n)else bA (nZ B rs (cx++bi t) t v v 0 n) λ_ n=>.ok (kidD t (2*t.n.a.toNat),n):=⟨_,rfl⟩
 rw[<- F]at c;refine az τok (σ:=Nat×RS Unit) [(0,_),(1,_),(2,_),(7,_),(8,_)] [(7,_)] (λq=>[(21,vI q.1)]) (λq=>[(0,.st 1 93 ((gr B q.2).map .p))]) (λq=>q.1<=v/\(match q.2 with
  | .ok p=>p.2<=n/\(0<q.1 ->cx.length<=256)/\bA (pm B rs cx t (v-q.1) q.1 p.2) U=l
  | .error e=>e.1≠0/\ .error e=l)) (λq=>v-q.1) (0,.ok ((),n)) ⟨KV _,KJ _,λh=>absurd h (Nat.lt_irrefl _),c⟩ ?_
 clear c
 rintro⟨i,r⟩ ⟨Y,a⟩;simp only at Y a;refine aj τok<|ae (λg=>?_) (λg=>?_)
 ·have g:(i:Int)<t.n.b:=g
  refine vi ?_;refine vm (p:=rP) (2*i) (aF s) ?_;cases r with
  |error e=>
   refine ax (E3 e.2 a.1 _ _) ?_;refine vi ?_;refine au (i+1,.error e) ⟨OS,a⟩
  |ok p=>
   obtain⟨_,m⟩:=p;obtain⟨L,M,a⟩:=a;simp only at L a;rw[show v-i=(v-(i+1))+1 by omega]at a;simp only[pm]at a;obtain⟨_,_,H,_⟩:=ib ht d (i:=i) Oo;have N:=pu hS hB hfg hr hcx hcl H (n:=m) Oo (D i Oo m Oo);cases w:fF B rs cx (kidD t (2*i)) m with
   |error e=>
    have o:=jn hr (fj (io hfg _ _) w);rw[w]at N a;refine ax N ?_;refine vi ?_;refine au (i+1,.error e) ⟨OS,o,a⟩
   |ok q=>
    obtain⟨q1,y⟩:=q;obtain⟨Z,z,_⟩:=gj hB hr (fW (io hfg _ _) w);simp only at z;rw[w]at N a;refine ax N ?_;refine vi ?_;refine au (i+1,.ok ((),y)) ⟨OS,OS,λ_=>Z,a⟩
 have g:¬ (i:Int)<t.n.b:=g;obtain rfl:i=v:=Oo
 cases r with
 |error e=>
  obtain⟨o,a⟩:=a;subst a;refine vy (p:=e.1≠0) ?_ o;exact eP9
 |ok p=>
 obtain⟨_,m⟩:=p;obtain⟨L,M,a⟩:=a;have M:=M Oo;simp only at L a;rw[Nat.sub_self]at a;have a:U () m=l:=a;rw[F]at a;simp only at a;have u:=u M;have I:=nO hcx Oo ht d;have V:(cx++bi t).length=cx.length+i:=by rw[JK,oU,E]
 refine vn (p:=(0:Int)≠0) ?_ OO;refine af (iH s) ?_;refine bH (KI hB ht d) (λA=>?_) (λA=>?_);rotate_left
 ·have A:=of_decide_eq_false A
  have Q:=(Mj B t).resolve_left A;rw[if_pos A,Q]at a;subst a;refine vk ?_;refine az τok (σ:=Unit) [(0,_),(1,_),(2,_),(7,_),(8,_),(24,vI 0)] [(7,_),(0,.st 1 93 ((cH B m 18).map .p))] (λ_=>[]) (λ_=>[]) (λ_=>True) (λ_=>0) () trivial ?_;rintro⟨⟩ -
  refine aj τok<|vy (p:=(0:Int)<t.n.b) ?_;refine vn (p:=(18:Int)=0) ?_ OO;refine vi ?_;refine vm (p:=rP) (2*t.n.a.toNat) (aF s) ?_;refine ax (pr m (.inl OO) _) ?_;exact eP9
 have A:=of_decide_eq_true A;rw[if_neg Oo]at a;refine vk ?_;refine az τok (σ:=Nat×RS Unit) [(0,_),(1,_),(2,_),(7,_),(8,_)] [(7,_)] (λq=>[(24,vI q.1)]) (λq=>[(0,.st 1 93 ((gr B q.2).map .p))]) (λq=>q.1<=i/\(match q.2 with
  | .ok p=>p.2<=n/\bA (nZ B rs (cx++bi t) t i (i-q.1) q.1 p.2) (λ_ n=>.ok (kidD t (2*t.n.a.toNat),n))=l
  | .error e=>e.1≠0/\ .error e=l)) (λq=>i-q.1) (0,.ok ((),m)) ⟨KV _,L,a⟩ ?_
 clear a
 rintro⟨j,r⟩ ⟨hj,a⟩;simp only at hj a;refine aj τok ?_;cases r with
 |error e=>
  obtain⟨o,a⟩:=a;subst a;refine ae (λC=>?_) (λC=>?_)
  ·refine vn (p:=e.1=0) ?_ o
   refine vi ?_;refine vm (p:=rP) (2*t.n.a.toNat) (aF s) ?_;refine ax (pr e.2 (.inl o) _) ?_;rw[if_neg o];exact eP9
  ·refine vi ?_
   refine vm (p:=rP) (2*t.n.a.toNat) (aF s) ?_;refine ax (pr e.2 (.inl o) _) ?_;rw[if_neg o];exact eP9
 |ok p=>
 obtain⟨_,y⟩:=p;obtain⟨z,a⟩:=a;simp only at z a;refine ae (λC=>?_) (λC=>?_)
 ·have C:(j:Int)<t.n.b:=C
  refine vy (p:=(0:Int)=0) ?_ rfl;rw[show i-j=(i-(j+1))+1 by omega]at a;simp only[nZ]at a;obtain⟨_,_,H,R⟩:=ib ht d (i:=j) Oo;have S:=H.lift (qk B) (b:=(i:Int)) Oo Oo Oo;refine vi ?_;refine vm (p:=rP) (2*j) (aF s) ?_;refine af (o4 (x:=kidD t (2*j)) (aB H) (H.small Oo) (b:=t.n.b) (fr:=0) Oo Oo) ?_;refine ax (gu y _) ?_;refine vk ?_;have hI:cC cx t (2*j+1)=cx++bi t:=by
   unfold cC;rw[if_neg Oo,if_pos Oo]
  have K:=ER (cx:=cx) (qk B) ht Oo Oo Oo (2*j+1) Oo;rw[hI]at K;refine vi ?_;refine vi ?_;refine af K ?_;refine vi ?_;refine vi ?_;refine vm (p:=rP) (2*j+1) (aF s) ?_;have R:Ft (QB B) ((cx++bi t).length:Int) (kidD t (2*j+1)):=R.mono Oo;have S:Ft (QB B) ((cx++bi t).length:Int) (aH (kidD t (2*j)) i 0):=S.mono Oo;have O:=tY hS hB hfg hr I Oo R S (n:=y) Oo (u j Oo y Oo);rw[P];cases w:gO B rs (cx++bi t) (kidD t (2*j+1)) (aH (kidD t (2*j)) i 0) y with
  |error e=>
   have o:=mO hr (fj (kR hfg _ _ _) w);rw[w]at O a;refine ax O ?_;refine vk ?_;refine vi ?_;refine au (j+1,.error e) ⟨OS,o,a⟩
  |ok q=>
   obtain⟨_,m2⟩:=q;have T:=(kF hr (fW (kR hfg _ _ _) w)).2;simp only at T;rw[w]at O a;refine ax O ?_;refine vk ?_;refine vi ?_;refine au (j+1,.ok ((),m2)) ⟨OS,OS,a⟩
 ·have C:¬ (j:Int)<t.n.b:=C
  obtain rfl:j=i:=Oo
  rw[Nat.sub_self]at a;have a:(.ok (kidD t (2*t.n.a.toNat),y):RS Tr)=l:=a;subst a;refine vi ?_;refine vm (p:=rP) (2*t.n.a.toNat) (aF s) ?_;refine ax (gu y _) ?_;exact eP9
end
def pv(B:aq)(rs:RcS)(g:Nat):Prop:=∀(cx:Ctx) (k:Nat) (t:Tr) (n:Nat),CxOk B cx ->cx.length<=260 ->Ft (QB B) (cx.length:Int) t ->Mt k t ->k*5000+(row t).length<=g ->n<=100000 ->dQ B rs cx t n
section
variable{B:aq}{n g:Nat}{rs:RcS}{rc:RcJ}
variable(hS:dc B)(hB:GoodB B)(hfg:Fg rs rc)(hr:cv B rc)
include hS hB hfg hr
theorem Mm(M:pv B rs g)(hn:n<=100000){a:Int}(ha:bI B B.ents.length a=true)(R:a.toNat*5000+4096<=g):VP prog 41 93 (cH B n 0) (gr B (lV B rs a n)) [pI a] (rB (lV B rs a n)):=by
 obtain⟨i,x,s,f,qi,rfl,_,D,N,o⟩:=hB.fam ha (KJ _);obtain⟨E,e2,e3⟩:=o.ps_eq D;have R:i*5000+4096<=g:=by simpa using R
 generalize d:lV B rs (i:Int) n=u;unfold lV at d;rw[E,N]at d;have V:=o.lp;have W:=o.lc;have l1:=ak aZ x.ctors;have l2:=ak (λt=>[ah t]) x.params;have X:=congrArg List.length o.params;rw[List.length_map]at X;refine aX (r:=.ok (_,_)) 87 [.tmp 4] τok func41 ?_;refine aj τok<|vm (p:=aQ) i D ?_;refine ae (λF=>?_) (λF=>?_)
 ·have F:¬ ((x.ctors.map aZ).length:Int)=1:=F
  refine ae (λv=>?_) (λv=>?_)
  ·have v:((x.ctors.map aZ).length:Int)=0:=v
   rw[if_pos Oo]at d;subst d;exact eP9
  ·have v:¬ ((x.ctors.map aZ).length:Int)=0:=v
   rw[if_neg Oo,if_pos Oo]at d;subst d;exact eP9
 have F:¬ ¬ ((x.ctors.map aZ).length:Int)=1:=F;rw[if_neg Oo,if_neg Oo]at d;obtain⟨c,H,_⟩:=ay (l:=x.ctors) (k:=0);obtain⟨h,go,z⟩:=o.ct 0 c H;obtain⟨O,S,e6⟩:=z.ag_eq D H;have O:jj B (i:Int) 0=h:=O;rw[O]at d;have Y:=z.la;have l4:=ak (λt=>[ah t]) c.args;have Z:=congrArg List.length z.args;rw[List.length_map]at Z;have I:∀(k:Nat) y,f[k]?=some y ->Ft (QB B) (k:Int) y:=λk y w=>o.up_p hB D w;refine cV 6 1000 72 2 rfl rfl<|az τok (σ:=Nat) [(0,_),(1,_),(5,_)] [(0,_),(5,_)] (λj=>[(6,.c (.row 1000)),(7,vI j)]) (λj=>[(1000,.rw 72 2 (((cJ (f.take j)).map aA).map bdP))]) (λj=>j<=f.length) (λj=>f.length-j) 0 (KV _) ?_;intro j T;have S:(f.take j).length=j:=by rw[List.length_take];omega
 have e7:((cJ (f.take j)).map aA).length=j:=by rw[List.length_map,rf,S]
 refine aj τok<|ae (λg=>?_) (λg=>?_)
 ·have g:(j:Int)<((x.params.map λt=>[ah t]).length:Int):=g
  obtain⟨p,A,_⟩:=ay (l:=f) (k:=j);refine vm (p:=rP) j (x:=row p) (by rw[o.params,JX,A];rfl) ?_;refine aV ?_ (hb:=by rw[ak];omega);refine vi ?_;exact au (j+1) (by show j+1<=_;omega) (sw 1000 42) (y':=⟨congrArg (λl=>some (SE.rw _ _ l)) (by
   rw[dA A,tM,List.map_append,List.map_append]
   rfl),trivial⟩)
 have g:¬ (j:Int)<((x.params.map λt=>[ah t]).length:Int):=g;obtain rfl:j=f.length:=Oo
 show VCode _ _ _ _ _;refine lw 6 1000 ?_;refine az τok (σ:=Nat×Nat) [(0,_),(5,_)] [(5,_)] (λq=>[(6,vP (aG ((cJ (f++h.take q.1)).map aA))),(8,vI q.1)]) (λq=>[(0,.st 1 93 ((cH B q.2 0).map .p))]) (λq=>q.1<=h.length/\q.2<=n/\nY B rs (cJ (f++h.take q.1)) (h.drop q.1) q.2=u) (λq=>h.length-q.1) (0,n) ⟨KV _,KJ _,by simpa using d⟩ ?_ (x1:=⟨by simp[aG];rfl,rfl,trivial⟩)
 clear d
 rintro⟨j,m⟩ ⟨T,hm,b⟩;simp only at T hm b;refine aj τok<|vm (p:=aZ) 0 H ?_;refine ae (λg=>?_) (λg=>?_);rotate_left
 ·have g:¬ (j:Int)<((c.args.map λt=>[ah t]).length:Int):=g
  obtain rfl:j=h.length:=Oo
  rw[List.drop_length]at b;have b:(.ok (true,m):RS Bool)=u:=b;subst b;exact eP9
 have g:(j:Int)<((c.args.map λt=>[ah t]).length:Int):=g;obtain⟨p,A,hd⟩:=ay (l:=h) (k:=j);rw[hd]at b;simp only[nY]at b;have K:(cJ (f++h.take j)).length=f.length+j:=by rw[rf];simp;omega
 have C:Ft (QB B) ((cJ (f++h.take j)).length:Int) p:=by rw[K];exact z.up_a D o.kind A
 have hcx:CxOk B (cJ (f++h.take j)):=yM λk y w=>by
  by_cases hk:k<f.length
  ·rw[List.getElem?_append_left hk]at w
   exact I k y w
  ·rw[List.getElem?_append_right Oo]at w
   rw[List.getElem?_take]at w;split at w
   ·have:=z.up_a D o.kind w
    exact this.mono Oo
   ·cases w
 have L:=pu hS hB hfg hr hcx Oo C (n:=m) Oo (M _ i _ _ hcx Oo C (EE (z.fa j p A)) (by have:=C.len;omega) Oo);refine vm (p:=aZ) 0 H ?_;refine vm (p:=rP) j (x:=row p) (by rw[z.args,JX,A];rfl) ?_;cases E:fF B rs (cJ (f++h.take j)) p m with
 |error e=>
  have he:=jn hr (fj (io hfg _ _) E);rw[E]at L b;have b:(.error e:RS Bool)=u:=b;subst b;refine ax L ?_;refine vy (p:=e.1≠0) ?_ he;exact eP9
 |ok q=>
 obtain⟨⟨kd,lv⟩,P⟩:=q;obtain⟨_,Q,_⟩:=gj hB hr (fW (io hfg _ _) E);simp only at Q;rw[E]at L b;have b:(if kd≠0 then .ok (false,P)else nY B rs (cJ (f++h.take j)++[(p,none)]) (h.drop (j+1)) P)=u:=b;refine ax L ?_;refine vn (p:=(0:Int)≠0) ?_ OO;refine ae (λv=>?_) (λv=>?_)
 ·rw[if_pos v]at b
  subst b;exact eP9
 rw[if_neg v]at b;refine vm (p:=aZ) 0 H ?_;refine vm (p:=rP) j (x:=row p) (by rw[z.args,JX,A];rfl) ?_;refine af (kT (cx:=cJ (f++h.take j)) p none Oo) ?_;refine vi ?_;have U:cJ (f++h.take (j+1))=cJ (f++h.take j)++[(p,none)]:=by rw[dA A,<- List.append_assoc,tM]
 exact au (j+1,P) ⟨OS,OS,by simp only;rw[U];exact b⟩ (x:=⟨congrArg (λc:Ctx=>some (vP (aG (c.map aA)))) U.symm,rfl,trivial⟩)
end
section
variable{B:aq}{cx:Ctx}{t:Tr}{n g:Nat}{rs:RcS}{rc:RcJ}
variable(hS:dc B)(hR:cZ B=0)(hB:GoodB B)(hcx:CxOk B cx)(hcl:cx.length<=260)(ht:Ft (QB B) (cx.length:Int) t)(hfg:Fg rs rc)(hr:cv B rc)
include hS hR hB hcx hcl ht hfg hr
theorem Mn(b6:t.n.op=11)(hn:n<=100000)(c6:pv B rs g)(hg:t.n.a.toNat*5000+4096<=g)(hT:∀i,i<(kidsT t).length ->∀n,n<=100000 ->dQ B rs cx (kidD t i) n):
  VP prog 63 93 (cH B n 0) (gr B (smatch B rs cx t.n (kidsT t) n)) [aG (cx.map aA),ah (row t),bw ((kidsT t).map row)] (pq (smatch B rs cx t.n (kidsT t) n)):=by
 obtain⟨lk,f8,f5,kf⟩:=qD ht b6;have wt:=aB ht;have ha:=jK ht.node' (.inr b6);obtain⟨i0,x,s,ps,qi,ei,_,hi,a6,hF⟩:=hB.fam ha (KJ _);obtain⟨e1,e2,e3⟩:=hF.ps_eq hi;rw[<- ei]at e1 e2 e3;have f6:=jS hB ha;generalize o:smatch B rs cx t.n (kidsT t) n=K;unfold smatch y8 at o;simp only at o;rw[e1,e2,e3,a6]at o;have c7:(kidsT t).getD 0 (varX 0)=kidD t 0:=rfl;have c8:(kidsT t).getD 1 (varX 0)=kidD t 1:=rfl;rw[c7,c8]at o;have f9:=hF.lp;have f':=hF.li;have eK:=ak (λt=>[ah t]) ((kidsT t).map row);have g0:=ak row (kidsT t);have g':=ak aA cx;have l1:=ak aZ x.ctors;have l2:=ak (λt=>[ah t]) x.params;have l3:=congrArg List.length hF.params;have l4:=ak (λt=>[ah t]) x.indices;have l5:=congrArg List.length hF.indices;rw[List.length_map]at l3 l5;obtain⟨H,a3⟩:∃k,ps.length=k:=⟨_,rfl⟩
 obtain⟨C,c9⟩:∃k,qi.length=k:=⟨_,rfl⟩
 rw[a3,c9]at o;have c':=(cj wt (k:=0)).1;have d0:=(cj wt (k:=1)).1;have k0:=kf _ (JQ c');have k1:=kf _ (JQ d0);refine aX (r:=.ok (_,_)) 337 [.tmp 8] τok func63 ?_;refine aC τok<|aC τok<|vm (p:=ndP) 0 (aJ wt) ?_;refine aC τok<|vm (p:=aQ) i0 hi ?_ (hi:=ei);refine aC τok<|aC τok<|aC τok<|vm (p:=rP) 1 (aF wt) ?_;have s1:=hT 1 Oo n hn;unfold dQ at s1;cases e4:rs cx (kidD t 1) n with
 |error e=>
  have D:=hr.er _ _ _ _ (nc hfg e4);rw[e4]at s1;simp only[e4,gq]at o;subst o;refine ax s1 ?_;refine ax (rC e.2 D _ _) ?_;refine aC τok<|vy (p:=e.1≠0) ?_ D;exact eP9
 |ok q=>
 obtain⟨y,m⟩:=q;have fy:=hr.ft _ _ _ _ hcx hcl k1 (jv hfg e4);have hm:=hr.le _ _ _ _ (jv hfg e4);simp only at fy hm;rw[e4]at s1;simp only[e4,iK]at o;have hW:=rE hS hB hcx hcl fy (n:=m) Oo;refine ax s1 ?_;cases e5:fV B cx y m with
 |error e=>
  have D:=kG (fj (ik y m) e5);rw[e5]at hW;simp only[e5,gq]at o;subst o;refine ax hW ?_;refine aC τok<|vy (p:=e.1≠0) ?_ D;exact eP9
 |ok q=>
 obtain⟨z,m2⟩:=q;obtain⟨f7,d1,fz⟩:=iG hB hcx fy (fW (ik y m) e5);simp only at fz d1;rw[e5]at hW;simp only[e5,iK]at o;refine ax hW ?_;refine aC τok<|vn (p:=(0:Int)≠0) ?_ OO;refine aC τok<|af (yh (aB fz)) ?_;have wh:=aB fz.head;have l6:=ak (λt=>[ah t]) ((argsT z).map row);have l7:=ak row (argsT z);have h0:=mV (aB fz) 4096 fz.len;refine aC τok<|vm (p:=ndP) 0 (aJ wh) ?_;have T:(headT z).n.op≠9 \/(headT z).n.a≠t.n.a \/(argsT z).length≠H+C -> .error (14,m2)=K:=λh=>by
  rw[if_pos h]at o;exact o
 refine ae (λg1=>?_) (λg1=>?_)
 ·have:=T (.inl g1)
  subst this;exact eP9
 refine vm (p:=ndP) 0 (aJ wh) ?_;refine ae (λg2=>?_) (λg2=>?_)
 ·have:=T (.inr (.inl g2))
  subst this;exact eP9
 refine vi ?_;refine ae (λg3=>?_) (λg3=>?_)
 ·have g3:¬ ((((argsT z).map row).map λt=>[ah t]).length:Int)=((x.params.map λt=>[ah t]).length:Int)+((x.indices.map λt=>[ah t]).length:Int):=g3
  have:=T (.inr (.inr Oo));subst this;exact eP9
 have g3:¬ ¬ ((((argsT z).map row).map λt=>[ah t]).length:Int)=((x.params.map λt=>[ah t]).length:Int)+((x.indices.map λt=>[ah t]).length:Int):=g3;have h1:(headT z).n.op=9:=Decidable.of_not_not g1;have h2:(headT z).n.a=t.n.a:=Decidable.of_not_not g2;rw[if_neg Oo]at o;refine aC τok<|vi ?_;refine ae (λg4=>?_) (λg4=>?_)
 ·have g4:¬ ((((kidsT t).map row).map λt=>[ah t]).length:Int)-2=((x.ctors.map aZ).length:Int):=g4
  rw[if_pos (by rw[List.length_drop];omega)]at o;subst o;exact eP9
 have g4:¬ ¬ ((((kidsT t).map row).map λt=>[ah t]).length:Int)-2=((x.ctors.map aZ).length:Int):=g4;rw[if_neg (by rw[List.length_drop];omega)]at o;obtain⟨I,Y⟩:∃l,(argsT z).take H=l:=⟨_,rfl⟩
 have a7:I.length=H:=by rw[<- Y,List.length_take];omega
 have b7:∀k:Nat,k<H ->∃p,(argsT z)[k]?=some p/\I.getD k (varX 0)=p/\Ft (QB B) (cx.length:Int) p:=λk hk=>by
  obtain⟨p,hp,_⟩:=ay (l:=argsT z) (k:=k);refine⟨p,hp,?_,fz.args p (JQ hp)⟩;rw[<- Y,List.getD_eq_getElem?_getD,List.getElem?_take,if_pos hk,hp]
  rfl
 have a8:∀y∈I,Ft (QB B) (cx.length:Int) y:=λy P=>fz.args y (List.mem_of_mem_take (by rw[Y];exact P));rw[Y]at o;refine aC τok<|vm (p:=rP) 0 (aF wt) ?_;have s0:=hT 0 Oo m2 Oo;unfold dQ at s0;refine ax s0 ?_;refine aC τok<|aC τok ?_;obtain⟨KK,b8⟩:∃f:Int ->Nat ->RS Tr,f=λb9 n=>bA (if s.n.a=0/\b9=1 then lV B rs t.n.a n else .ok (true,n)) λs n=>if s=false then .error (17,n)else
    bA (m8 B rs cx t.n.a I (kidD t 0) 0 ((kidsT t).drop 2) n) λ_ n=>dy (aK (kidD t 0) ((argsT z).drop H++[kidD t 1])) n:=⟨_,rfl⟩
 rw[<- b8]at o;have a0:∀q,rs cx (kidD t 0) m2= .ok q ->Ft (QB B) (cx.length:Int) q.1/\q.2<=m2:=λq h=>⟨hr.ft _ _ _ _ hcx hcl k0 (jv hfg h),hr.le _ _ _ _ (jv hfg h)⟩
 have a5:∀e,rs cx (kidD t 0) m2= .error e ->e.1≠0:=λe h=>hr.er _ _ _ _ (nc hfg h)
 generalize rs cx (kidD t 0) m2=r0 at *
 refine az τok (σ:=Nat×Ctx×RS Tr) [(0,_),(1,_),(3,_),(9,_),(10,_),(11,_),(12,_),(15,_)] [(10,_)] (λq=>[(16,vP (pq q.2.2)),(17,vP (aG (q.2.1.map aA))),(18,vI q.1)]) (λq=>[(0,.st 1 93 ((gr B q.2.2).map .p))])
  (λq=>q.1<=C+1/\CxOk B q.2.1/\(q.2.1.length=cx.length+q.1/\q.2.1.length<=257)/\(match q.2.2 with
   | .ok p=>Ft (QB B) (q.2.1.length:Int) p.1/\p.2<=n/\bA (mZ B t.n.a I C (C+1-q.1) q.1 q.2.1 p.1 p.2) KK=K
   | .error e=>q.1=0/\e.1≠0/\ .error e=K)) (λq=>C+1-q.1) (0,cx,r0) ⟨KV _,hcx,⟨rfl,by show cx.length<=257;omega⟩,(by
   cases r0 with
   |error e=>exact⟨rfl,a5 e rfl,o⟩
   |ok q=>exact⟨(a0 q rfl).1,by have:=(a0 q rfl).2;omega,o⟩)⟩ ?_ (y1:=⟨congrArg (λl=>some (SE.st 1 93 l)) (show (gr B r0).map AC.p=((gr B r0).map AC.p).map (AC.ren id) by rw[List.map_map];rfl),trivial⟩)
 clear o a0 a5
 rintro⟨i,A,r⟩ ⟨d2,E,⟨d3,b'⟩,d⟩;simp only at d2 E d3 b' d;have h3:=ak aA A;refine aj τok<|ae (λg5=>?_) (λg5=>?_)
 ·have g5:(i:Int)<=((x.indices.map λt=>[ah t]).length:Int):=g5
  cases r with
  |error e=>
   obtain⟨_,D,d⟩:=d;subst d;refine ax (rC e.2 D _ _) ?_;refine vn (p:=e.1=0) ?_ D;refine vy (p:=e.1≠0) ?_ D;exact eP9
  |ok p=>
  obtain⟨mm,n1⟩:=p;obtain⟨fm,a9,d⟩:=d;simp only at fm a9 d;rw[show C+1-i=(C-i)+1 by omega]at d;simp only[mZ]at d;have hW:=rE hS hB E Oo fm (n:=n1) Oo;cases Z:fV B A mm n1 with
  |error e=>
   have D:=kG (fj (ik mm n1) Z);rw[Z]at hW;simp only[Z,gq]at d;subst d;refine ax hW ?_;refine vn (p:=e.1=0) ?_ D;refine vy (p:=e.1≠0) ?_ D;exact eP9
  |ok q=>
  obtain⟨f,Q⟩:=q;obtain⟨ci,a',ff⟩:=iG hB E fm (fW (ik mm n1) Z);simp only at ff a';have R:=aB ff;rw[Z]at hW;simp only[Z,iK]at d;refine ax hW ?_;refine vy (p:=(0:Int)=0) ?_ rfl;refine vm (p:=ndP) 0 (aJ R) ?_;refine ae (λg6=>?_) (λg6=>?_)
  ·rw[if_pos ((nf R OO).2 g6),gq]at d
   subst d;refine vy (p:=(16:Int)≠0) ?_ OO;exact eP9
  rw[if_neg (λh=>g6 ((nf R OO).1 h))]at d;have g6:f.n.op=4:=Decidable.of_not_not g6;rw[(gn (x:=f) Oo).1]at d;refine vn (p:=(0:Int)≠0) ?_ OO;refine af (iI R) ?_;obtain⟨fl,f0,f1⟩:=dU ff (.inl g6);refine ae (λg7=>?_) (λg7=>?_)
  ·have g7:(i:Int)<((x.indices.map λt=>[ah t]).length:Int):=g7
   obtain⟨q0,b0,_⟩:=ay (l:=qi) (k:=i);have d4:(ji B t.n.a).getD i (varX 0)=q0:=by rw[e2,List.getD_eq_getElem?_getD,b0];rfl
   have b1:iZ B t.n.a I i C=cG I (i:Int) H q0:=by
    unfold iZ;rw[if_pos Oo,d4,a7]
   rw[b1]at d;have d5:Ft (QB B) ((cx.length:Int)+H+i) q0:=(hF.up_i hB hi b0).mono (by rw[a3];omega);obtain⟨V,U⟩:∃r,cG I (i:Int) H q0=r:=⟨_,rfl⟩
   rw[U]at d;refine vm (p:=rP) i (x:=row q0) (by rw[hF.indices,JX,b0];rfl) ?_;refine vi ?_;refine az τok (σ:=Nat×Tr×Int) [(0,_),(1,_),(3,_),(9,_),(10,_),(11,_),(12,_),(15,_),(17,_),(18,_),(19,_)] [(0,_),(10,_)] (λq=>[(20,vP (ah (row q.2.1))),(21,vI q.2.2)]) (λ_=>[])
    (λq=>q.1<=H/\q.2.2=(q.1:Int)-1/\Ft (QB B) ((cx.length:Int)+q.1+i) q.2.1/\cG I (i:Int) q.1 q.2.1=V) (λq=>q.1) (H,q0,((x.params.map λt=>[ah t]).length:Int)-1) ⟨KJ _,OS,d5,U⟩ ?_
   clear U
   rintro⟨k,w,v⟩ ⟨hk,hv,fw,W⟩;simp only at hk hv fw W;refine aj τok<|ae (λO=>?_) (λO=>?_)
   ·have O:v≥0:=O
    obtain⟨k,rfl⟩:∃j,k=j+1:=⟨k-1,Oo⟩
    obtain rfl:v=(k:Int):=Oo
    simp only[cG]at W;obtain⟨p,hp,c0,fp⟩:=b7 k Oo;rw[c0]at W;have b2:=fp.lift (qk B) (b:=(k:Int)) Oo Oo Oo;refine vm (p:=rP) k (x:=row p) (by rw[JX,hp];rfl) ?_;refine af (o4 (x:=p) (aB fp) (fp.small Oo) (b:=(k:Int)) (fr:=0) Oo Oo) ?_;refine ax (gu Q _) ?_;refine af (tx (x:=w) (aB fw) (u:=aH p k 0) (aB b2) (b2.small Oo) (v:=(i:Int)) Oo) ?_;cases L:bk w (aH p k 0) (i:Int)with
    |error e=>
     have D:=iB L;rw[L]at W;have W:.error e=V:=W;subst W;rw[y6,gq,gq]at d;subst d;refine ax (pr Q (.inr (show e≠0 by omega)) _) ?_;rw[if_pos rfl];refine vy (p:=e≠0) ?_;exact eP9
    |ok w'=>
     rw[L]at W;have W:cG I (i:Int) k w'=V:=W;have d6:=iy (qk B) (N:=(cx.length:Int)+k) (v:=(i:Int)) (fw.mono Oo) (b2.mono Oo) Oo Oo Oo Oo L;refine ax (gu Q _) ?_;refine vn (p:=(0:Int)≠0) ?_ OO;refine vi ?_;exact au (k,w',(k:Int)-1) ⟨OS,by simp only,d6.mono OS,W⟩
   ·have O:¬ v≥0:=O
    obtain rfl:k=0:=Oo
    have W:.ok w=V:=W;subst W;rw[y5,iK]at d;have fw:Ft (QB B) (A.length:Int) w:=fw.mono Oo;refine vm (p:=rP) 0 (aF R) ?_;have S:=zd hS hB E Oo f0 fw (n:=Q) Oo false;cases L:ju B A (kidD f 0) w false Q with
    |error e=>
     have D:=qG (fj (n8 _ _ _ _) L);rw[L]at S;simp only[L,gq]at d;subst d;refine ax S ?_;have M:=ip (B:=B) e.2 e.1 16;rw[if_neg D]at M;refine ax M ?_;exact eP9
    |ok q=>
     obtain⟨b,n3⟩:=q;have a1:=(oX (fW (n8 _ _ _ _) L)).2;simp only at a1;rw[L]at S;simp only[L,iK]at d;cases b with
     |false=>
      rw[if_neg OO]at d;have d:(.error (16,n3):RS Tr)=K:=d;subst d;refine ax S ?_;have M:=ip (B:=B) n3 0 16;rw[if_pos rfl]at M;refine ax M ?_;exact eP9
     |true=>
      rw[if_pos rfl]at d;refine ax S ?_;refine vm (p:=rP) 0 (aF R) ?_;refine af (kT (cx:=A) (kidD f 0) none Oo) ?_;refine vm (p:=rP) 1 (aF R) ?_;refine vi ?_;have b3:Ft (QB B) ((A++[(kidD f 0,none)]).length:Int) (kidD f 1):=by rw[bL];exact f1.mono Oo
      exact au (i+1,A++[(kidD f 0,none)],.ok (kidD f 1,n3)) ⟨OS,E.snoc f0 (λx hx=>by cases hx),by rw[bL];omega,b3,OS,by simp only;rw[show C+1-(i+1)=C-i by omega];exact d⟩
  ·have g7:¬ (i:Int)<((x.indices.map λt=>[ah t]).length:Int):=g7
   have b1:iZ B t.n.a I i C=aK (.mk ⟨9,t.n.a,0⟩ []) (I.map (λp=>aH p C 0)++varsM C 0):=by
    unfold iZ;rw[if_neg Oo]
   rw[b1]at d;have c1:Ft (QB B) (A.length:Int) (.mk ⟨9,t.n.a,0⟩ []):=nR (by simp[aw,aE];omega) (.inl rfl) (by
    simp only[QB,bV,aT];simp[ha])
   have c2:∀y∈I.map (λp=>aH p (C:Int) 0)++varsM C 0,Ft (QB B) (A.length:Int) y:=λy P=>by
    rcases List.mem_append.1 P with P|P
    ·obtain⟨p,hp,rfl⟩:=List.mem_map.1 P
     exact((a8 p hp).lift (qk B) (b:=(C:Int)) Oo Oo Oo).mono Oo
    ·exact(kC (qk B) Oo Oo y P).mono Oo
   have d7:(varsM C 0).length=C:=by simp[varsM]
   have b4:=qO (aB c1) (ys:=I.map (λp=>aH p (C:Int) 0)++varsM C 0) (λy P=>aB (c2 y P)) (by rw[JK,List.length_map,d7];omega);have F:VC prog 110 [ah (row (.mk ⟨9,t.n.a,0⟩ [])),.sl (((I.map λp=>aH p (C:Int) 0).map row).map rP++((varsM C 0).map row).map rP)] (cW (aK (.mk ⟨9,t.n.a,0⟩ []) (I.map (λp=>aH p (C:Int) 0)++varsM C 0))):=by
    rw[<- List.map_append,<- List.map_append];exact b4
   have hv:=yt (n:=C) (fr:=0) Oo Oo;have d8:VO prog 111 [pI (((x.indices.map rP).length:Int)-1),pI 0] 29 1 (((varsM C 0).map row).map rP):=by
    have e:((x.indices.map rP).length:Int)-1=0+(C:Int)-1:=by
     have:(x.indices.map rP).length=x.indices.length:=ak rP x.indices;omega
    rw[e];exact hv
   show VCode _ _ _ _ _;refine cV 23 1000 29 1 rfl rfl<|az τok (σ:=Nat) [(0,_),(1,_),(3,_),(9,_),(10,_),(11,_),(12,_),(15,_),(17,_),(18,_),(19,_)] [(0,_),(10,_)] (λj=>[(23,.c (.row 1000)),(24,vI j)]) (λj=>[(1000,.rw 29 1 ((((I.take j).map λp=>aH p (C:Int) 0).map row).map rP))]) (λj=>j<=H) (λj=>H-j) 0 (KV _) ?_;intro j hj;have ej:(I.take j).length=j:=by rw[List.length_take];omega
   refine aj τok<|ae (λO=>?_) (λO=>?_)
   ·have O:(j:Int)<((x.params.map λt=>[ah t]).length:Int):=O
    obtain⟨p,hp,c0,fp⟩:=b7 j Oo;have d9:I[j]?=some p:=by rw[<- Y,List.getElem?_take,if_pos Oo,hp]
    have d':=o4 (x:=p) (aB fp) (fp.small Oo) (b:=(C:Int)) (fr:=0) Oo Oo;have c3:VC prog 52 [ah (row p),pI ((x.indices.map rP).length:Int),pI 0] (.tup [ah (row (aH p (C:Int) 0)),pI 0]):=by
     have e:((x.indices.map rP).length:Int)=(C:Int):=by
      have:(x.indices.map rP).length=x.indices.length:=ak rP x.indices;omega
     rw[e];exact d'
    refine vm (p:=rP) j (x:=row p) (by rw[JX,hp];rfl) ?_;refine af c3 ?_;refine ax (gu Q _) ?_;refine aV ?_ (hb:=OK);refine vi ?_;exact au (j+1) (by show j+1<=_;omega) (sw 1000 190) (y':=⟨congrArg (λl=>some (SE.rw _ _ l)) (by
     rw[dA d9,List.map_append,List.map_append,List.map_append]
     rfl),trivial⟩)
   have O:¬ (j:Int)<((x.params.map λt=>[ah t]).length:Int):=O;obtain rfl:H=j:=Oo
   rw[JG Oo];refine vi ?_;refine eV d8 ?_;refine va (p:=rP) ?_ (iW _) (hb:=OK);cases e9:aK (.mk ⟨9,t.n.a,0⟩ []) (I.map (λp=>aH p (C:Int) 0)++varsM C 0)with
   |error e=>
    have D:=hO e9;rw[e9]at F d;rw[y6,gq,gq]at d;subst d;refine af F ?_;refine ax (kS Q (show e≠0 by omega) _) ?_;refine vm (p:=rP) 0 (aF R) ?_;refine ax (zb Q (show e≠0 by omega) _ _ _ false) ?_;have M:=ip (B:=B) Q e 16;rw[if_neg (show ¬ e=0 by omega)]at M;refine ax M ?_;exact eP9
   |ok w=>
    rw[e9]at F d;rw[y5,iK]at d;have fw:=fL (qk B) c1 c2 e9;refine af F ?_;refine ax (gu Q _) ?_;refine vm (p:=rP) 0 (aF R) ?_;have S:=zd hS hB E Oo f0 fw (n:=Q) Oo false;cases L:ju B A (kidD f 0) w false Q with
    |error e=>
     have D:=qG (fj (n8 _ _ _ _) L);rw[L]at S;simp only[L,gq]at d;subst d;refine ax S ?_;have M:=ip (B:=B) e.2 e.1 16;rw[if_neg D]at M;refine ax M ?_;exact eP9
    |ok q=>
     obtain⟨b,n3⟩:=q;have a1:=(oX (fW (n8 _ _ _ _) L)).2;simp only at a1;rw[L]at S;simp only[L,iK]at d;cases b with
     |false=>
      rw[if_neg OO]at d;have d:(.error (16,n3):RS Tr)=K:=d;subst d;refine ax S ?_;have M:=ip (B:=B) n3 0 16;rw[if_pos rfl]at M;refine ax M ?_;exact eP9
     |true=>
      rw[if_pos rfl]at d;refine ax S ?_;refine vm (p:=rP) 0 (aF R) ?_;refine af (kT (cx:=A) (kidD f 0) none Oo) ?_;refine vm (p:=rP) 1 (aF R) ?_;refine vi ?_;have b3:Ft (QB B) ((A++[(kidD f 0,none)]).length:Int) (kidD f 1):=by rw[bL];exact f1.mono Oo
      exact au (i+1,A++[(kidD f 0,none)],.ok (kidD f 1,n3)) ⟨OS,E.snoc f0 (λx hx=>by cases hx),by rw[bL];omega,b3,OS,by simp only;rw[show C+1-(i+1)=C-i by omega];exact d⟩
 have g5:¬ (i:Int)<=((x.indices.map λt=>[ah t]).length:Int):=g5;obtain rfl:i=C+1:=Oo
 cases r with
 |error e=>exact absurd d.1 Oo
 |ok p=>
 obtain⟨mm,n1⟩:=p;obtain⟨fm,a9,d⟩:=d;simp only at fm a9 d;rw[Nat.sub_self]at d;simp only[mZ]at d;refine aC τok ?_;have hW:=rE hS hB E Oo fm (n:=n1) Oo;cases Z:fV B A mm n1 with
 |error e=>
  have D:=kG (fj (ik mm n1) Z);rw[Z]at hW;simp only[Z,gq]at d;subst d;refine ax hW ?_;refine aC τok<|vn (p:=e.1=0) ?_ D;refine aC τok<|vy (p:=e.1≠0) ?_ D;exact eP9
 |ok q=>
 obtain⟨f,Q⟩:=q;obtain⟨ci,a',ff⟩:=iG hB E fm (fW (ik mm n1) Z);simp only at ff a';have R:=aB ff;rw[Z]at hW;simp only[Z,iK]at d;refine ax hW ?_;refine aC τok<|vy (p:=(0:Int)=0) ?_ rfl;refine vm (p:=ndP) 0 (aJ R) ?_;refine ae (λg6=>?_) (λg6=>?_)
 ·rw[if_pos ((nf R OO).2 g6),gq]at d
  subst d;refine aC τok<|vy (p:=(16:Int)≠0) ?_ OO;exact eP9
 rw[if_neg (λh=>g6 ((nf R OO).1 h))]at d;have g6:f.n.op=2:=Decidable.of_not_not g6;rw[(gn (x:=f) Oo).1,iK,b8]at d;simp only at d;refine aC τok<|vn (p:=(0:Int)≠0) ?_ OO;refine dB τok (σ:=RS Unit) [(0,_),(1,_),(3,_),(9,_),(10,_),(11,_),(15,_)] [(10,_)] (λ_=>[]) (λr=>[(0,.st 1 93 ((gr B r).map .p))])
  (λr=>(match r with
   | .ok p=>p.2<=n
   | .error e=>e.1≠0)/\bA r (λ_ n=>bA (m8 B rs cx t.n.a I (kidD t 0) 0 ((kidsT t).drop 2) n) λ_ n=>dy (aK (kidD t 0) ((argsT z).drop H++[kidD t 1])) n)=K) ?_ ?_
 ·refine vm (p:=ndP) 0 (x:=s.n) (by rw[hF.sort];exact aJ (aB hF.fs)) ?_
  refine ae (λg7=>?_) (λg7=>?_);rotate_left
  ·have g7:¬ s.n.a=0:=g7
   rw[if_neg Oo,iK,if_neg OO]at d;exact au (.ok ((),Q)) ⟨OS,d⟩
  have g7:s.n.a=0:=g7;refine vm (p:=ndP) 0 (aJ R) ?_;refine ae (λO=>?_) (λO=>?_);rotate_left
  ·have O:¬ f.n.a=1:=O
   rw[if_neg Oo,iK,if_neg OO]at d;exact au (.ok ((),Q)) ⟨OS,d⟩
  have O:f.n.a=1:=O;rw[if_pos ⟨g7,O⟩]at d;have a2:=Mm hS hB hfg hr c6 (n:=Q) Oo ha hg;cases L:lV B rs t.n.a Q with
  |error e=>
   have D:=Df hr (fj (y9 hfg _ _) L);rw[L]at a2 d;rw[gq]at d;refine ax a2 ?_;have M:=ip (B:=B) e.2 e.1 17;rw[if_neg D]at M;refine ax M ?_;exact au (.error e) ⟨D,d⟩
  |ok q=>
   obtain⟨b,n3⟩:=q;have a1:=xW hB hr (fW (y9 hfg _ _) L);simp only at a1;rw[L]at a2 d;rw[iK]at d;cases b with
   |true=>
    rw[if_neg OO]at d;refine ax a2 ?_;exact au (.ok ((),n3)) ⟨OS,d⟩
   |false=>
    rw[if_pos rfl]at d;refine ax a2 ?_;have M:=ip (B:=B) n3 0 17;rw[if_pos rfl]at M;refine ax M ?_;exact au (.error (17,n3)) ⟨OS,d⟩
 clear d
 rintro r ⟨b5,d⟩;refine aj τok<|az τok (σ:=Nat×RS Unit) [(0,_),(1,_),(3,_),(9,_),(10,_),(11,_),(15,_)] [(10,_)] (λq=>[(25,vI q.1)]) (λq=>[(0,.st 1 93 ((gr B q.2).map .p))])
  (λq=>q.1<=x.ctors.length/\(match q.2 with
   | .ok p=>p.2<=n/\bA (m8 B rs cx t.n.a I (kidD t 0) q.1 ((kidsT t).drop (2+q.1)) p.2) (λ_ n=>dy (aK (kidD t 0) ((argsT z).drop H++[kidD t 1])) n)=K
   | .error e=>e.1≠0/\ .error e=K)) (λq=>x.ctors.length-q.1) (0,r) ⟨KV _,(by
   cases r with
   |error e=>exact⟨b5,d⟩
   |ok q=>exact⟨b5,d⟩)⟩ ?_ (y1:=⟨congrArg (λl=>some (SE.st 1 93 l)) (show (gr B r).map AC.p=((gr B r).map AC.p).map (AC.ren id) by rw[List.map_map];rfl),trivial⟩)
 clear d b5
 rintro⟨k,r⟩ ⟨hk,d⟩;simp only at hk d;refine aj τok ?_;cases r with
 |error e=>
  obtain⟨D,d⟩:=d;subst d;refine ae (λg1=>?_) (λg1=>?_)
  ·refine vn (p:=e.1=0) ?_ D
   refine vy (p:=e.1≠0) ?_ D;exact eP9
  ·refine vy (p:=e.1≠0) ?_ D
   exact eP9
 |ok p=>
 obtain⟨_,m4⟩:=p;obtain⟨e0,d⟩:=d;simp only at e0 d;have c4:∀y∈(((argsT z).map row).map λt=>[ah t]),y.length=1:=λy P=>by
  obtain⟨_,_,rfl⟩:=List.mem_map.1 P
  rfl
 refine ae (λg9=>?_) (λg9=>?_)
 ·have g9:(k:Int)<((x.ctors.map aZ).length:Int):=g9
  refine vy (p:=(0:Int)=0) ?_ rfl;obtain⟨b,hb,e6⟩:=ay (l:=kidsT t) (k:=2+k);have e':kidD t (2+k)=b:=by
   have:=(cj wt (k:=2+k)).1;rw[hb]at this;exact(JB this).symm
  rw[e6]at d;simp only[m8]at d;have fb:=kf _ (JQ hb);have f2:=Ko hS hR hB (N:=(cx.length:Int)) Oo Oo ha (b:=(k:Int)) Oo (by rw[a6];omega) a8 (by rw[a7,e1,a3]) k0;have X:VC prog 113 [aW B,pI t.n.a,pI (k:Int),.sl (((((argsT z).map row).map λt=>[ah t]).take H).drop 0),ah (row (kidD t 0))] (cW (iE B t.n.a (k:Int) I (kidD t 0))):=by
   rw[List.drop_zero,<- List.map_take,<- List.map_take,Y];exact f2
  refine bC 0 H ?_ c4;refine vm (p:=rP) 0 (aF wt) ?_;cases e9:iE B t.n.a (k:Int) I (kidD t 0)with
  |error e=>
   have D:=xQ e9;rw[e9]at X d;rw[y6,gq,gq]at d;refine af X ?_;refine ax (kS m4 (show e≠0 by omega) _) ?_;refine vk ?_;refine vn (p:=e=0) ?_;refine vi ?_;exact au (k+1,.error (e,m4)) ⟨OS,OS,d⟩
  |ok ty=>
   have f3:=C9 hB Oo Oo ha Oo (by rw[a6];omega) a8 (by rw[a7,e1,a3]) k0 e9;rw[e9]at X d;rw[y5,iK]at d;refine af X ?_;refine ax (gu m4 _) ?_;refine vk ?_;refine vy (p:=(0:Int)=0) ?_ rfl;refine vi ?_;refine vm (p:=rP) (2+k) (x:=row b) (by rw[JX,hb];rfl) ?_;have c5:=hT (2+k) Oo m4 Oo;rw[e']at c5;have S:=tY hS hB hfg hr hcx hcl fb f3 (n:=m4) Oo c5;have ek:2+(k+1)=2+k+1:=Oo
   cases a4:gO B rs cx b ty m4 with
   |error e=>
    have D:=mO hr (fj (kR hfg _ _ _) a4);rw[a4]at S d;rw[gq,gq]at d;refine ax S ?_;refine vi ?_;exact au (k+1,.error e) ⟨OS,D,d⟩
   |ok q=>
    obtain⟨_,m5⟩:=q;have f4:=(kF hr (fW (kR hfg _ _ _) a4)).2;simp only at f4;rw[a4]at S d;rw[iK]at d;refine ax S ?_;refine vi ?_;exact au (k+1,.ok ((),m5)) ⟨OS,OS,by simp only;rw[ek];exact d⟩
 have g9:¬ (k:Int)<((x.ctors.map aZ).length:Int):=g9;obtain rfl:k=x.ctors.length:=Oo
 rw[List.drop_of_length_le Oo]at d;have d:dy (aK (kidD t 0) ((argsT z).drop H++[kidD t 1])) m4=K:=d;refine vn (p:=(0:Int)≠0) ?_ OO;refine vm (p:=rP) 0 (aF wt) ?_;refine bC H (argsT z).length ?_ c4 (by show ((x.params.map λt=>[ah t]).length:Int)=_;omega) (by show (argsT z).length=(((argsT z).map row).map λt=>[ah t]).length;omega);have b4:=qO (aB k0) (ys:=(argsT z).drop H++[kidD t 1]) (λy P=>by
  rcases List.mem_append.1 P with P|P
  ·exact aB (fz.args _ (List.mem_of_mem_drop P))
  ·obtain rfl:y=kidD t 1:=by simpa using P
   exact aB k1) (by rw[JK,List.length_drop];simp;omega)
 have eD:((((argsT z).map row).map λt=>[ah t]).take (argsT z).length).drop H=(((argsT z).drop H).map row).map rP:=by
  rw[JG Oo,<- List.map_drop,<- List.map_drop]
  rfl
 rw[eD];refine va (p:=rP) ?_ (iW _) (hb:=by simp[cQ];omega);refine vm (p:=rP) 1 (aF wt) ?_;refine aV ?_ (hb:=by simp[cQ];omega);have F:VC prog 110 [ah (row (kidD t 0)),.sl ((((argsT z).drop H).map row).map rP++[rP (row (kidD t 1))])] (cW (aK (kidD t 0) ((argsT z).drop H++[kidD t 1]))):=by
  rw[show [rP (row (kidD t 1))]=([kidD t 1].map row).map rP from rfl,<- List.map_append,<- List.map_append];exact b4
 cases e9:aK (kidD t 0) ((argsT z).drop H++[kidD t 1])with
 |error e=>
  have D:=hO e9;rw[e9]at F d;have d:(.error (e,m4):RS Tr)=K:=d;subst d;refine af F ?_;refine ax (kS m4 (show e≠0 by omega) _) ?_;exact kP9
 |ok w=>
  rw[e9]at F d;have d:(.ok (w,m4):RS Tr)=K:=d;subst d;refine af F ?_;refine ax (gu m4 _) ?_;exact kP9
end
def LkP(C:Mem)(B:aq)(known:Nat)(self:Int)(v:Value):Prop:=
 ∃v1 v2 v3,v= .agg #[iV B.vars,v1,v2,iV B.nat,v3,iV (known:Int),iV self]/\SV rOr C B.orders v1/\SV rEn C B.ents v2/\SV rPr C B.prims v3/\known<=B.ents.length
def EnP(C:Mem)(x:bX)(v:Value):Prop:=
 ∃w1 w2 w3 w4 w5 w6,v= .agg #[iV x.kind,w1,w2,w3,w4,w5,w6]/\SV rNd C x.sort w1/\SV (gz rNd) C x.params w2/\SV (gz rNd) C x.indices w3/\SV rCt C x.ctors w4/\SV rNd C x.type w5/\SV rNd C x.body w6
structure Bxs(C:Mem)(w:World)(B:aq)(known:Nat)(x:bX)(b2 b3:Nat)(v1 v2 v3 w1 w2 w3 w4 w5 w6:Value):Prop where
 lk:Bk w.heap b2 [iV B.vars,v1,v2,iV B.nat,v3,iV (known:Int),iV (-1)] 123
 en:Bk w.heap b3 [iV x.kind,w1,w2,w3,w4,w5,w6] 67
 o:SV rOr C B.orders v1
 e:SV rEn C B.ents v2
 p:SV rPr C B.prims v3
 k:known<=B.ents.length
 so:SV rNd C x.sort w1
 pa:SV (gz rNd) C x.params w2
 ix:SV (gz rNd) C x.indices w3
 ct:SV rCt C x.ctors w4
 lp:x.params.length<=16
 li:x.indices.length<=16
def Es':List Int ->Int
 |[]=>0
 |a::r=>bh a (Es' r)
def GrP(h:Array Obj)(b:Nat)(g:Lv.G):Prop:=∃es clock l,h[b]?=some (.map es clock)/\Ents es.toList l/\∀x y,g x y=(wZ x y l 0).map (·.2)
def Mo(g:G):Prop:=∀x y v,g x y=some v ->v=1
end Go.Proofs.YtjnjbghlemiklaaGreat
