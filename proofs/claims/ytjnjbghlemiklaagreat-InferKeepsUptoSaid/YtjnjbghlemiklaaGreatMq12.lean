import Derived.Test.YtjnjbghlemiklaaGreatMq11
set_option linter.unusedVariables false
set_option linter.unusedSimpArgs false
set_option linter.unusedSectionVars false
set_option maxRecDepth 100000
set_option maxHeartbeats 4000000
open Go.Proofs.Tryz
namespace Go.Proofs.YtjnjbghlemiklaaGreat
open Go.Wx Cd Tm Lv
theorem Es{f:FuncId}(q:dz prog f)(h:∀w a n c,n<=c ->(n=0 \/∃b o,a=some ⟨b,o,none⟩) ->Calls prog f #[.slice a n c] w λe w'=>(∃d,e= .returned (.slice d n n)/\(n=0 \/d=a))/\Kp [] w w')(l:List (List PV)):VG prog f [.c (.p (.sl l))] [] (.ok (.c (.cl l),[])):=⟨q,λw X C ρ z A m=>by
 match z,A with
 |[v],_=>
 obtain⟨D,E,hr⟩:=m.slot 0 _ rfl λk F=>by cases F
 obtain rfl:v=D:=JB E;have hr:RV C (.sl l) v:=hr;obtain⟨a,c,rfl,hle,r,s⟩:∃a c,v= .slice a l.length c/\l.length<=c/\(l.length=0 \/∃b o,a=some ⟨b,o,none⟩)/\∀d,(l.length=0 \/d=a) ->RV C (.sl l) (.slice d l.length l.length):=by
  cases hr with
  |nil a c=>exact⟨a,c,rfl,KV _,.inl rfl,λd _=>.nil d 0⟩
  |sl _ H b o c f I K L M=>exact⟨_,c,rfl,K,.inr ⟨b,o,rfl⟩,λd u=>u.elim (λr=>by obtain rfl:=List.length_eq_zero_iff.1 r;exact .nil d 0) λe=>e▸ .sl l H b o l.length f I (KJ _) L M⟩
 refine(h w a l.length c hle r).mono λe w' ⟨⟨d,O,u⟩,k⟩=>⟨_,C,ρ,O,λt b P _=>?_,λk x i=>(by cases i),λj k x y g _ i=>(by cases i),λk x g b o v i=>(by cases i),m.sub.tr k,m.c0,m.cn,k.weak Od⟩
 obtain⟨rfl,rfl⟩:=bN P;exact⟨_,rfl,s d u,d,rfl⟩⟩
theorem K0(l:List (List PV)):VG prog 252 [.c (.p (.sl l))] [] (.ok (.c (.cl l),[])):=Es ⟨_,func252,rfl,OO⟩ (λw a n c d e=>by
 refine cO (args:=[_]) 9 [.tmp 2] τok func252 ?_;refine Cm τok rfl n n rfl rfl (KJ _) d ?_;rcases e with rfl|⟨b,o,rfl⟩
 ·exact⟨⟨_,rfl,.inl rfl⟩,Kp.refl _ _⟩
 ·rw[ol]
  exact⟨⟨_,rfl,.inr rfl⟩,Kp.refl _ _⟩) l
theorem K1(l:List (List PV)):VG prog 142 [.c (.p (.sl l))] [] (.ok (.c (.cl l),[])):=Es ⟨_,func142,rfl,OO⟩ (λw a n c d e=>by
 refine cO (args:=[_]) 9 [.tmp 2] τok func142 ?_;refine Cm τok rfl n n rfl rfl (KJ _) d ?_;rcases e with rfl|⟨b,o,rfl⟩
 ·exact⟨⟨_,rfl,.inl rfl⟩,Kp.refl _ _⟩
 ·rw[ol]
  exact⟨⟨_,rfl,.inr rfl⟩,Kp.refl _ _⟩) l
theorem yG(l:List (List Nd×List Nd)):∀x∈l.map bdP,x.length=2/\∀q∈x,q.one=true:=λx b=>by
 obtain⟨y,_,rfl⟩:=List.mem_map.1 b;exact⟨rfl,λq a=>by
  simp only[bdP,JJ,JZ,or_false]at a;rcases a with rfl|rfl<;>rfl⟩
theorem Et(l:List (List Nd×List Nd)):∀x∈l,(bdP x).length=2/\∀q∈bdP x,q.one=true:=λx a=>yG l _ (List.mem_map_of_mem a)
def qZ(c:PV)(cs:List PV):List (Nat×SE):=[(0,.st 1 27 [.p c]),(1,.st 2 239 [.ptr 2 0]),(2,.st 3 241 (cs.map .p))]
theorem K2{B:aq}{c:List (List PV)}{k fu er:PV}:VD prog 251 .returning [0,1] (qZ (.sl c) (fU B k fu er)) (qZ (.sl c) (fU B (.sl c) fu er)):=by
 refine⟨⟨_,func251,rfl,OO⟩,λw X C ρ o=>?_⟩;refine callsD_of_wpS func251 rfl λl p q=>?_;have h:VCode prog 6 (Tryz.f251.body.getD .skip) ⟨kd' (jb [0,1]) 0,qZ (.sl c) (fU B k fu er)⟩ λe A=>e= .normal/\lr id A (qZ (.sl c) (fU B (.sl c) fu er)):=by
  exact aj τok<|⟨rfl,rfl,rfl,rfl,trivial⟩
 have m:=h.run _ _ _ _ _ ⟨C,ρ,o⟩;unfold EvCode at m;refine wpS_of_wp (Go.wp_mono (m _ (nI Od rfl (by simp[ini]))) ?_);rintro e v z ⟨D,d,r,E,⟨rfl,s⟩,i⟩;obtain⟨u,j,b⟩:=i.le (gR (f:=id) (B:=⟨[],qZ (.sl c) (fU B (.sl c) fu er)⟩) True.intro s rfl);exact sK d r rfl q ⟨⟨_,rfl⟩,rfl,u,j,λt a ht=>(by cases ht),b.ent,b.sep,b.off,b.sub,b.c0,b.cn,b.kp⟩
section
variable{B:aq}{cx mo:Ctx}{n:Nat}
theorem Eu(hcx:CxOk B cx)(d:CxOk B (cx++mo))(hcl:(cx++mo).length<=260)(a:0<mo.length){s t:List Nd}{fu er:PV}{u b:Bool}(c:VP prog 197 241 (iJ B (cx++mo) n) (fU B (aG ((cx++mo).map aA)) fu er) [ah s,ah t,.bool u] (.bool b)):
  VP prog 240 241 (iJ B cx n) (fU B (aG (cx.map aA)) fu er) [aG (mo.map aA),ah s,ah t,.bool u] (.bool b):=by
 have e:aG ((cx++mo).map aA)= .sl ((cx.map aA).map bdP++(mo.map aA).map bdP):=by rw[List.map_append];exact congrArg PV.sl (List.map_append ..)
 unfold iJ at c;rw[e]at c;have i:(cx++mo).length=cx.length+mo.length:=JK;refine H5 29 [.tmp 10] τok func240 ?_;refine aj τok ?_;refine aj τok ?_;refine⟨⟨rfl,rfl,rfl⟩,rfl,λj=>?_⟩;refine aC τok ?_;refine bv id (λ_=>0) (K0 _) ?_;refine⟨⟨by simpa using a,yG _⟩,va ?_ (Et _) (hb:=by simp;omega)⟩;refine vk ?_;refine nE 0 5 21 ?_;refine aj τok ?_;refine ax c ?_;refine jP (λk=>sw 2 0 (sw 1 5 (sw 0 11 k))) (λk=>1-k) K2 ?_;exact .inl ⟨_,_,_,id,rfl,rfl,rfl,rfl,⟨rfl,trivial⟩,rfl⟩
end
theorem Ev(l:List Tr)(i:Nat)(h:i+1<l.length):l.drop i=l.getD i (varX 0)::l.getD (i+1) (varX 0)::l.drop (i+2):=by
 rw[List.drop_eq_getElem_cons Oo,List.drop_eq_getElem_cons Oo];simp only[List.getD_eq_getElem?_getD,List.getElem?_eq_getElem (show i<l.length by omega),List.getElem?_eq_getElem h,Option.getD_some]
section
variable{B:aq}{cx mo:Ctx}{n g:Nat}{rc:RcC}
theorem yH(hcx:CxOk B cx)(a:CxOk B (cx++mo))(hcl:(cx++mo).length<=260)(b:0<mo.length){x y:Tr}{u:Bool}{r:Except Int (Bool×Nat)}(h:lS B (cx++mo) x y u n r):VP prog 240 241 (iJ B cx n) (kN B cx r).1 [aG (mo.map aA),ah (row x),ah (row y),.bool u] (kN B cx r).2:=by
 cases r with
 |ok q=>exact Eu hcx a hcl b h
 |error e=>exact Eu hcx a hcl b h
theorem Ew{Q:Nd ->Prop}{N:Int}{x:Tr}(b:Ft Q N x)(a:x.n.op=12):(∀v∈placesM x,I64 v)/\(placesM x).length<=1000:=by
 have j:=dM b.ok a;refine⟨λv c=>?_,by unfold placesM;rw[List.length_map];omega⟩;obtain⟨f,hf,rfl⟩:=List.mem_map.1 c;obtain⟨i,d⟩:=JH hf;obtain⟨_,_,_,_,e,_⟩:=kj b.ok a d;exact(Ct e).2.1
variable(hrc:tJ B g rc)(hle:mG rc)(hcx:CxOk B cx)(hcl:cx.length<=256)(hn:n<=g)(hn1:n<=100000){f h:Tr}(hf:Ft (QB B) (cx.length:Int) f)(hh:Ft (QB B) (cx.length:Int) h)
include hrc hle hcx hcl hn hn1 hf hh
theorem K3(k:f.n.op=12)(u:f.n=h.n):VP prog 241 241 (iJ B cx n) (kN B cx (lD rc cx f h n)).1 [ah (row f),ah (row h),bw ((kidsT f).map row),bw ((kidsT h).map row)] (kN B cx (lD rc cx f h n)).2:=by
 have v:h.n.op=12:=by rw[<- u];exact k
 have I:=aB hf;have P:=aB hh;have hl:=dM hf.ok k;have S:=fK hf.ok k;have K:=fK hh.ok v;rw[<- u]at K;obtain⟨z,T⟩:∃z:Nat,f.n.b=(z:Int):=⟨f.n.b.toNat,Oo⟩
 obtain⟨U,V⟩:=Ew hf k;obtain⟨W,X⟩:=Ew hh v;have Y:=oU f;have C:=nO hcx Oo hf k;have w:(cx++bi f).length=cx.length+z:=by rw[JK];omega
 have eK:=ak rP ((kidsT f).map row);have Z:=ak row (kidsT f);generalize d:lD rc cx f h n=o;unfold lD at d;have E:=yF U W V X;refine aX (r:=.ok (_,_)) 76 [.tmp 10] τok func241 ?_;refine aj τok<|af (Ej hf k) ?_;refine af (Ej hh v) ?_
 by_cases F:placesM f=placesM h
 rotate_left
 ·rw[if_neg F]at d
  rw[decide_eq_false F]at E;have d:.ok (false,n)=o:=d;subst d;refine af E ?_;exact eP9
 rw[if_pos F]at d;rw[decide_eq_true F]at E;refine af E ?_;refine cV 11 1000 72 2 rfl rfl<|az τok (σ:=Nat) [(0,_),(3,_),(4,_)] [(0,_)] (λi=>[(11,.c (.row 1000)),(12,vI ((2*i:Nat):Int))]) (λi=>[(1000,.rw 72 2 ((((bi f).take i).map aA).map bdP))]) (λi=>i<=z) (λi=>z-i) 0 (KV _) ?_;rintro i hi;have l1:((bi f).take i).length=i:=by rw[List.length_take];omega
 refine aj τok<|ae (λs=>?_) (λs=>?_)
 ·have s:((2*i:Nat):Int)<((((kidsT f).map row).map rP).length:Int):=s
  obtain⟨_,_,L,_⟩:=ib hf k (i:=i) Oo;have tt:(bi f).take (i+1)=(bi f).take i++[(aH (kidD f (2*i)) i 0,none)]:=dA (xJ Oo);have hL:VC prog 84 [ah (row (kidD f (2*i))),pI (((2*i:Nat):Int)/2),pI 0] (.tup [ah (row (aH (kidD f (2*i)) i 0)),pI 0]):=by
   rw[show ((2*i:Nat):Int)/2=(i:Int) by omega];exact kt L Oo Oo
  refine vm (p:=rP) (2*i) (aF I) ?_;refine ou Oo Oo Oo<|af hL ?_;refine aV ?_ (hb:=OK);refine vi ?_;exact au (i+1) (by show i+1<=z;omega) (sw 1000 42) (x:=⟨rfl,congrArg (λn:Int=>some (vI n)) Oo,trivial⟩) (y':=⟨congrArg (λl=>some (SE.rw _ _ l)) (by rw[tt,List.map_append,List.map_append];rfl),trivial⟩)
 have s:¬ ((2*i:Nat):Int)<((((kidsT f).map row).map rP).length:Int):=s;obtain rfl:i=z:=Oo
 rw[JG Oo];refine lw 11 1000 ?_;refine az τok (σ:=Nat×Nat) [(0,_),(3,_),(4,_),(11,_)] [] (λq=>[(15,vI ((2*q.1:Nat):Int))]) (λq=>[(0,.st 1 241 ((iJ B cx q.2).map .p))]) (λq=>q.1<=i/\q.2<=n/\dN rc cx (cx++bi f) ((kidsT f).drop (2*q.1)) ((kidsT h).drop (2*q.1)) q.2=o) (λq=>i-q.1) (0,n) ⟨KV _,KJ _,d⟩ ?_
 clear d s
 rintro⟨j,m⟩ ⟨hj,hm,a⟩;simp only at hj hm a
 dsimp only
 refine aj τok<|ae (λs=>?_) (λs=>?_)
 ·have s:((2*j:Nat):Int)<((((kidsT f).map row).map rP).length:Int):=s
  obtain⟨_,_,L,f1⟩:=ib hf k (i:=j) Oo;obtain⟨_,_,h0,h1⟩:=ib hh v (i:=j) (by rw[<- u];omega);have d1:(kidsT f).drop (2*j)=kidD f (2*j)::kidD f (2*j+1)::(kidsT f).drop (2*(j+1)):=Ev (kidsT f) (2*j) Oo;have d2:(kidsT h).drop (2*j)=kidD h (2*j)::kidD h (2*j+1)::(kidsT h).drop (2*(j+1)):=Ev (kidsT h) (2*j) Oo;rw[d1,d2]at a;simp only[dN]at a;have A:=hrc cx (kidD f (2*j)) (kidD h (2*j)) false m hcx Oo L h0 Oo Oo;unfold lS at A;refine vm (p:=rP) (2*j) (aF I) ?_;refine vm (p:=rP) (2*j) (aF P) ?_;cases M:rc cx (kidD f (2*j)) (kidD h (2*j)) false m with
  |error e=>
   rw[M]at A a;have a:.error e=o:=a;subst a;refine ax A ?_;exact kP9
  |ok q=>
  obtain⟨b,H⟩:=q;have:=hle _ _ _ _ _ _ M;simp only at this;rw[M]at A a;cases b with
  |false=>
   have a:.ok (false,H)=o:=a;subst a;refine ax A ?_;exact kP9
  |true=>
  have a:fP (rc (cx++bi f) (kidD f (2*j+1)) (kidD h (2*j+1)) false H) (dN rc cx (cx++bi f) ((kidsT f).drop (2*(j+1))) ((kidsT h).drop (2*(j+1))))=o:=a;have D:=yH hcx C Oo Oo (hrc _ (kidD f (2*j+1)) (kidD h (2*j+1)) false H C Oo (by rw[w];exact f1.mono Oo) (by rw[w];exact h1.mono (by rw[<- u];omega)) Oo Oo);refine ax A ?_;refine vi ?_;refine vm (p:=rP) (2*j+1) (aF I) ?_;refine vi ?_;refine vm (p:=rP) (2*j+1) (aF P) ?_;cases O:rc (cx++bi f) (kidD f (2*j+1)) (kidD h (2*j+1)) false H with
  |error e=>
   rw[O]at D a;have a:.error e=o:=a;subst a;refine ax D ?_;exact kP9
  |ok q=>
  obtain⟨b,R⟩:=q;have:=hle _ _ _ _ _ _ O;simp only at this;rw[O]at D a;cases b with
  |false=>
   have a:.ok (false,R)=o:=a;subst a;refine ax D ?_;exact kP9
  |true=>
  refine ax D ?_;refine vk ?_;refine vi ?_;exact au (j+1,R) ⟨OS,OS,a⟩ (x:=⟨congrArg (λn:Int=>some (vI n)) OS,trivial⟩)
 ·have s:¬ ((2*j:Nat):Int)<((((kidsT f).map row).map rP).length:Int):=s
  rw[JY Oo]at a;have a:.ok (true,m)=o:=a;subst a;exact eP9
end
section
variable{B:aq}{cx:Ctx}{n g:Nat}{rc:RcC}
section
variable(hI:BoI B)(hrc:tJ B g rc)(hle:mG rc)(hcx:CxOk B cx)(hcl:cx.length<=256)(hn:n<=g)(hn1:n<=100000){f h:Tr}(hf:Ft (QB B) (cx.length:Int) f)(hh:Ft (QB B) (cx.length:Int) h)
include hI hrc hle hcx hcl hn hn1 hf hh
theorem K4(j:f.n.op=h.n.op)(K:f.n.op≠7)(u:Bool):VP prog 216 241 (iJ B cx n) (kN B cx (iC B rc cx f h u n)).1 [ah (row f),ah (row h),.bool u] (kN B cx (iC B rc cx f h u n)).2:=by
 have v:=aB hf;have A:=aB hh;have O:=gA hf.ok;generalize a:iC B rc cx f h u n=c;unfold iC at a;refine aX (r:=.ok (_,_)) 107 [.tmp 8] τok func216 ?_;refine aj τok<|af (hY hf) ?_;refine af (hY hh) ?_;refine vm (p:=ndP) 0 (aJ v) ?_;refine ae (λk=>?_) (λk=>?_)
 ·have k:f.n.op=2:=k
  rw[if_pos k]at a;subst a;refine ax (KY hI hf hh k (by rw[<- j];exact k) u) ?_;exact eP9
 have k:¬ f.n.op=2:=k;rw[if_neg k]at a;have L:f.n.op=4 \/f.n.op=5 ->(kidsT f).length=2/\(kidsT h).length=2/\lS B cx (kidD f 0) (kidD h 0) false n (rc cx (kidD f 0) (kidD h 0) false n)/\CxOk B (cx++[(kidD f 0,none)])/\Ft (QB B) ((cx.length+1:Nat):Int) (kidD f 1)/\Ft (QB B) ((cx.length+1:Nat):Int) (kidD h 1):=λg=>by
  obtain⟨F,M,C⟩:=dU hf g;obtain⟨H,d,w⟩:=dU hh (by rw[<- j];exact g);exact⟨F,H,hrc _ _ _ _ _ hcx Oo M d hn hn1,hcx.snoc M λx P=>(by cases P),C.mono Oo,w.mono Oo⟩
 refine ae (λo=>?_) (λo=>?_)
 ·have o:f.n.op=4:=o
  rw[if_pos o]at a;obtain⟨F,H,d,l,C,I⟩:=L (.inl o);unfold lS at d;refine vm (p:=rP) 0 (aF v) ?_;refine vm (p:=rP) 0 (aF A) ?_;cases z:rc cx (kidD f 0) (kidD h 0) false n with
  |error e=>
   rw[z]at d a;have a:.error e=c:=a;subst a;refine ax d ?_;exact kP9
  |ok q=>
  obtain⟨b,m⟩:=q;have:=hle _ _ _ _ _ _ z;simp only at this;rw[z]at d a;cases b with
  |false=>
   have a:.ok (false,m)=c:=a;subst a;refine ax d ?_;exact kP9
  |true=>
   have a:rc (cx++[(kidD f 0,none)]) (kidD f 1) (kidD h 1) u m=c:=a;have w:=yH hcx (mo:=[(kidD f 0,none)]) l (by rw[bL];omega) Nat.one_pos (hrc _ _ _ u m l (by rw[bL];omega) (by rw[bL];exact C) (by rw[bL];exact I) Oo Oo);rw[a]at w;refine ax d ?_;refine vm (p:=rP) 0 (aF v) ?_;refine vm (p:=rP) 1 (aF v) ?_;refine vm (p:=rP) 1 (aF A) ?_;have hr:=w;cases c with
   |error e=>
    refine ax hr ?_;exact kP9
   |ok q=>
    refine ax hr ?_;exact kP9
 have o:¬ f.n.op=4:=o;rw[if_neg o]at a;refine ae (λs=>?_) (λs=>?_)
 ·have s:f.n.op=5:=s
  rw[if_pos s]at a;obtain⟨F,H,d,l,C,I⟩:=L (.inr s);unfold lS at d;refine vm (p:=rP) 0 (aF v) ?_;refine vm (p:=rP) 0 (aF A) ?_;cases z:rc cx (kidD f 0) (kidD h 0) false n with
  |error e=>
   rw[z]at d a;have a:.error e=c:=a;subst a;refine ax d ?_;exact kP9
  |ok q=>
  obtain⟨b,m⟩:=q;have:=hle _ _ _ _ _ _ z;simp only at this;rw[z]at d a;cases b with
  |false=>
   have a:.ok (false,m)=c:=a;subst a;refine ax d ?_;exact kP9
  |true=>
   have a:rc (cx++[(kidD f 0,none)]) (kidD f 1) (kidD h 1) false m=c:=a;have w:=yH hcx (mo:=[(kidD f 0,none)]) l (by rw[bL];omega) Nat.one_pos (hrc _ _ _ false m l (by rw[bL];omega) (by rw[bL];exact C) (by rw[bL];exact I) Oo Oo);rw[a]at w;refine ax d ?_;refine vm (p:=rP) 0 (aF v) ?_;refine vm (p:=rP) 1 (aF v) ?_;refine vm (p:=rP) 1 (aF A) ?_;have hr:=w;cases c with
   |error e=>
    refine ax hr ?_;exact kP9
   |ok q=>
    refine ax hr ?_;exact kP9
 have s:¬ f.n.op=5:=s;rw[if_neg s]at a;refine ae (λi=>?_) (λi=>?_)
 ·have i:f.n.op=12:=i
  rw[if_pos i]at a;refine vm (p:=ndP) 0 (aJ v) ?_;refine vm (p:=ndP) 0 (aJ A) ?_;refine Ei ?_
  by_cases hn:f.n=h.n
  rotate_left
  ·rw[if_neg hn]at a
   have a:.ok (false,n)=c:=a;subst a;rw[decide_eq_false hn];exact kP9
  rw[if_pos hn]at a;rw[decide_eq_true hn];have hr:=K3 hrc hle hcx hcl ‹n<=g› hn1 hf hh i hn;rw[a]at hr;cases c with
  |error e=>
   refine ax hr ?_;exact kP9
  |ok q=>
   refine ax hr ?_;exact kP9
 have i:¬ f.n.op=12:=i;rw[if_neg i]at a;refine vm (p:=ndP) 0 (aJ v) ?_;refine vm (p:=ndP) 0 (aJ A) ?_;refine Ei ?_
 by_cases hn:f.n=h.n
 rotate_left
 ·rw[if_neg hn]at a
  have a:.ok (false,n)=c:=a;subst a;rw[decide_eq_false hn];exact kP9
 rw[if_pos hn]at a;rw[decide_eq_true hn];have D:=lB hf.ok k i;have E:=lB hh.ok (by rw[<- j];exact k) (by rw[<- j];exact i);have hr:=Er hrc hle hcx Oo ‹n<=g› hn1 (xK hf ⟨o,s,K,i⟩) (xK hh (by rw[<- j];exact⟨o,s,K,i⟩)) (by rw[D.1,E.1];have:=D.2;have:=E.2;rw[<- hn]at this;omega) Oo;rw[a]at hr;cases c with
 |error e=>
  refine ax hr ?_;exact kP9
 |ok q=>
  refine ax hr ?_;exact kP9
end
end
theorem VP.wk{P:Program}{f:FuncId}{T:Nat}{cs c1 c d:List PV}{r:PV}(h:VP P f T cs c1 d r)(i:∀C us,cP C c1 us ->cP C c us):VP P f T cs c d r:=.of ⟨h.1,λw C b us j k l m o p q=>((VP.run h).2 w C b us j k l m o p q).mono λe F ⟨v,s,a,u,z,A,D,E⟩=>⟨v,s,a,u,z,A,i _ _ D,E⟩⟩
theorem tK{B:aq}{c n e:PV}{m:Int}(hn:n=pI m)(C:Mem)(us:List Value)(h:cP C (fU B c n e) us):cP C (fU B c .unk e) us:=by
 subst hn;refine⟨h.1,λi x v a b=>?_⟩
 match i,a with
 |0,a=>exact h.2 0 x v a b
 |1,a=>exact h.2 1 x v a b
 |2,a=>exact h.2 2 x v a b
 |3,a=>exact h.2 3 x v a b
 |4,a=>exact h.2 4 x v a b
 |5,a=>exact h.2 5 x v a b
 |6,a=>
  obtain rfl:=JB a;rw[fM (h.2 6 _ v rfl b)];exact .unk m
 |7,a=>exact h.2 7 x v a b
 |i+8,a=>cases a
section
variable{B:aq}{cx:Ctx}(hI:BoI B)(hB:GoodB B)
include hI hB
theorem wx':∀g,tJ B g (cT B g):=by
 have zero:∀(cx:Ctx) (x y:Tr) (u:Bool),lS B cx x y u 0 (.error 10):=λcx x y u=>by
  refine VP.wk (c1:=fU B (aG (cx.map aA)) (pI ((0:Nat):Int)) (pI 10)) ?_ (tK rfl);refine aX (r:=.ok (_,_)) 94 [.tmp 8] τok func197 ?_;refine aj τok<|vy (p:=((0:Nat):Int)=0) ?_ rfl;exact eP9
 intro g
 induction g with
 |zero=>
  intro cx x y u n _ _ _ _ h _;obtain rfl:n=0:=Oo
  exact zero cx x y u
 |succ g I=>
  intro cx x y u n hcx hcl C D hn hn1;cases n with
  |zero=>exact zero cx x y u
  |succ m=>
  have v:(((m+1:Nat):Int)-1)=(m:Int):=Oo
  have eC:=ak bdP (cx.map aA);have P:=ak aA cx;have l:=KX C D;generalize a:cT B (g+1) cx x y u (m+1)=c;simp only[cT,Nat.add_sub_cancel]at a;rw[if_neg Oo]at a
  by_cases A:row x=row y
  ·rw[if_pos A]at a
   rw[decide_eq_true A]at l;subst a;refine aX (r:=.ok (_,_)) 94 [.tmp 8] τok func197 ?_;refine aj τok<|vn (p:=((m+1:Nat):Int)=0) ?_;refine vi ?_;rw[v];refine af l ?_;exact eP9
  rw[if_neg A]at a;rw[decide_eq_false A]at l
  by_cases K:256<cx.length
  ·rw[if_pos K]at a
   subst a;refine VP.wk (c1:=fU B (aG (cx.map aA)) (pI m) (pI 5)) ?_ (tK rfl);refine aX (r:=.ok (_,_)) 94 [.tmp 8] τok func197 ?_;refine aj τok<|vn (p:=((m+1:Nat):Int)=0) ?_;refine vi ?_;rw[v];refine af l ?_;refine vy (p:=(256:Int)<(((cx.map aA).map bdP).length:Int)) ?_;exact eP9
  rw[if_neg K]at a;obtain⟨R,L⟩:=Eo (n:=m) hI hB hcx hcl C;cases d:dC B cx x (m:Int)with
  |error e=>
   rw[d]at a;have a:.error e=c:=a;subst a;refine VP.wk (c1:=fU B (aG (cx.map aA)) (pI 0) (pI e)) ?_ (tK rfl);refine aX (r:=.ok (_,_)) 94 [.tmp 8] τok func197 ?_;refine aj τok<|vn (p:=((m+1:Nat):Int)=0) ?_;refine vi ?_;rw[v];refine af l ?_;refine vn (p:=(256:Int)<(((cx.map aA).map bdP).length:Int)) ?_;refine ax (R e d) ?_;exact eP9
  |ok p=>
  obtain⟨j,M⟩:=p;rw[d]at a;obtain⟨o,O⟩:=tc hB hcx Oo C d;have S:=qB d;simp only at o O S;obtain⟨T,U⟩:=Eo (n:=M) hI hB hcx hcl D;simp only at a;cases i:dC B cx y (M:Int)with
  |error e=>
   rw[i]at a;have a:.error e=c:=a;subst a;refine VP.wk (c1:=fU B (aG (cx.map aA)) (pI 0) (pI e)) ?_ (tK rfl);refine aX (r:=.ok (_,_)) 94 [.tmp 8] τok func197 ?_;refine aj τok<|vn (p:=((m+1:Nat):Int)=0) ?_;refine vi ?_;rw[v];refine af l ?_;refine vn (p:=(256:Int)<(((cx.map aA).map bdP).length:Int)) ?_;refine ax (L _ d) ?_;refine ax (T e i) ?_;exact eP9
  |ok q=>
  obtain⟨k,E⟩:=q;rw[i]at a;obtain⟨w,V⟩:=tc hB hcx Oo D i;have W:=qB i;simp only at w V W;have a:mF B (cT B g) cx j k u E=c:=a;unfold mF at a;have nx:=o.nargs;have lx:=o.len;have eA:=ak (λt=>[ah t]) ((argsT j).map row);have X:=ak row (argsT j);have eB:=ak (λt=>[ah t]) ((argsT k).map row);have Y:=ak row (argsT k);refine aX (r:=.ok (_,_)) 94 [.tmp 8] τok func197 ?_;refine aj τok<|vn (p:=((m+1:Nat):Int)=0) ?_;refine vi ?_;rw[v];refine af l ?_;refine vn (p:=(256:Int)<(((cx.map aA).map bdP).length:Int)) ?_;refine ax (L _ d) ?_;refine ax (U _ i) ?_;refine af (sZ o) ?_;refine af (sZ w) ?_;refine vm (p:=ndP) 0 (aJ (aB o.head)) ?_;refine vm (p:=ndP) 0 (aJ (aB w.head)) ?_;refine ae (λs=>?_) (λs=>?_)
  ·have s:(headT j).n.op≠(headT k).n.op:=s
   rw[if_pos (.inl s)]at a;subst a;exact kP9
  have s:(headT j).n.op=(headT k).n.op:=Decidable.not_not.1 s;refine ae (λz=>?_) (λz=>?_)
  ·have z:((((argsT j).map row).map λt=>[ah t]).length:Int)≠((((argsT k).map row).map λt=>[ah t]).length:Int):=z
   rw[if_pos (.inr Oo)]at a;subst a;exact kP9
  have z:¬ ((((argsT j).map row).map λt=>[ah t]).length:Int)≠((((argsT k).map row).map λt=>[ah t]).length:Int):=z;rw[if_neg Oo]at a;refine vk ?_;have hh:=K4 (n:=E) hI I (ku B g) hcx Oo Oo Oo o.head w.head s O u;cases hr:iC B (cT B g) cx (headT j) (headT k) u E with
  |error e=>
   rw[hr]at hh a;have a:.error e=c:=a;subst a;refine ax hh ?_;exact eP9
  |ok r=>
  obtain⟨b,F⟩:=r;have Z:=C6 (ku B g) hr;simp only at Z;rw[hr]at hh a;cases b with
  |false=>
   have a:.ok (false,F)=c:=a;subst a;refine ax hh ?_;exact eP9
  |true=>
   have a:cX (cT B g) cx (argsT j) (argsT k) F=c:=a;have H:=Er (n:=F) I (ku B g) hcx hcl Oo Oo o.args w.args Oo Oo;rw[a]at H;refine ax hh ?_;cases c with
   |error e=>
    refine ax H ?_;exact eP9
   |ok q=>
    refine ax H ?_;exact eP9
theorem K5(hcx:CxOk B cx)(hcl:cx.length<=260){x y:Tr}(b:Ft (QB B) (cx.length:Int) x)(c:Ft (QB B) (cx.length:Int) y)(f:Int)(u:Bool):VC prog 165 [aW B,aG (cx.map aA),ah (row x),ah (row y),pI f,.bool u] (match kw B cx x y f u with
  | .ok q=>.tup [.bool q.1,pI q.2,pI 0]
  | .error e=>.tup [.bool false,pI 0,pI e]):=by
 have d:=Da';obtain⟨n,hn,hn1⟩:∃n:Nat,min (max f 0) 100000=(n:Int)/\bE f=n:=⟨_,by unfold bE;omega,rfl⟩
 unfold kw;rw[hn1];have a:=wx' hI hB GC cx x y u n hcx hcl b c Oo Oo;unfold lS at a;rw[<- hn]at a;refine vf 43 [.tmp 12,.tmp 13,.tmp 14] τok func165 ?_;cases hr:cT B GC cx x y u n with
 |error e=>
  have i:=qF B GC _ _ _ _ _ _ hr;rw[hr]at a;refine ax a ?_;refine vy (p:=e≠0) ?_ i;exact kA9
 |ok q=>
  rw[hr]at a;refine ax a ?_;refine vn (p:=(0:Int)≠0) ?_ OO;exact kA9
end
theorem K6(l:List Atom):∀x∈l,(atP x).length=2/\∀q∈atP x,q.one=true:=λx _=>⟨rfl,λq a=>by
 simp[atP]at a;rcases a with rfl|rfl<;>rfl⟩
theorem K7(l:List Atom)(a:0<l.length)(hl:l.length<=1000000):VO prog 138 [cr l] 48 2 (l.map atP):=by
 refine lu 8 [.tmp 2] τok func138 ?_;refine aj τok<|qz (l:=l.map atP) τok (by rfl) (by rw[List.length_map];exact a)<|va ?_ (K6 l);exact⟨7,rfl,rfl⟩
theorem yI{a:List Atom}(ha:a.length<=1000000){b:Int}(z:I64 b):VC prog 85 [cr a,pI b] (.tup [cr (fc a b),pI (di a b)]):=by
 have O:=ak atP a;unfold I64 at z;have m:∀e,di a b=e ->e≠0 ->PV.tup [.sl [],pI e]= .tup [cr (fc a b),pI (di a b)]:=λe D A=>by
  have hr:fc a b=[]:=by unfold fc;rw[if_neg (by rw[D];exact A)]
  rw[hr,D]
  rfl
 refine vf 39 [.tmp 4,.tmp 5] τok func85 ?_;refine bH (yE a Oo 16) (λd=>?_) (λd=>?_);rotate_left
 ·exact⟨_,_,rfl,rfl,m 19 (by unfold di;rw[if_pos d]) OO⟩
 refine ae (λC=>?_) (λC=>?_)
 ·exact⟨_,_,rfl,rfl,m 1 (by unfold di;rw[if_neg (by simp[d]),if_pos C]) OO⟩
 have E:di a b=if a.any (λx=>decide (1000<x.add+b))then 6 else 0:=by unfold di;rw[if_neg (by simp[d]),if_neg C]
 obtain⟨I,o⟩:=jg d;have A:0<a.length:=by
  unfold cF at d;split at d
  ·cases d
  ·omega
 refine eV (K7 a A ha) ?_;refine az τok (σ:=Nat×List Atom) [(1,_),(6,_),(16,_)] [] (λq=>[(17,vI q.1)]) (λq=>[(14,.rw 48 2 (q.2.map atP))]) (λq=>q.1<=a.length/\q.2=(gC a b).take q.1++a.drop q.1/\∀x∈a.take q.1,x.add+b<=1000) (λq=>a.length-q.1) (0,a) ⟨KV _,Od,λx j=>by simp at j⟩ ?_;rintro⟨i,l⟩ ⟨K,r,w⟩;simp only at K r w;have P:(gC a b).length=a.length:=List.length_map _;refine aj τok<|ae (λs=>?_) (λs=>?_);rotate_left
 ·have s:¬ (i:Int)<((a.map atP).length:Int):=s
  rw[JG Oo,JY Oo,JD]at r;rw[JG Oo]at w;have F:di a b=0:=by
   rw[E,if_neg];rw[List.any_eq_true];rintro⟨x,j,h⟩;have:=w x j;simp at h;omega
  refine⟨_,_,rfl,rfl,?_⟩;rw[F,show fc a b=l by unfold fc;rw[if_pos F,r]]
  rfl
 have s:(i:Int)<((a.map atP).length:Int):=s;obtain⟨x,j,H⟩:=ay (l:=a) (k:=i);have c:l[i]?=some x:=by
  rw[r,List.getElem?_append_right (by rw[List.length_take];omega),List.length_take,show i-min i (gC a b).length=0 by omega,H]
  rfl
 have L:=o x (JQ j);refine vm (p:=atP) i c ?_;refine dG c<|vi ?_;refine ae (λu=>?_) (λu=>?_)
 ·have u:b>1000-x.add:=u
  exact⟨_,_,rfl,rfl,m 6 (by rw[E,if_pos];rw[List.any_eq_true];exact⟨x,JQ j,OK⟩) OO⟩
 have u:¬ b>1000-x.add:=u
 refine vm (p:=atP) i c ?_;refine dG c<|vi ?_;refine vm (p:=atP) i c ?_;refine dG c<|vi ?_;refine au (i+1,l.set i ⟨x.var,x.add+b⟩) ⟨by show i+1<=_;omega,?_,λy v=>?_⟩ (y':=⟨congrArg (λl=>some (SE.rw _ _ l)) (by rw[List.map_set];rfl),trivial⟩)
 ·show l.set i _=_
  have M:(gC a b)[i]?=some ⟨x.var,x.add+b⟩:=by unfold gC;rw[JX,j];rfl
  rw[r,H,List.set_append_right _ _ (by rw[List.length_take];omega),List.length_take,show i-min i (gC a b).length=0 by omega,List.set_cons_zero,List.take_add_one,M];simp
 ·rw[List.take_add_one,j]at v
  simp at v;rcases v with v|rfl
  ·exact w y v
  ·omega
open Go.Wx Cd Tm Lv
section
variable{Q:Nd ->Prop}{N:Int}{x y:Tr}
theorem Ex{ys:List Tr}(a:Ok .tm x)(hl:(row x).length<=4096)(b:∀y∈ys,Ok .tm y/\(row y).length<=4096)(hn:ys.length<=100000):VC prog 94 [pI 4,bw (ys.map row),ah (row x)] (cW (be ys x)):=by
 rw[show cW (be ys x)=_ by unfold be;rw[apply_ite cW]];exact Ir (.inl rfl) a hl b hn
end
theorem Ey{vars:Int}{l:List Atom}(h:jl vars l):GL (λx:Atom=>I64 x.var/\I64 x.add) l:=⟨by have:=h.hi;omega,λx a=>by
 have:=h.at_ x a;exact⟨⟨Oo,Oo⟩,⟨Oo,Oo⟩⟩⟩
theorem K8{vars:Int}{a:List Atom}(ha:jl vars a):VC prog 85 [cr a,pI 1] (.tup [cr (fc a 1),pI (di a 1)]):=yI (by have:=ha.hi;omega) (by unfold I64;omega)
theorem yJ{vars:Int}{a b:List Atom}(ha:jl vars a)(hb:jl vars b):VC prog 93 [cr a,cr b] (.tup [cr (dh a b),pI (cB a b)]):=HX ⟨_,func93,rfl,OO⟩ λw C H d c i=>by
 obtain⟨v,z,rfl,j,l⟩:=xj i;obtain⟨m,o,rfl,p,I⟩:=br_at.sl (Ey ha) j;obtain⟨q,r,rfl,s,K⟩:=br_at.sl (Ey hb) l;refine(IV d a b m q o r p s).2.mono λe L ⟨u,A,D,⟨E,F⟩,k⟩=>⟨⟨_,D,?_⟩,k⟩
 exact HY (SV.rv DF' ⟨u,A,rfl,E.mono λ_ _ _ h=>.inr h,F⟩) (.int _ _)
section
variable{B:aq}(hI:BoI B)(hB:GoodB B)
include hI hB
theorem K9{x:Tr}{N:Int}(b:Ft (QB B) N x)(a:x.n.op=12):VC prog 157 [aW B,ah (row x)] (pI (fD B x)):=KL hB b a
variable{cx:Ctx}(hcx:CxOk B cx)(hcl:cx.length<=260)
include hcx hcl
theorem La{x y:Tr}(a:Ft (QB B) (cx.length:Int) x)(b:Ft (QB B) (cx.length:Int) y)(n:Int)(u:Bool):VC prog 165 [aW B,aG (cx.map aA),ah (row x),ah (row y),pI n,.bool u] (match kw B cx x y n u with
  | .ok q=>.tup [.bool q.1,pI q.2,pI 0]
  | .error e=>.tup [.bool false,pI 0,pI e]):=K5 hI hB hcx hcl a b n u
end
theorem uy':VC prog 87 [pI 0] (.tup []):=by
 refine vf 7 [] τok func87 ?_;refine vn (p:=(0:Int)≠0) ?_ OO;exact eA9
theorem ee{e:Int}(he:e≠0):VE prog 87 [pI e] (ew e):=by
 refine nB (r:=.error (ew e)) 7 [] τok func87 ?_;refine aj τok<|vy ?_ he;exact qn (λw=>by simp[Instr.makeInterface,underlying129,go_sem])<|rfl
theorem mY{B:aq}{cx:Ctx}(hcx:CxOk B cx)(hcl:cx.length<=300){t:Tr}{o:Option Tr}(ht:Ft (QB B) (cx.length:Int) t)(a:∀x,o=some x ->Ft (QB B) (cx.length:Int) x):VC prog 92 [aG (cx.map aA),.sl [[ah (row t),ah (nS' o)]]] (aG ((cx++[(t,o)]).map aA)):=by
 have e:aG ((cx++[(t,o)]).map aA)= .sl ((cx.map aA).map bdP++[[ah (row t),ah (nS' o)]]):=by rw[List.map_append];exact congrArg PV.sl (List.map_append ..)
 rw[e];refine vf 9 [.tmp 4] τok func92 ?_;refine bv id (λ_=>0) (K1 _) ?_;refine⟨⟨Nat.one_pos,yG _⟩,aV ?_ (hb:=by simp;omega)⟩;exact⟨_,_,rfl,rfl,rfl⟩
theorem Ez{c:List (List Nd×List Nd)}(hc:c.length<=256):VC prog 146 [aG c] (.tup []):=by
 have eC:=ak bdP c;refine vf 6 [] τok func146 ?_;refine vn (p:=(256:Int)<((c.map bdP).length:Int)) ?_;exact eA9
theorem EA{c:List (List Nd×List Nd)}(hc:256<c.length):VE prog 146 [aG c] (ew 5):=by
 have eC:=ak bdP c;refine nB (r:=.error (ew 5)) 6 [] τok func146 ?_;refine aj τok<|vy (p:=(256:Int)<((c.map bdP).length:Int)) ?_;refine bO (ee OO) ?_;exact rfl
theorem EB(kind:Int){l:List Atom}(hl:l.length<=1000):VC prog 88 [pI kind,cr l] (ah (row (dV kind l))):=by
 have d:=ak atP l;generalize b:row (dV kind l)=j;rw[show row (dV kind l)=⟨2,kind,(l.length:Int)⟩::l.map λa=>⟨3,a.var,a.add⟩ by
  have:∀l:List Atom,rows (l.map λa=>Tr.mk ⟨3,a.var,a.add⟩ [])=l.map λa=>(⟨3,a.var,a.add⟩:Nd):=by
   intro l
   induction l with
   |nil=>rfl
   |cons a l m=>simp[rows,row,m]
  simp[dV,row,this]]at b
 refine vf 29 [.tmp 4] τok func88 ?_;refine az τok (σ:=Nat) [(13,_),(14,_)] [] (λi=>[(5,.c (.row 1000)),(15,vI i)]) (λi=>[(1000,.rw 42 3 ([pI 2,pI kind,pI ((l.map atP).length:Int)]::(l.take i).map λa=>[pI 3,pI a.var,pI a.add]))]) (λi=>i<=l.length) (λi=>l.length-i) 0 (KV _) ?_ (sw 1000 12);intro i o;refine aj τok<|ae (λg=>?_) (λg=>?_)
 ·have g:(i:Int)<l.length:=by simpa[d]using g
  obtain⟨a,e,_⟩:=ay (l:=l) (k:=i);refine vm (p:=atP) i e ?_;refine aV ?_ (hb:=OK);refine vi ?_;exact au (i+1) (by show i+1<=_;omega) (sw 1000 26) (y':=⟨congrArg (λl=>some (SE.rw _ _ l)) (by
   rw[dA e];simp[cQ];exact⟨rfl,rfl,rfl⟩),trivial⟩)
 ·have:i=l.length:=by simp[d]at g;omega
  subst this;exact⟨_,_,rfl,rfl,by
   rw[List.take_length,<- b,d];simp[ah,gz',ndP]⟩
theorem yK{n:Nat}{fr:Int}(hn:n<=100)(hf:0<=fr/\fr<=100):VO prog 140 [pI n,pI fr] 29 1 (((varsM n fr).map row).map rP):=by
 have ev:∀k,k<n ->(varsM n fr)[k]?=some (varX (fr+((n-1-k:Nat):Int))):=λk a=>by
  unfold varsM;rw[JX,List.getElem?_range a]
  rfl
 have d:(varsM n fr).length=n:=by simp[varsM]
 refine lu 22 [.tmp 4] τok func140 ?_;refine aj τok<|vi ?_;refine cV 5 1000 29 1 rfl rfl<|az τok (σ:=Nat×Int) [(1,_)] [] (λq=>[(5,.c (.row 1000)),(6,vI q.2)]) (λq=>[(1000,.rw 29 1 ((((varsM n fr).take q.1).map row).map rP))]) (λq=>q.1<=n/\q.2=(n:Int)-1-q.1) (λq=>n-q.1) (0,(n:Int)-1) ⟨KV _,OS⟩ ?_;rintro⟨k,v⟩ ⟨a,b⟩;simp only at a b;have e:((varsM n fr).take k).length=k:=by rw[List.length_take];omega
 refine aj τok<|ae (λg=>?_) (λg=>?_)
 ·have g:v≥0:=g
  refine vi ?_;refine aV ?_ (hb:=OK);refine vi ?_;exact au (k+1,v-1) ⟨OS,OS⟩ (sw 1000 20) (y':=⟨congrArg (λl=>some (SE.rw _ _ l)) (by
   rw[dA (ev k Oo),List.map_append,List.map_append,show fr+((n-1-k:Nat):Int)=fr+v by omega]
   rfl),trivial⟩)
 ·have g:¬ v≥0:=g
  exact⟨1000,rfl,congrArg (λl=>some (SE.rw 29 1 ((List.map row l).map rP))) (JG (l:=varsM n fr) (i:=k) Oo)⟩
section
variable{B:aq}(hB:GoodB B)
include hB
theorem ra{x:Tr}{ys:List Tr}{l:List (List Nd)}{t:List Nd}{Q:Nd ->Prop}(b:Ok .tm x)(hl:(row x).length<=4096)(a:∀y∈ys,Ft Q 90000 y)(hn:ys.length<=1000)(c:l=ys.map row)(d:t=row x):VC prog 94 [pI 4,bw l,ah t] (cW (be ys x)):=by
 subst c d;exact Ex b hl (λy h=>⟨(a y h).ok,(a y h).len⟩) Oo
theorem Lb{a:Int}(ha:bI B B.ents.length a=true):VC prog 89 [aW B,pI a] (cW (fE B a)):=by
 obtain⟨i,x,s,u,v,rfl,_,l,C,c⟩:=hB.fam ha (KJ _);obtain⟨D,E,F⟩:=c.ps_eq l;have H:=c.lp;have I:=c.li;have w:∀y∈u,Ft (QB B) 90000 y:=λy o=>by
  obtain⟨k,q⟩:=JH o;exact(c.up_p hB l q).mono (by have:=aI q;omega)
 have A:∀y∈v,Ft (QB B) 90000 y:=λy o=>by
  obtain⟨k,q⟩:=JH o;exact(c.up_i hB l q).mono (by have:=aI q;omega)
 generalize b:fE B (i:Int)=j;unfold fE at b;rw[D,E,F]at b;have d:=ra hB (ys:=v) (x:=s) c.fs.ok c.fs.len A Oo c.indices c.sort;refine vf 31 [.tmp 4,.tmp 5] τok func89 ?_;refine vm (p:=aQ) i l ?_;cases q1:be v s with
 |error e=>
  have M:=jU q1;rw[q1]at d b;have b:.error e=j:=b;subst b;refine af d ?_;refine vy (p:=e≠0) ?_;exact eA9
 |ok y=>
  rw[q1]at d b;have b:be u y=j:=b;refine af d ?_;refine vn (p:=(0:Int)≠0) ?_ OO;have o:=kB (qk B) (N:=(u.length:Int)) (c.fs.wk (λm K=>nK (Nat.le_of_lt (aI l)) K)|>.mono Oo) (λk z L=>(c.up_i hB l L).mono Oo) q1;have r:=ra hB (ys:=u) (x:=y) o.ok o.len w Oo c.params rfl;rw[b]at r;refine af r ?_;cases j with
  |error e=>exact eA9
  |ok z=>exact eA9
end
section
variable{B:aq}(hB:GoodB B)
include hB
theorem rb{x:Tr}{ys:List Tr}{L:List (List PV)}{N:Int}(a:Ft (QB B) N x)(b:∀y∈ys,Ft (QB B) N y)(hn:ys.length<=1000)(e:L=(ys.map row).map rP):VC prog 139 [ah (row x),.sl L] (cW (aK x ys)):=by
 subst e;exact xy a b Oo
theorem Lc{a b:Int}(ha:bI B B.ents.length a=true)(h0:0<=b)(hb:b<(aP B a).ctors.length):VC prog 90 [aW B,pI a,pI b] (cW (gh B a b)):=by
 have V:=jS hB ha;obtain⟨i,x,s,j,qi,rfl,_,C,O,r⟩:=hB.fam ha (KJ _);obtain⟨W,e2,e3⟩:=r.ps_eq C;obtain⟨k,rfl⟩:∃k:Nat,b=(k:Int):=⟨b.toNat,Oo⟩
 rw[O]at hb;obtain⟨c,P,_⟩:=ay (l:=x.ctors) (k:=k);obtain⟨m,S,v⟩:=r.ct k c P;obtain⟨X,Y,e6⟩:=v.ag_eq C P;have Z:=r.lp;have a0:=v.la;have a1:=v.lo;have a2:=r.li;generalize d:gh B (i:Int) (k:Int)=o;unfold gh at d;rw[W,X,Y]at d;have f1:=ak (λt=>[ah t]) x.params;have f2:=ak (λt=>[ah t]) c.args;have l3:=congrArg List.length r.params;have l4:=congrArg List.length v.args;have l5:=congrArg List.length v.out;rw[List.length_map]at l3 l4 l5;have D:∀y∈j,Ft (QB B) 90000 y:=λy q=>by
  obtain⟨k,E⟩:=JH q;exact(r.up_p hB C E).mono (by have:=aI E;omega)
 have F:∀y∈m,Ft (QB B) 90000 y:=λy q=>by
  obtain⟨k,E⟩:=JH q;exact(v.up_a C r.kind E).mono (by have:=aI E;omega)
 have H:Ft (QB B) ((j.length+m.length:Nat):Int) (.mk ⟨9,(i:Int),0⟩ []):=nR (by simp[aw,aE];omega) (.inl rfl) (by
  simp only[QB,bV,aT];simp[ha])
 have I:∀y∈varsM j.length (m.length:Int)++S,Ft (QB B) ((j.length+m.length:Nat):Int) y:=λy q=>by
  rcases List.mem_append.1 q with q|q
  ·exact(kC (qk B) Oo Oo y q).mono Oo
  ·exact v.up_o C r.kind q
 have T:=yK (n:=j.length) (fr:=(m.length:Int)) Oo Oo;rw[show (j.length:Int)=(((x.params.map λt=>[ah t]).length:Nat):Int) by omega,show (m.length:Int)=(((c.args.map λt=>[ah t]).length:Nat):Int) by omega]at T;have R:(varsM j.length (m.length:Int)).length=j.length:=by simp[varsM]
 have w:=rb hB (L:=((varsM j.length (((c.args.map λt=>[ah t]).length:Nat):Int)).map row).map rP++c.out.map rP) H I (by rw[JK,R];omega) (by
  rw[show (((c.args.map λt=>[ah t]).length:Nat):Int)=(m.length:Int) by omega,v.out,List.map_append,List.map_append])
 refine vf 58 [.tmp 6,.tmp 7] τok func90 ?_;refine vm (p:=aQ) i C ?_;refine vm (p:=aZ) k P ?_;refine eV T ?_;refine va (p:=rP) ?_ (iW _) (hb:=by simp[varsM];omega);cases q1:aK (.mk ⟨9,(i:Int),0⟩ []) (varsM j.length (m.length:Int)++S)with
 |error e=>
  have he:=hO q1;rw[q1]at w d;have d:.error e=o:=d;subst d;refine af w ?_;refine vk ?_;refine vy (p:=e≠0) ?_;exact eA9
 |ok t=>
 have ht:=fL (qk B) H I q1;rw[q1]at w d;have d:(be m t).bind (be j)=o:=d;refine af w ?_;refine vk ?_;refine vn (p:=(0:Int)≠0) ?_ OO;have A:=ra hB (ys:=m) (x:=t) ht.ok ht.len F Oo v.args rfl;cases M:be m t with
 |error e=>
  have he:=jU M;rw[M]at A d;have d:.error e=o:=d;subst d;refine af A ?_;refine vy (p:=e≠0) ?_;exact eA9
 |ok u=>
 have U:=kB (qk B) (N:=(j.length:Int)) (ht.mono Oo) (λk y q=>(v.up_a C r.kind q).mono Oo) M;rw[M]at A d;have d:be j u=o:=d;refine af A ?_;refine vn (p:=(0:Int)≠0) ?_ OO;have K:=ra hB (ys:=j) (x:=u) U.ok U.len D Oo r.params rfl;rw[d]at K;refine af K ?_;cases o with
 |error e=>exact eA9
 |ok z=>exact eA9
theorem Ld{N:Int}(h0:0<=N)(hN:N<=90000){a b:Int}(ha:bI B B.ents.length a=true)(a2:0<=b)(hb:b<(aP B a).ctors.length){D:List Tr}(hq:∀y∈D,Ft (QB B) N y)(a0:D.length=(gH B a).length){mo:Tr}(O:Ft (QB B) N mo):VC prog 155 [aW B,pI a,pI b,bw (D.map row),ah (row mo)] (cW (iE B a b D mo)):=by
 have a3:=jS hB ha;obtain⟨i,x,s,o,qi,rfl,_,M,P,F⟩:=hB.fam ha (KJ _);obtain⟨e1,e2,e3⟩:=F.ps_eq M;obtain⟨k,rfl⟩:∃k:Nat,b=(k:Int):=⟨b.toNat,Oo⟩
 rw[P]at hb;obtain⟨c,hc,_⟩:=ay (l:=x.ctors) (k:=k);obtain⟨m,go,E⟩:=F.ct k c hc;obtain⟨e4,e5,e6⟩:=E.ag_eq M hc;have a4:=F.lp;have a5:=E.la;have a6:=E.lo;have a7:=F.li;have a8:=F.lc;generalize d:iE B (i:Int) (k:Int) D mo=r;unfold iE at d;rw[e1,e4,e5]at d;rw[e1]at a0;have f1:=ak (λt=>[ah t]) x.params;have f2:=ak (λt=>[ah t]) c.args;have l3:=congrArg List.length F.params;have l4:=congrArg List.length E.args;have l5:=congrArg List.length E.out;rw[List.length_map]at l3 l4 l5;have R:∀y∈m,Ft (QB B) 90000 y:=λy C=>by
  obtain⟨k,hk⟩:=JH C;exact(E.up_a M F.kind hk).mono (by have:=aI hk;omega)
 have S:Ft (QB B) ((o.length+m.length:Nat):Int) (.mk ⟨10,(i:Int),(k:Int)⟩ []):=nR (by simp[aw,aE];omega) (.inr rfl) (by
  simp only[QB,bV,aT];simp[ha,P];omega)
 have T:∀y∈varsM o.length (m.length:Int)++varsM m.length 0,Ft (QB B) ((o.length+m.length:Nat):Int) y:=λy C=>by
  rcases List.mem_append.1 C with C|C
  ·exact(kC (qk B) Oo Oo y C).mono Oo
  ·exact(kC (qk B) Oo Oo y C).mono Oo
 have c1:(((x.params.map λt=>[ah t]).length:Nat):Int)=(o.length:Int):=Oo
 have X:(((c.args.map λt=>[ah t]).length:Nat):Int)=(m.length:Int):=Oo
 have Y:=yK (n:=o.length) (fr:=(m.length:Int)) Oo Oo;have hw:=yK (n:=m.length) (fr:=0) Oo Oo;have U:=kt O Oo (b:=((o.length+m.length:Nat):Int)) Oo;have hm:=O.lift (qk B) (b:=((o.length+m.length:Nat):Int)) Oo Oo Oo;rw[show ((o.length+m.length:Nat):Int)=(((x.params.map λt=>[ah t]).length:Nat):Int)+(((c.args.map λt=>[ah t]).length:Nat):Int) by omega]at U;rw[<- c1,<- X]at Y;rw[<- X]at hw;have V:(varsM o.length (m.length:Int)).length=o.length:=by simp[varsM]
 have W:(varsM m.length 0).length=m.length:=by simp[varsM]
 have H:=rb hB (L:=((varsM o.length (((c.args.map λt=>[ah t]).length:Nat):Int)).map row).map rP++((varsM m.length 0).map row).map rP) S T (by rw[JK,V,W];omega) (by
  rw[X,List.map_append,List.map_append])
 refine vf 120 [.tmp 10,.tmp 11] τok func155 ?_;refine vm (p:=aQ) i M ?_;refine vm (p:=aZ) k hc ?_;refine vk ?_;refine vi ?_;refine af U ?_;refine vn (p:=(0:Int)≠0) ?_ OO;refine eV Y ?_;refine eV hw ?_;refine va (p:=rP) ?_ (iW _) (hb:=by simp[varsM];omega);cases q1:aK (.mk ⟨10,(i:Int),(k:Int)⟩ []) (varsM o.length (m.length:Int)++varsM m.length 0)with
 |error e=>
  have he:=hO q1;rw[q1]at H d;have d:.error e=r:=d;subst d;refine af H ?_;refine vy (p:=e≠0) ?_;exact eA9
 |ok w=>
 have a1:=fL (qk B) S T q1;rw[q1]at H d;have d:(aK (aH mo ((o.length+m.length:Nat):Int) 0) (go++[w])).bind (λt=>(be m t).bind (cG D 0 o.length))=r:=d;refine af H ?_;refine vn (p:=(0:Int)≠0) ?_ OO;refine va (p:=rP) ?_ (iW _) (hb:=by simp[cQ];omega);refine aV ?_ (hb:=by simp[cQ];omega);have K:∀y∈go++[w],Ft (QB B) (N+((o.length+m.length:Nat):Int)) y:=λy C=>by
  rcases List.mem_append.1 C with C|C
  ·exact(E.up_o M F.kind C).mono Oo
  ·obtain rfl:y=w:=by simpa using C
   exact a1.mono Oo
 have A:=rb hB (L:=c.out.map rP++[rP (row w)]) hm K (by rw[JK];simp;omega) (by
  rw[E.out,List.map_append,List.map_append]
  rfl)
 rw[show ((o.length+m.length:Nat):Int)=(((x.params.map λt=>[ah t]).length:Nat):Int)+(((c.args.map λt=>[ah t]).length:Nat):Int) by omega]at A d;cases Z:aK (aH mo ((((x.params.map λt=>[ah t]).length:Nat):Int)+(((c.args.map λt=>[ah t]).length:Nat):Int)) 0) (go++[w])with
 |error e=>
  have he:=hO Z;rw[Z]at A d;have d:.error e=r:=d;subst d;refine af A ?_;refine vy (p:=e≠0) ?_;exact eA9
 |ok t=>
 have ht:=fL (qk B) hm K (by rw[<- Z,c1,X,Int.natCast_add]);rw[Z]at A d;have d:(be m t).bind (cG D 0 o.length)=r:=d;refine af A ?_;refine vn (p:=(0:Int)≠0) ?_ OO;have I:=ra hB (ys:=m) (x:=t) ht.ok ht.len R Oo E.args rfl;cases q3:be m t with
 |error e=>
  have he:=jU q3;rw[q3]at I d;have d:.error e=r:=d;subst d;refine af I ?_;refine vy (p:=e≠0) ?_;exact eA9
 |ok u=>
 have hu:=kB (qk B) (N:=N+o.length) (ht.mono Oo) (λk y C=>(E.up_a M F.kind C).mono Oo) q3;rw[q3]at I d;have d:cG D 0 o.length u=r:=d;refine af I ?_;refine vn (p:=(0:Int)≠0) ?_ OO;refine vi ?_;refine az τok (σ:=Nat×Tr×Int) [(3,_)] [] (λq=>[(19,vP (ah (row q.2.1))),(20,vI q.2.2)]) (λ_=>[]) (λq=>q.1<=o.length/\q.2.2=(q.1:Int)-1/\Ft (QB B) (N+q.1) q.2.1/\cG D 0 q.1 q.2.1=r) (λq=>q.1) (o.length,u,(((x.params.map λt=>[ah t]).length:Nat):Int)-1) ⟨KJ _,OS,hu,d⟩ ?_
 clear d
 rintro⟨j,t,v⟩ ⟨hj,Y,ft,hr⟩;simp only at hj Y ft hr;refine aj τok<|ae (λg=>?_) (λg=>?_)
 ·have g:v≥0:=g
  obtain⟨j,rfl⟩:∃l,j=l+1:=⟨j-1,Oo⟩
  obtain rfl:v=(j:Int):=Oo
  simp only[cG]at hr;obtain⟨p,hp,_⟩:=ay (l:=D) (k:=j);rw[show D.getD j (varX 0)=p by rw[List.getD_eq_getElem?_getD,hp];rfl]at hr;have fp:=hq p (JQ hp);have fl:=fp.lift (qk B) (b:=(j:Int)) Oo Oo Oo;refine vm (p:=rP) j (x:=row p) (by rw[JX,hp];rfl) ?_;refine af (kt fp Oo (b:=(j:Int)) Oo) ?_;refine vn (p:=(0:Int)≠0) ?_ OO;have hs:=nN (x:=t) (u:=aH p j 0) (v:=0) (N:=N+j) (ft.mono Oo) fl Oo Oo;cases q4:bk t (aH p j 0) 0 with
  |error e=>
   have he:=iB q4;rw[q4]at hs hr;have hr:.error e=r:=hr;subst hr;refine af hs ?_;refine vy (p:=e≠0) ?_;exact eA9
  |ok z=>
   rw[q4]at hs hr;have fz:=iy (qk B) (N:=N+j) (v:=0) (ft.mono Oo) fl Oo Oo Oo Oo q4;refine af hs ?_;refine vn (p:=(0:Int)≠0) ?_ OO;refine vi ?_;exact au (j,z,(j:Int)-1) ⟨OS,by simp only,fz.mono OS,hr⟩
 ·have g:¬ v≥0:=g
  obtain rfl:j=0:=Oo
  have hr:.ok t=r:=hr;subst hr;exact eA9
end
theorem Lf{Q:Nd ->Prop}(s:Qk Q){N bU:Int}(H:0<=N)(I:N<=90000)(hm:0<=bU/\bU<=1000){a:List Tr}(C:∀y∈a,Ft Q N y)(hl:a.length<=100){t:Tr}(ht:Ft Q (N+a.length+bU) t):
  VX prog 189 [ah (row t),bw (a.map row),pI bU] (match cG a bU a.length t with
   | .ok z=>.ok (ah (row z))
   | .error e=>.error (ew e)):=by
 generalize c:cG a bU a.length t=d;have K:=ak (λt=>[ah t]) (a.map row);have L:=ak row a;refine nB 31 [.tmp 6] τok func189 ?_;refine aj τok<|vi ?_;refine az τok (σ:=Nat×Tr×Int) [(1,_),(2,_)] [] (λq=>[(0,vP (ah (row q.2.1))),(7,vI q.2.2)]) (λ_=>[]) (λq=>q.1<=a.length/\q.2.2=(q.1:Int)-1/\Ft Q (N+q.1+bU) q.2.1/\cG a bU q.1 q.2.1=d) (λq=>q.1) (a.length,t,((((a.map row).map λt=>[ah t]).length:Nat):Int)-1) ⟨KJ _,OS,ht,c⟩ ?_
 clear c
 rintro⟨j,t,v⟩ ⟨D,E,r,hr⟩;simp only at D E r hr;refine aj τok<|ae (λg=>?_) (λg=>?_)
 ·have g:v≥0:=g
  obtain⟨j,rfl⟩:∃l,j=l+1:=⟨j-1,Oo⟩
  obtain rfl:v=(j:Int):=Oo
  simp only[cG]at hr;obtain⟨p,i,_⟩:=ay (l:=a) (k:=j);rw[show a.getD j (varX 0)=p by rw[List.getD_eq_getElem?_getD,i];rfl]at hr;have w:=C p (JQ i);have A:=w.lift s (b:=(j:Int)) Oo Oo Oo;refine vm (p:=rP) j (x:=row p) (by rw[JX,i];rfl) ?_;refine af (kt w Oo (b:=(j:Int)) Oo) ?_;refine af (eN _) ?_;have m:=nN (x:=t) (u:=aH p j 0) (v:=bU) (N:=N+j) (r.mono Oo) A Oo Oo;cases o:bk t (aH p j 0) bU with
  |error e=>
   have M:=iB o;rw[o]at m hr;have hr:.error e=d:=hr;subst hr;refine af m ?_;refine bO (iX _ (show e≠0 by omega)) ?_;exact rfl
  |ok z=>
   rw[o]at m hr;have F:=iy s (N:=N+j) (v:=bU) (r.mono Oo) A Oo Oo Oo Oo o;refine af m ?_;refine af (eN _) ?_;refine vi ?_;exact au (j,z,(j:Int)-1) ⟨OS,by simp only,F.mono OS,hr⟩
 ·have g:¬ v≥0:=g
  obtain rfl:j=0:=Oo
  have hr:.ok t=d:=hr;subst hr;exact eA9
def dm(B:aq)(n:Int):List PV:=[.int .i64 B.vars,.sl (B.orders.map orP),.sl (B.ents.map aQ),.int .i64 B.nat,.sl (B.prims.map prP),pI n]
def dn{α:Type}(B:aq)(f:α ->PV)(r:Except Int (α×Nat)):Except (List PanicEntry) (List PV×PV):=match r with
 | .ok q=>.ok (dm B q.2,f q.1)
 | .error e=>.error (ew e)
def gp(x:Tr):PV:=ah (row x)
def EC(q:Int×List Atom):PV:=.tup [pI q.1,cr q.2]
def ED(z:Tr):PV:=.tup [ah (row (headT z)),bw ((argsT z).map row)]
section
variable{B:aq}{cx:Ctx}{rc:RcJ}{n:Nat}
def bG(B:aq)(cx:Ctx)(t:Tr)(n:Nat)(r:Except Int (Tr×Nat)):Prop:=iQ prog 47 132 (dm B n) [aG (cx.map aA),ah (row t)] (dn B gp r)
variable(hI:BoI B)(hB:GoodB B)(hcx:CxOk B cx)(hcl:cx.length<=260)
include hI hB hcx hcl
theorem re{x:Tr}(d:Ft (QB B) (cx.length:Int) x)(n:Nat):iQ prog 95 132 (dm B n) [aG (cx.map aA),ah (row x)] (dn B ED (dH B cx x n)):=by
 have j:=ak aA cx;have b:=Em hI hB hcx hcl d (n:Int);generalize a:dH B cx x n=c;unfold dH at a;refine aX (r:=dn B ED c) 37 [.tmp 6,.tmp 7] τok func95 ?_;refine aj τok ?_
 by_cases i:256<cx.length
 ·rw[if_pos i]at a
  subst a;refine bO (EA Oo) ?_;exact rfl
 rw[if_neg i]at a;refine af (Ez Oo) ?_;cases hr:dC B cx x (n:Int)with
 |error e=>
  rw[hr]at b a;subst a;refine af b ?_;refine vk ?_;refine bO (ee (qE hr)) ?_;exact rfl
 |ok q=>
  have k:=(tc hB hcx Oo d hr).1;rw[hr]at b a;subst a;refine af b ?_;refine vk ?_;refine af uy' ?_;refine af (sZ k) ?_;exact eP9
theorem yL{x y:Tr}(i:Ft (QB B) (cx.length:Int) x)(j:Ft (QB B) (cx.length:Int) y)(n:Nat)(u:Bool):iQ prog 118 132 (dm B n) [aG (cx.map aA),ah (row x),ah (row y),.bool u] (dn B PV.bool (fR B cx x y u n)):=by
 have k:=ak aA cx;have b:=La hI hB hcx hcl i j (n:Int) u;generalize a:fR B cx x y u n=c;unfold fR at a;refine aX (r:=dn B PV.bool c) 40 [.tmp 10] τok func118 ?_;refine aj τok ?_
 by_cases d:256<cx.length
 ·rw[if_pos d]at a
  subst a;refine bO (EA Oo) ?_;exact rfl
 rw[if_neg d]at a;refine af (Ez Oo) ?_;cases hr:kw B cx x y (n:Int) u with
 |error e=>
  rw[hr]at b a;subst a;refine af b ?_;refine vk ?_;refine bO (ee (qF B GC _ _ _ _ _ _ hr)) ?_;exact rfl
 |ok q=>
  rw[hr]at b a;subst a;refine af b ?_;refine vk ?_;refine af uy' ?_;exact eP9
variable(hr:cv B rc)
include hr
theorem nX{t:Tr}(ht:Ft (QB B) (cx.length:Int) t){n:Nat}(d:bG B cx t n (rc cx t n)):iQ prog 68 132 (dm B n) [aG (cx.map aA),ah (row t)] (dn B EC (dd B rc cx t n)):=by
 generalize b:dd B rc cx t n=c;unfold dd at b;unfold bG at d;refine aX (r:=dn B EC c) 37 [.tmp 6,.tmp 7] τok func68 ?_;refine aj τok ?_;cases l:rc cx t n with
 |error e=>
  rw[l]at d b;have b:.error e=c:=b;subst b;refine cD d ?_;exact rfl
 |ok q=>
 obtain⟨y,m⟩:=q;have s:=hr.ft _ _ _ _ hcx hcl ht l;rw[l]at d b;have b:bg (dH B cx y m) (λz n=>if (headT z).n.op≠2 \/0<(argsT z).length then .error 11 else .ok (((headT z).n.a,bK (headT z)),n))=c:=b;have j:=re hI hB hcx hcl s m;refine ax d ?_;cases o:dH B cx y m with
 |error e=>
  rw[o]at j b;have b:.error e=c:=b;subst b;refine cD j ?_;exact rfl
 |ok q=>
 obtain⟨z,u⟩:=q;obtain⟨_,_,v⟩:=iG hB hcx s o;have k:=aB v.head;have w:=ak (λt=>[ah t]) ((argsT z).map row);have A:=ak row (argsT z);rw[o]at j b;have b:(if (headT z).n.op≠2 \/0<(argsT z).length then .error 11 else .ok (((headT z).n.a,bK (headT z)),u))=c:=b;refine ax j ?_;refine vm (p:=ndP) 0 (aJ k) ?_;refine ae (λg=>?_) (λg=>?_)
 ·rw[if_pos (.inl g)]at b
  subst b;refine bO (ee OO) ?_;exact rfl
 have g:(headT z).n.op=2:=Decidable.of_not_not g;refine ae (λi=>?_) (λi=>?_)
 ·have i:((((argsT z).map row).map λt=>[ah t]).length:Int)>0:=i
  rw[if_pos (.inr Oo)]at b;subst b;refine bO (ee OO) ?_;exact rfl
 have i:¬ ((((argsT z).map row).map λt=>[ah t]).length:Int)>0:=i;rw[if_neg Oo]at b;subst b;refine vm (p:=ndP) 0 (aJ k) ?_;refine af (tI k.ok k.len g) ?_;exact kP9
theorem tL{t ty:Tr}(ht:Ft (QB B) (cx.length:Int) t)(j:Ft (QB B) (cx.length:Int) ty){n:Nat}(d:bG B cx t n (rc cx t n)):iQ prog 71 132 (dm B n) [aG (cx.map aA),ah (row t),ah (row ty)] (dn B (λ_=>.tup []) (eQ B rc cx t ty n)):=by
 generalize a:eQ B rc cx t ty n=c;unfold eQ at a;unfold bG at d;refine aX (r:=dn B (λ_=>.tup []) c) 18 [] τok func71 ?_;refine aj τok ?_;cases k:rc cx t n with
 |error e=>
  rw[k]at d a;have a:.error e=c:=a;subst a;refine cD d ?_;exact rfl
 |ok q=>
 obtain⟨y,m⟩:=q;have o:=hr.ft _ _ _ _ hcx hcl ht k;rw[k]at d a;have a:bg (fR B cx y ty true m) (λb n=>if b=true then .ok ((),n)else .error 13)=c:=a;have i:=yL hI hB hcx hcl o j m true;refine ax d ?_;cases l:fR B cx y ty true m with
 |error e=>
  rw[l]at i a;have a:.error e=c:=a;subst a;refine cD i ?_;exact rfl
 |ok q=>
  obtain⟨b,p⟩:=q;rw[l]at i a;refine ax i ?_;cases b with
  |true=>
   have a:.ok ((),p)=c:=a;subst a;exact eP9
  |false=>
   have a:.error 13=c:=a;subst a;refine bO (ee OO) ?_;exact rfl
end
def pf(B:aq)(rc:RcJ)(g:Nat):Prop:=∀(cx:Ctx) (k:Nat) (t:Tr) (n:Nat),CxOk B cx ->cx.length<=260 ->Ft (QB B) (cx.length:Int) t ->Mt k t ->k*5000+(row t).length<=g ->n<=100000 ->bG B cx t n (rc cx t n)
section
variable{B:aq}{cx:Ctx}{t:Tr}{n:Nat}{rc:RcJ}
variable(hI:BoI B)(hB:GoodB B)(hcx:CxOk B cx)(hcl:cx.length<=260)(ht:Ft (QB B) (cx.length:Int) t)
include hI hB hcx hcl ht
theorem Lg(h1:t.n.op=1):bG B cx t n (.ok (aH (eZ cx t.n.a).1 (t.n.a+1) 0,n)):=by
 obtain⟨c,a⟩:∃r,(.ok (aH (eZ cx t.n.a).1 (t.n.a+1) 0,n):Except Int (Tr×Nat))=r:=⟨_,rfl⟩
 unfold bG;rw[a];have i:=aB ht;have eC:=ak bdP (cx.map aA);have j:=ak aA cx;refine aX (r:=dn B gp c) 258 [.tmp 6] τok func47 ?_;refine aj τok<|vm (p:=ndP) 0 (aJ i) ?_;refine vy (p:=t.n.op=1) ?_ h1;have d:0<=t.n.a/\t.n.a<cx.length:=by
  obtain⟨o,q⟩:=t;obtain⟨k,l,_⟩:=ht.var_lt h1;exact⟨k,l⟩
 have e:=mA d.1 d.2;obtain⟨m,s⟩:=hcx _ _ e;refine vi ?_;refine vi ?_;refine vm (p:=bdP) (cx.length-1-t.n.a.toNat) (x:=aA (eZ cx t.n.a)) (by rw[JX,e];rfl) ?_;refine vi ?_;refine af (kt m Oo (b:=t.n.a+1) Oo) ?_;refine af (eN _) ?_;refine vk ?_;subst a;exact eP9
theorem Lh(h2:t.n.op=2):bG B cx t n (mI t n):=by
 obtain⟨b,a⟩:∃r,mI t n=r:=⟨_,rfl⟩
 unfold bG;rw[a];have d:=aB ht;refine aX (r:=dn B gp b) 258 [.tmp 6] τok func47 ?_;refine aj τok<|vm (p:=ndP) 0 (aJ d) ?_;refine vn (p:=t.n.op=1) ?_;refine vy (p:=t.n.op=2) ?_ h2;have c:=qC ht h2;refine af (tI ht.ok ht.len h2) ?_;refine af (K8 c) ?_;unfold mI at a
 by_cases h:di (bK t) 1=0
 ·rw[if_neg Oo]at a
  subst a;have:=(xN c h).hi;rw[h];refine af uy' ?_;refine af (EB 1 Oo) ?_;exact eP9
 ·rw[if_pos h]at a
  subst a;refine bO (ee h) ?_;exact rfl
theorem Li(c:t.n.op=8):bG B cx t n (.ok (tr (aP B t.n.a).type,n)):=by
 obtain⟨b,a⟩:∃r,(.ok (tr (aP B t.n.a).type,n):Except Int (Tr×Nat))=r:=⟨_,rfl⟩
 unfold bG;rw[a];have e:=aB ht;refine aX (r:=dn B gp b) 258 [.tmp 6] τok func47 ?_;refine aj τok<|vm (p:=ndP) 0 (aJ e) ?_;refine vn (p:=t.n.op=1) ?_;refine vn (p:=t.n.op=2) ?_;refine vy (p:=t.n.op=8) ?_ c;obtain⟨i,x,l,m,o,j,k,d⟩:=hB.dfn ht.node' c;refine vm (p:=aQ) i j ?_;refine vk ?_;subst a;refine⟨_,_,_,rfl,rfl,?_,rfl,rfl⟩;simp only[gp,k,d.type,gW d.ft.ok,gz']
 rfl
theorem Lj(d:t.n.op=9):bG B cx t n (cY (fE B t.n.a) n):=by
 obtain⟨b,a⟩:∃r,cY (fE B t.n.a) n=r:=⟨_,rfl⟩
 unfold bG;rw[a];have i:=aB ht;refine aX (r:=dn B gp b) 258 [.tmp 6] τok func47 ?_;refine aj τok<|vm (p:=ndP) 0 (aJ i) ?_;refine vn (p:=t.n.op=1) ?_;refine vn (p:=t.n.op=2) ?_;refine vn (p:=t.n.op=8) ?_;refine vy (p:=t.n.op=9) ?_ d;have j:=db ht.ok.pl;have c:=Lb hB (xd ht.node' d j.2.2.1);cases q1:fE B t.n.a with
 |error e=>
  have k:=xR q1;rw[q1]at c a;have a:.error e=b:=a;subst a;refine af c ?_;refine bO (iX _ (show e≠0 by omega)) ?_;refine fY ?_;refine vk ?_;exact rfl
 |ok z=>
  rw[q1]at c a;have a:.ok (z,n)=b:=a;subst a;refine af c ?_;refine af (eN _) ?_;exact kP9
theorem Lk(b:t.n.op=10):bG B cx t n (cY (gh B t.n.a t.n.b) n):=by
 obtain⟨c,a⟩:∃r,cY (gh B t.n.a t.n.b) n=r:=⟨_,rfl⟩
 unfold bG;rw[a];have i:=aB ht;refine aX (r:=dn B gp c) 258 [.tmp 6] τok func47 ?_;refine aj τok<|vm (p:=ndP) 0 (aJ i) ?_;refine vn (p:=t.n.op=1) ?_;refine vn (p:=t.n.op=2) ?_;refine vn (p:=t.n.op=8) ?_;refine vn (p:=t.n.op=9) ?_;refine vy (p:=t.n.op=10) ?_ b;have j:=db ht.ok.pl;have d:=Lc hB (jK ht.node' (.inl b)) j.1 (sQ ht.node' b);cases q1:gh B t.n.a t.n.b with
 |error e=>
  have k:=xS q1;rw[q1]at d a;have a:.error e=c:=a;subst a;refine af d ?_;refine bO (iX _ (show e≠0 by omega)) ?_;refine fY ?_;refine vk ?_;exact rfl
 |ok z=>
  rw[q1]at d a;have a:.ok (z,n)=c:=a;subst a;refine af d ?_;refine af (eN _) ?_;exact kP9
variable(hr:cv B rc)
include hr
theorem Ll(h4:t.n.op=4)(hn:n<=100000)(z:∀n,n<=100000 ->bG B cx (kidD t 0) n (rc cx (kidD t 0) n))(A:cx.length<=256 ->∀n,n<=100000 ->bG B (cx++[(kidD t 0,none)]) (kidD t 1) n (rc (cx++[(kidD t 0,none)]) (kidD t 1) n)):bG B cx t n (mJ B rc cx t n):=by
 obtain⟨b,a⟩:∃r,mJ B rc cx t n=r:=⟨_,rfl⟩
 unfold bG;rw[a];have k:=aB ht;have L:=ak aA cx;refine aX (r:=dn B gp b) 258 [.tmp 6] τok func47 ?_;refine aj τok<|vm (p:=ndP) 0 (aJ k) ?_;refine vn (p:=t.n.op=1) ?_;refine vn (p:=t.n.op=2) ?_;refine vn (p:=t.n.op=8) ?_;refine vn (p:=t.n.op=9) ?_;refine vn (p:=t.n.op=10) ?_;refine af (hY ht) ?_;refine vy (p:=t.n.op=4) ?_ h4;obtain⟨T,m,M⟩:=dU ht (.inl h4);unfold mJ at a;have s:=nX hI hB hcx hcl hr m (z n hn);refine vm (p:=rP) 0 (aF k) ?_;cases u:dd B rc cx (kidD t 0) n with
 |error e=>
  rw[u]at s a;have a:.error e=b:=a;subst a;refine cD s ?_;exact rfl
 |ok p=>
 obtain⟨⟨O,c⟩,C⟩:=p;obtain⟨U,D,_⟩:=gj hB hr u;obtain⟨_,P,E⟩:=jm hB hr hcx m u;simp only at D P E;rw[u]at s a;refine ax s ?_;have d:=hcx.snoc m (v:=none) λx F=>by cases F
 have i:Ft (QB B) ((cx++[(kidD t 0,none)]).length:Int) (kidD t 1):=by rw[bL];exact M.mono Oo
 have w:=nX hI hB d (by rw[bL];omega) hr i (A Oo C Oo);have a:bg (dd B rc (cx++[(kidD t 0,none)]) (kidD t 1) C) (λq n=>if cB c q.2≠0 then .error (cB c q.2)else .ok (dV q.1 (dh c q.2),n))=b:=a;refine vm (p:=rP) 0 (aF k) ?_;refine af (mY hcx Oo m (o:=none) λx F=>by cases F) ?_;refine vm (p:=rP) 1 (aF k) ?_;cases H:dd B rc (cx++[(kidD t 0,none)]) (kidD t 1) C with
 |error e=>
  rw[H]at w a;have a:.error e=b:=a;subst a;refine cD w ?_;refine fY ?_;refine vk ?_;exact rfl
 |ok p=>
 obtain⟨⟨K,j⟩,R⟩:=p;obtain⟨_,S,I⟩:=jm hB hr d i H;simp only at S I;rw[H]at w a;have a:(if cB c j≠0 then .error (cB c j)else .ok (dV K (dh c j),R))=b:=a;refine ax w ?_;refine vk ?_;refine af (yJ E I) ?_
 by_cases h:cB c j=0
 ·rw[if_neg Oo]at a
  subst a;have:=(xO E I h).hi;rw[h];refine af uy' ?_;refine af (EB K (l:=dh c j) Oo) ?_;exact eP9
 ·rw[if_pos h]at a
  subst a;refine bO (ee h) ?_;exact rfl
theorem Ln(I:t.n.op=5)(hn:n<=100000)(s:∀n,n<=100000 ->bG B cx (kidD t 0) n (rc cx (kidD t 0) n))(u:cx.length<=256 ->∀n,n<=100000 ->bG B (cx++[(kidD t 0,none)]) (kidD t 1) n (rc (cx++[(kidD t 0,none)]) (kidD t 1) n)):bG B cx t n (mL B rc cx t n):=by
 obtain⟨b,a⟩:∃r,mL B rc cx t n=r:=⟨_,rfl⟩
 unfold bG;rw[a];have d:=aB ht;have L:=ak aA cx;refine aX (r:=dn B gp b) 258 [.tmp 6] τok func47 ?_;refine aj τok<|vm (p:=ndP) 0 (aJ d) ?_;refine vn (p:=t.n.op=1) ?_;refine vn (p:=t.n.op=2) ?_;refine vn (p:=t.n.op=8) ?_;refine vn (p:=t.n.op=9) ?_;refine vn (p:=t.n.op=10) ?_;refine af (hY ht) ?_;refine vn (p:=t.n.op=4) ?_;refine vy (p:=t.n.op=5) ?_ I;obtain⟨U,c,M⟩:=dU ht (.inr I);unfold mL at a;have l:=nX hI hB hcx hcl hr c (s n hn);refine vm (p:=rP) 0 (aF d) ?_;cases m:dd B rc cx (kidD t 0) n with
 |error e=>
  rw[m]at l a;have a:.error e=b:=a;subst a;refine cD l ?_;exact rfl
 |ok p=>
 obtain⟨⟨O,P⟩,w⟩:=p;obtain⟨V,A,_⟩:=gj hB hr m;obtain⟨_,R,S⟩:=jm hB hr hcx c m;simp only at A R S;rw[m]at l a;refine ax l ?_;have i:=hcx.snoc c (v:=none) λx C=>by cases C
 have D:Ft (QB B) ((cx++[(kidD t 0,none)]).length:Int) (kidD t 1):=by rw[bL];exact M.mono Oo
 have j:=u Oo w Oo;unfold bG at j;have a:bg (rc (cx++[(kidD t 0,none)]) (kidD t 1) w) (λz n=>cY (be [kidD t 0] z) n)=b:=a;have P:=ak (λt=>[ah t]) ((kidsT t).map row);have W:=ak row (kidsT t);refine bC 0 1 ?_ (λy E=>by
  obtain⟨_,_,rfl⟩:=List.mem_map.1 E
  rfl)
 have T:((((kidsT t).map row).map λt=>[ah t]).take 1).drop 0=([kidD t 0].map row).map rP:=by
  rw[List.drop_zero,<- List.map_take,<- List.map_take,dA (cj d (k:=0)).1]
  rfl
 rw[T];refine vm (p:=rP) 0 (aF d) ?_;refine af (mY hcx Oo c (o:=none) λx C=>by cases C) ?_;refine vm (p:=rP) 1 (aF d) ?_;cases F:rc (cx++[(kidD t 0,none)]) (kidD t 1) w with
 |error e=>
  rw[F]at j a;have a:.error e=b:=a;subst a;refine cD j ?_;refine fY ?_;refine vk ?_;exact rfl
 |ok p=>
 obtain⟨y,K⟩:=p;have H:=hr.ft _ _ _ _ i (by rw[bL];omega) D F;simp only at H;rw[F]at j a;have a:cY (be [kidD t 0] y) K=b:=a;refine ax j ?_;have q:=Ex (x:=y) H.ok H.len (ys:=[kidD t 0]) (λy E=>by
  obtain rfl:y=kidD t 0:=by simpa using E
  exact⟨c.ok,c.len⟩) Od
 cases q1:be [kidD t 0] y with
 |error e=>
  have X:=jU q1;rw[q1]at q a;have a:.error e=b:=a;subst a;refine af q ?_;refine bO (iX _ (show e≠0 by omega)) ?_;refine fY ?_;refine vk ?_;exact rfl
 |ok z=>
  rw[q1]at q a;have a:.ok (z,K)=b:=a;subst a;refine af q ?_;refine af (eN _) ?_;exact kP9
theorem Lo(H:t.n.op=6)(hn:n<=100000)(o:∀n,n<=100000 ->bG B cx (kidD t 0) n (rc cx (kidD t 0) n))(s:∀n,n<=100000 ->bG B cx (kidD t 1) n (rc cx (kidD t 1) n)):bG B cx t n (lH B rc cx t n):=by
 obtain⟨b,a⟩:∃r,lH B rc cx t n=r:=⟨_,rfl⟩
 unfold bG;rw[a];have i:=aB ht;have O:=ak aA cx;refine aX (r:=dn B gp b) 258 [.tmp 6] τok func47 ?_;refine aj τok<|vm (p:=ndP) 0 (aJ i) ?_;refine vn (p:=t.n.op=1) ?_;refine vn (p:=t.n.op=2) ?_;refine vn (p:=t.n.op=8) ?_;refine vn (p:=t.n.op=9) ?_;refine vn (p:=t.n.op=10) ?_;refine af (hY ht) ?_;refine vn (p:=t.n.op=4) ?_;refine vn (p:=t.n.op=5) ?_;refine vy (p:=t.n.op=6) ?_ H;obtain⟨U,P,I⟩:=qA ht H;unfold lH at a;refine vm (p:=rP) 0 (aF i) ?_;have c:=o n hn;unfold bG at c;cases j:rc cx (kidD t 0) n with
 |error e=>
  rw[j]at c a;have a:.error e=b:=a;subst a;refine cD c ?_;exact rfl
 |ok q=>
 obtain⟨y,m⟩:=q;have w:=hr.ft _ _ _ _ hcx hcl P j;have R:=hr.le _ _ _ _ j;simp only at w R;rw[j]at a c;have hW:=re hI hB hcx hcl w m;have a:bg (dH B cx y m) (λz n=>if (headT z).n.op≠4 \/0<(argsT z).length then .error 12 else
  bg (eQ B rc cx (kidD t 1) (kidD (headT z) 0) n) λ_ n=>cY (bk (kidD (headT z) 1) (kidD t 1) 0) n)=b:=a
 refine ax c ?_;cases A:dH B cx y m with
 |error e=>
  rw[A]at a hW;have a:.error e=b:=a;subst a;refine cD hW ?_;exact rfl
 |ok q=>
 obtain⟨z,C⟩:=q;obtain⟨_,D,K⟩:=iG hB hcx w A;simp only at K D;have E:=K.head;have F:=aB E;have V:=ak (λt=>[ah t]) ((argsT z).map row);have W:=ak row (argsT z);rw[A]at a hW;have a:(if (headT z).n.op≠4 \/0<(argsT z).length then .error 12 else
  bg (eQ B rc cx (kidD t 1) (kidD (headT z) 0) C) λ_ n=>cY (bk (kidD (headT z) 1) (kidD t 1) 0) n)=b:=a
 refine ax hW ?_;refine vm (p:=ndP) 0 (aJ F) ?_;refine ae (λg=>?_) (λg=>?_)
 ·rw[if_pos (.inl g)]at a
  subst a;refine bO (ee OO) ?_;exact rfl
 have g:(headT z).n.op=4:=Decidable.of_not_not g;refine ae (λd=>?_) (λd=>?_)
 ·have d:((((argsT z).map row).map λt=>[ah t]).length:Int)>0:=d
  rw[if_pos (.inr Oo)]at a;subst a;refine bO (ee OO) ?_;exact rfl
 have d:¬ ((((argsT z).map row).map λt=>[ah t]).length:Int)>0:=d;rw[if_neg Oo]at a;refine af (hY E) ?_;obtain⟨X,S,T⟩:=dU E (.inl g);refine vm (p:=rP) 1 (aF i) ?_;refine vm (p:=rP) 0 (aF F) ?_;have k:=tL hI hB hcx hcl hr I S (s C Oo);cases L:eQ B rc cx (kidD t 1) (kidD (headT z) 0) C with
 |error e=>
  rw[L]at a k;have a:.error e=b:=a;subst a;refine cD k ?_;refine vk ?_;exact rfl
 |ok q=>
 obtain⟨_,M⟩:=q;rw[L]at a k;have a:cY (bk (kidD (headT z) 1) (kidD t 1) 0) M=b:=a;refine ax k ?_;refine vk ?_;refine vm (p:=rP) 1 (aF F) ?_;refine vm (p:=rP) 1 (aF i) ?_;have l:=nN (x:=kidD (headT z) 1) (u:=kidD t 1) (v:=0) (N:=(cx.length:Int)) (T.mono Oo) I Oo Oo;cases q1:bk (kidD (headT z) 1) (kidD t 1) 0 with
 |error e=>
  have Y:=iB q1;rw[q1]at l a;have a:.error e=b:=a;subst a;refine af l ?_;refine bO (iX _ (show e≠0 by omega)) ?_;refine fY ?_;refine vk ?_;exact rfl
 |ok z=>
  rw[q1]at l a;have a:.ok (z,M)=b:=a;subst a;refine af l ?_;refine af (eN _) ?_;exact kP9
end
theorem EE{B:aq}{i:Nat}{s:Int}{N:Int}{y:Tr}(h:Ft (bV B i s) N y):Mt i y:=λm b a=>by
 have:=h.al m b;simp[bV,aT,a,bI]at this;exact this.2.1
theorem tM(l:List Tr)(y:Tr):cJ (l++[y])=cJ l++[(y,none)]:=by simp[cJ]
theorem rf(l:List Tr):(cJ l).length=l.length:=by simp[cJ]
theorem yM{B:aq}{l:List Tr}(h:∀(k:Nat) y,l[k]?=some y ->Ft (QB B) (k:Int) y):CxOk B (cJ l):=λi q a=>by
 unfold cJ at a;rw[JX]at a;obtain⟨y,b,rfl⟩:=Option.map_eq_some_iff.1 a;exact⟨h i y b,λx c=>by cases c⟩
theorem Mt.kid{k:Nat}{t y:Tr}(h:Mt k t)(o:y∈kidsT t):Mt k y/\(row y).length<(row t).length:=by
 obtain⟨n,d⟩:=t;have e:∀(l:List Tr) (z:Tr),z∈l ->(∀m∈row z,m∈rows l)/\(row z).length<=(rows l).length:=by
  intro l
  induction l with
  |nil=>intro z b;cases b
  |cons a l C=>
   intro z b;rcases List.mem_cons.1 b with rfl|b
   ·exact⟨λm c=>by simp[rows,c],by simp[rows]⟩
   ·obtain⟨p,s⟩:=C z b
    exact⟨λm c=>by simp[rows,p m c],by simp[rows];omega⟩
 have q:row (.mk n d)=n::rows d:=by simp[row]
 have r:∀z∈d,(∀m∈row z,m∈row (.mk n d))/\(row z).length<(row (.mk n d)).length:=λz b=>by
  obtain⟨p,s⟩:=e d z b;rw[q];exact⟨λm c=>List.mem_cons_of_mem _ (p m c),OK⟩
 have i:(∀m∈row y,m∈row (.mk n d))/\(row y).length<(row (.mk n d)).length:=by
  simp only[kidsT]at o;split at o
  ·simp at o
  split at o
  ·obtain⟨z,b,j⟩:=List.mem_flatMap.1 o
   obtain⟨p,s⟩:=r z b;obtain⟨A,u⟩:=z;have j:y∈u:=j;obtain⟨D,E⟩:=e u y j;have v:row (.mk A u)=A::rows u:=by simp[row]
   rw[v]at p s;exact⟨λm c=>p m (List.mem_cons_of_mem _ (D m c)),by simp at s;omega⟩
  ·exact r y o
 exact⟨λm c w=>h m (i.1 m c) w,i.2⟩
theorem Lp{f:Tr}{i:Nat}(hi:i<f.n.b.toNat):(bi f).take (i+1)=(bi f).take i++[(aH (kidD f (2*i)) i 0,none)]:=dA (xJ hi)
theorem kO{α β:Type}{q:α×Nat}{k:α ->Nat ->Except Int (β×Nat)}:bg (.ok q) k=k q.1 q.2:=rfl
section
variable{B:aq}{cx:Ctx}{t:Tr}{n g:Nat}{rc:RcJ}
variable(hI:BoI B)(hB:GoodB B)(hr:cv B rc)
section
variable(hcx:CxOk B cx)(hcl:cx.length<=260)(ht:Ft (QB B) (cx.length:Int) t)
include hI hB hr hcx hcl ht
theorem yN(l:t.n.op=12)(hn:n<=100000)(C:∀i,i<t.n.b.toNat ->∀n,n<=100000 ->bG B cx (kidD t (2*i)) n (rc cx (kidD t (2*i)) n))(D:cx.length<=256 ->∀i,i<t.n.b.toNat ->∀n,n<=100000 ->bG B (cx++bi t) (kidD t (2*i+1)) n (rc (cx++bi t) (kidD t (2*i+1)) n)):
  iQ prog 98 132 (dm B n) [aG (cx.map aA),ah (row t),bw ((kidsT t).map row)] (dn B gp (kE B rc cx t n)):=by
 obtain⟨l1,l2,l3,l4,l5⟩:=dM ht.ok l;have a1:=fK ht.ok l;obtain⟨u,S⟩:∃k,t.n.b.toNat=k:=⟨_,rfl⟩
 have T:t.n.b=(u:Int):=Oo
 have v:=aB ht;have E:=oU t;generalize d:kE B rc cx t n=s;unfold kE at d;rw[S]at d C D E;obtain⟨Y,F⟩:∃f:Unit ->Nat ->Except Int (Tr×Nat),f=λ_ n=>if fD B t≠0 then .error (fD B t)else bg (lG B rc (cx++bi t) t u u 0 n) λ_ n=>.ok (kidD t (2*t.n.a.toNat),n):=⟨_,rfl⟩
 rw[<- F]at d;refine aX (r:=dn B gp s) 84 [.tmp 8] τok func98 ?_;refine aj τok<|vm (p:=ndP) 0 (aJ v) ?_;refine az τok (σ:=Nat×Nat) [(0,_),(1,_),(2,_),(3,_),(9,_),(18,_)] [] (λq=>[(10,vP (aG ((cx++(bi t).take q.1).map aA))),(19,vI q.1)]) (λq=>[(0,.st 1 132 ((dm B q.2).map .p))]) (λq=>q.1<=u/\q.2<=n/\(0<q.1 ->cx.length<=256)/\bg (mH B rc cx t (u-q.1) q.1 q.2) Y=s) (λq=>u-q.1) (0,n) ⟨KV _,KJ _,λh=>absurd h (Nat.lt_irrefl _),d⟩ ?_ (x1:=⟨by rw[List.take_zero,JD];rfl,rfl,trivial⟩)
 clear d
 rintro⟨i,m⟩ ⟨hi,Z,O,a⟩;simp only at hi Z O a;refine aj τok<|ae (λg=>?_) (λg=>?_)
 ·have g:(i:Int)<t.n.b:=g
  rw[show u-i=(u-(i+1))+1 by omega]at a;simp only[mH]at a;obtain⟨_,_,A,_⟩:=ib ht l (i:=i) Oo;have P:=nX hI hB hcx hcl hr A (C i Oo m Oo);refine vi ?_;refine vm (p:=rP) (2*i) (aF v) ?_;cases w:dd B rc cx (kidD t (2*i)) m with
  |error e=>
   rw[w]at P a;have a:.error e=s:=a;subst a;refine cD P ?_;exact rfl
  |ok q=>
  obtain⟨q1,H⟩:=q;obtain⟨c1,z,_⟩:=gj hB hr w;simp only at z;rw[w]at P a;refine ax P ?_;refine vi ?_;refine vm (p:=rP) (2*i) (aF v) ?_;refine af (kt A Oo (b:=(i:Int)) Oo) ?_;refine af (eN _) ?_;have I:=A.lift (qk B) (b:=(i:Int)) Oo Oo Oo;have e5:((bi t).take i).length=i:=by rw[List.length_take];omega
  have e6:(cx++(bi t).take i).length=cx.length+i:=by rw[JK,e5]
  have K:CxOk B (cx++(bi t).take i):=λk q U=>by
   refine nO hcx Oo ht l k q ?_
   by_cases hk:k<(cx++(bi t).take i).length
   ·rw[show cx++bi t=(cx++(bi t).take i)++(bi t).drop i by rw[List.append_assoc,List.take_append_drop],List.getElem?_append_left hk]
    exact U
   ·rw[List.getElem?_eq_none Oo]at U
    cases U
  refine af (mY K Oo (o:=none) (I.mono Oo) λx hx=>by cases hx) ?_;refine vi ?_;exact au (i+1,H) ⟨OS,OS,λ_=>c1,a⟩ (x:=⟨congrArg (λc:Ctx=>some (vP (aG (c.map aA)))) (by rw[List.append_assoc,Lp (f:=t) (i:=i) Oo]),rfl,trivial⟩)
 have g:¬ (i:Int)<t.n.b:=g;obtain rfl:i=u:=Oo
 have O:=O Oo;rw[Nat.sub_self]at a;have a:Y () m=s:=a;rw[F]at a;simp only at a;have L:=nO hcx Oo ht l;have a0:(cx++bi t).length=cx.length+i:=by rw[JK,E]
 rw[JG Oo];refine af (K9 hI hB ht l) ?_
 by_cases V:fD B t=0
 rotate_left
 ·rw[if_pos V]at a
  subst a;refine bO (ee V) ?_;exact rfl
 rw[if_neg Oo]at a;rw[V];refine af uy' ?_;refine az τok (σ:=Nat×Nat) [(0,_),(2,_),(3,_),(9,_),(10,_),(52,_)] [] (λq=>[(53,vI q.1)]) (λq=>[(0,.st 1 132 ((dm B q.2).map .p))]) (λq=>q.1<=i/\q.2<=n/\bg (lG B rc (cx++bi t) t i (i-q.1) q.1 q.2) (λ_ n=>.ok (kidD t (2*t.n.a.toNat),n))=s) (λq=>i-q.1) (0,m) ⟨KV _,Z,a⟩ ?_
 clear a
 rintro⟨j,H⟩ ⟨hj,z,a⟩;simp only at hj z a;refine aj τok<|ae (λM=>?_) (λM=>?_)
 ·have M:(j:Int)<t.n.b:=M
  rw[show i-j=(i-(j+1))+1 by omega]at a;simp only[lG]at a;obtain⟨_,_,A,W⟩:=ib ht l (i:=j) Oo;have I:=A.lift (qk B) (b:=(i:Int)) Oo Oo Oo;refine vi ?_;refine vi ?_;refine vm (p:=rP) (2*j+1) (aF v) ?_;refine vi ?_;refine vm (p:=rP) (2*j) (aF v) ?_;refine af (kt A Oo (b:=t.n.b) Oo) ?_;refine af (eN _) ?_;have W:Ft (QB B) ((cx++bi t).length:Int) (kidD t (2*j+1)):=W.mono Oo;have I:Ft (QB B) ((cx++bi t).length:Int) (aH (kidD t (2*j)) i 0):=I.mono Oo;have R:=tL hI hB L Oo hr W I (D O j Oo H Oo);rw[T];cases w:eQ B rc (cx++bi t) (kidD t (2*j+1)) (aH (kidD t (2*j)) i 0) H with
  |error e=>
   rw[w]at R a;have a:.error e=s:=a;subst a;refine cD R ?_;refine vk ?_;exact rfl
  |ok q=>
   obtain⟨_,m2⟩:=q;have X:=(kF hr w).2;simp only at X;rw[w]at R a;refine ax R ?_;refine vk ?_;refine vi ?_;refine au (j+1,m2) ⟨OS,OS,a⟩
 ·have M:¬ (j:Int)<t.n.b:=M
  obtain rfl:j=i:=Oo
  rw[Nat.sub_self]at a;have a:.ok (kidD t (2*t.n.a.toNat),H)=s:=a;subst a;refine vm (p:=ndP) 0 (aJ v) ?_;refine vi ?_;refine vm (p:=rP) (2*t.n.a.toNat) (aF v) ?_;exact eP9
end
include hI hB hr
theorem Lq(S:pf B rc g)(hn:n<=100000){a:Int}(ha:bI B B.ents.length a=true)(hg:a.toNat*5000+4096<=g):iQ prog 78 132 (dm B n) [pI a] (dn B PV.bool (jk B rc a n)):=by
 obtain⟨i,x,s,u,qi,rfl,_,K,T,D⟩:=hB.fam ha (KJ _);obtain⟨L,e2,e3⟩:=D.ps_eq K;have hg:i*5000+4096<=g:=by simpa using hg
 generalize d:jk B rc (i:Int) n=z;unfold jk at d;rw[L,T]at d;have a0:=D.lp;have a1:=D.lc;have l1:=ak aZ x.ctors;have l2:=ak (λt=>[ah t]) x.params;have l3:=congrArg List.length D.params;rw[List.length_map]at l3;refine aX (r:=dn B PV.bool z) 67 [.tmp 4] τok func78 ?_;refine aj τok<|vm (p:=aQ) i K ?_;refine ae (λM=>?_) (λM=>?_)
 ·have M:((x.ctors.map aZ).length:Int)=0:=M
  rw[if_pos Oo]at d;subst d;exact eP9
 have M:¬ ((x.ctors.map aZ).length:Int)=0:=M;rw[if_neg Oo]at d;refine ae (λE=>?_) (λE=>?_)
 ·have E:((x.ctors.map aZ).length:Int)>1:=E
  rw[if_pos Oo]at d;subst d;exact eP9
 have E:¬ ((x.ctors.map aZ).length:Int)>1:=E;rw[if_neg Oo]at d;obtain⟨c,U,_⟩:=ay (l:=x.ctors) (k:=0);obtain⟨v,go,I⟩:=D.ct 0 c U;obtain⟨V,W,e6⟩:=I.ag_eq K U;have V:jj B (i:Int) 0=v:=V;rw[V]at d;have a2:=I.la;have l4:=ak (λt=>[ah t]) c.args;have l5:=congrArg List.length I.args;rw[List.length_map]at l5;have A:∀(k:Nat) y,u[k]?=some y ->Ft (QB B) (k:Int) y:=λk y w=>D.up_p hB K w;have C:∀j,CxOk B (cJ (u++v.take j)):=λj=>yM λk y w=>by
  by_cases hk:k<u.length
  ·rw[List.getElem?_append_left hk]at w
   exact A k y w
  ·rw[List.getElem?_append_right Oo]at w
   rw[List.getElem?_take]at w;split at w
   ·have:=I.up_a K D.kind w
    exact this.mono Oo
   ·cases w
 have O:∀j,CxOk B (cJ (u.take j)):=λj=>yM λk y w=>by
  rw[List.getElem?_take]at w;split at w
  ·exact A k y w
  ·cases w
 refine cV 6 1000 133 2 rfl rfl<|lw 6 1000 ?_;refine az τok (σ:=Nat) [(0,_),(5,_),(30,_),(31,_)] [(0,_),(5,_)] (λj=>[(6,vP (aG ((cJ (u.take j)).map aA))),(32,vI j)]) (λ_=>[]) (λj=>j<=u.length) (λj=>u.length-j) 0 (KV _) ?_;intro j hj;have W:(u.take j).length=j:=by rw[List.length_take];omega
 refine aj τok<|ae (λg=>?_) (λg=>?_)
 ·have g:(j:Int)<((x.params.map λt=>[ah t]).length:Int):=g
  obtain⟨p,H,_⟩:=ay (l:=u) (k:=j);refine vm (p:=rP) j (x:=row p) (by rw[D.params,JX,H];rfl) ?_;refine af (mY (O j) (by rw[rf,W];omega) (t:=p) (o:=none) (by rw[rf,W];exact A j p H) λx X=>by cases X) ?_;refine vi ?_;exact au (j+1) (by show j+1<=_;omega) (x:=⟨congrArg (λc:Ctx=>some (vP (aG (c.map aA)))) (by rw[dA H,tM]),rfl,trivial⟩)
 have g:¬ (j:Int)<((x.params.map λt=>[ah t]).length:Int):=g;obtain rfl:j=u.length:=Oo
 rw[List.take_length];refine vm (p:=aZ) 0 U ?_;refine az τok (σ:=Nat×Nat) [(0,_),(46,_),(47,_)] [] (λq=>[(6,vP (aG ((cJ (u++v.take q.1)).map aA))),(48,vI q.1)]) (λq=>[(0,.st 1 132 ((dm B q.2).map .p))]) (λq=>q.1<=v.length/\q.2<=n/\lF B rc (cJ (u++v.take q.1)) (v.drop q.1) q.2=z) (λq=>v.length-q.1) (0,n) ⟨KV _,KJ _,by simpa using d⟩ ?_ (x1:=⟨by rw[List.take_zero,JD];rfl,rfl,trivial⟩)
 clear d
 rintro⟨j,m⟩ ⟨hj,hm,b⟩;simp only at hj hm b;refine aj τok<|ae (λg=>?_) (λg=>?_);rotate_left
 ·have g:¬ (j:Int)<((c.args.map λt=>[ah t]).length:Int):=g
  obtain rfl:j=v.length:=Oo
  rw[List.drop_length]at b;have b:.ok (true,m)=z:=b;subst b;exact eP9
 have g:(j:Int)<((c.args.map λt=>[ah t]).length:Int):=g;obtain⟨p,H,hd⟩:=ay (l:=v) (k:=j);rw[hd]at b;simp only[lF]at b;have P:(cJ (u++v.take j)).length=u.length+j:=by rw[rf];simp;omega
 have F:Ft (QB B) ((cJ (u++v.take j)).length:Int) p:=by rw[P];exact I.up_a K D.kind H
 have R:=nX hI hB (C j) Oo hr F (S _ i _ m (C j) Oo F (EE (I.fa j p H)) (by have:=F.len;omega) Oo);refine vm (p:=rP) j (x:=row p) (by rw[I.args,JX,H];rfl) ?_;cases L:dd B rc (cJ (u++v.take j)) p m with
 |error e=>
  rw[L]at R b;have b:.error e=z:=b;subst b;refine cD R ?_;exact rfl
 |ok q=>
 obtain⟨⟨kd,lv⟩,Y⟩:=q;obtain⟨_,Z,_⟩:=gj hB hr L;simp only at Z;rw[L]at R b;have b:(if kd≠0 then .ok (false,Y)else lF B rc (cJ (u++v.take j)++[(p,none)]) (v.drop (j+1)) Y)=z:=b;refine ax R ?_;refine ae (λE=>?_) (λE=>?_)
 ·rw[if_pos E]at b
  subst b;exact eP9
 rw[if_neg E]at b;refine af (mY (C j) Oo (t:=p) (o:=none) F λx X=>by cases X) ?_;refine vi ?_;have ex:cJ (u++v.take (j+1))=cJ (u++v.take j)++[(p,none)]:=by rw[dA H,<- List.append_assoc,tM]
 exact au (j+1,Y) ⟨OS,OS,by simp only;rw[ex];exact b⟩ (x:=⟨congrArg (λc:Ctx=>some (vP (aG (c.map aA)))) ex.symm,rfl,trivial⟩)
end
end Go.Proofs.YtjnjbghlemiklaaGreat
