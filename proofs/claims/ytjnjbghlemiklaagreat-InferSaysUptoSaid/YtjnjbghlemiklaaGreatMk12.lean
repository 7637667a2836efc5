import Derived.Test.YtjnjbghlemiklaaGreatMk11
set_option linter.unusedVariables false
set_option linter.unusedSimpArgs false
set_option linter.unusedSectionVars false
set_option maxRecDepth 100000
set_option maxHeartbeats 4000000
open Go.Proofs.Tryz
namespace Go.Proofs.YtjnjbghlemiklaaGreat
open Go.Wx Cd Tm Lv
theorem Ev{f:FuncId}(q:dx prog f)(h:∀w a n c,n<=c ->(n=0 \/∃b o,a=some ⟨b,o,none⟩) ->Calls prog f #[.slice a n c] w λe w'=>(∃d,e= .returned (.slice d n n)/\(n=0 \/d=a))/\Kp [] w w')(l:List (List PV)):VG prog f [.c (.p (.sl l))] [] (.ok (.c (.cl l),[])):=⟨q,λw X C ρ z A m=>by
 match z,A with
 |[v],_=>
 obtain⟨D,E,hr⟩:=m.slot 0 _ rfl λk F=>by cases F
 obtain rfl:v=D:=JB E;have hr:RV C (.sl l) v:=hr;obtain⟨a,c,rfl,hle,r,s⟩:∃a c,v= .slice a l.length c/\l.length<=c/\(l.length=0 \/∃b o,a=some ⟨b,o,none⟩)/\∀d,(l.length=0 \/d=a) ->RV C (.sl l) (.slice d l.length l.length):=by
  cases hr with
  |nil a c=>exact⟨a,c,rfl,KV _,.inl rfl,λd _=>.nil d 0⟩
  |sl _ H b o c f I K L M=>exact⟨_,c,rfl,K,.inr ⟨b,o,rfl⟩,λd u=>u.elim (λr=>by obtain rfl:=List.length_eq_zero_iff.1 r;exact .nil d 0) λe=>e▸ .sl l H b o l.length f I (KJ _) L M⟩
 refine(h w a l.length c hle r).mono λe w' ⟨⟨d,O,u⟩,k⟩=>⟨_,C,ρ,O,λt b P _=>?_,λk x i=>(by cases i),λj k x y g _ i=>(by cases i),λk x g b o v i=>(by cases i),m.sub.tr k,m.c0,m.cn,k.weak (by simp)⟩
 obtain⟨rfl,rfl⟩:=bK P;exact⟨_,rfl,s d u,d,rfl⟩⟩
theorem KY(l:List (List PV)):VG prog 252 [.c (.p (.sl l))] [] (.ok (.c (.cl l),[])):=Ev ⟨_,func252,rfl,by decide⟩ (λw a n c d e=>by
 refine cO (args:=[_]) 9 [.tmp 2] τok func252 ?_;refine Cr τok rfl n n rfl rfl (KJ _) d ?_;rcases e with rfl|⟨b,o,rfl⟩
 ·exact⟨⟨_,rfl,.inl rfl⟩,Kp.refl _ _⟩
 ·rw[pD]
  exact⟨⟨_,rfl,.inr rfl⟩,Kp.refl _ _⟩) l
theorem K0(l:List (List PV)):VG prog 142 [.c (.p (.sl l))] [] (.ok (.c (.cl l),[])):=Ev ⟨_,func142,rfl,by decide⟩ (λw a n c d e=>by
 refine cO (args:=[_]) 9 [.tmp 2] τok func142 ?_;refine Cr τok rfl n n rfl rfl (KJ _) d ?_;rcases e with rfl|⟨b,o,rfl⟩
 ·exact⟨⟨_,rfl,.inl rfl⟩,Kp.refl _ _⟩
 ·rw[pD]
  exact⟨⟨_,rfl,.inr rfl⟩,Kp.refl _ _⟩) l
theorem yR(l:List (List Nd×List Nd)):∀x∈l.map bdP,x.length=2/\∀q∈x,q.one=true:=λx b=>by
 obtain⟨y,_,rfl⟩:=List.mem_map.1 b;exact⟨rfl,λq a=>by
  simp only[bdP,JJ,JZ,or_false]at a;rcases a with rfl|rfl<;>rfl⟩
theorem Ew(l:List (List Nd×List Nd)):∀x∈l,(bdP x).length=2/\∀q∈bdP x,q.one=true:=λx a=>yR l _ (List.mem_map_of_mem a)
def rb(c:PV)(cs:List PV):List (Nat×SE):=[(0,.st 1 27 [.p c]),(1,.st 2 239 [.ptr 2 0]),(2,.st 3 241 (cs.map .p))]
theorem K1{B:aq}{c:List (List PV)}{k fu er:PV}:VD prog 251 .returning [0,1] (rb (.sl c) (fT B k fu er)) (rb (.sl c) (fT B (.sl c) fu er)):=by
 refine⟨⟨_,func251,rfl,by decide⟩,λw X C ρ o=>?_⟩;refine callsD_of_wpS func251 rfl λl p q=>?_;have h:VCode prog 6 (Tryz.f251.body.getD .skip) ⟨kg' (jh [0,1]) 0,rb (.sl c) (fT B k fu er)⟩ λe A=>e= .normal/\lu id A (rb (.sl c) (fT B (.sl c) fu er)):=by
  refine aj τok ?_;exact⟨rfl,rfl,rfl,rfl,trivial⟩
 have m:=h.run _ _ _ _ _ ⟨C,ρ,o⟩;unfold EvCode at m;refine wpS_of_wp (Go.wp_mono (m _ (nC (by simp) rfl (by simp[ini]))) ?_);rintro e v z ⟨D,d,r,E,⟨rfl,s⟩,i⟩;obtain⟨u,j,b⟩:=i.le (gV (f:=id) (B:=⟨[],rb (.sl c) (fT B (.sl c) fu er)⟩) True.intro s rfl);exact sQ d r rfl q ⟨⟨_,rfl⟩,rfl,u,j,λt a ht=>(by cases ht),b.ent,b.sep,b.off,b.sub,b.c0,b.cn,b.kp⟩
section
variable{B:aq}{cx mo:Ctx}{n:Nat}
theorem Ex(hcx:CxOk B cx)(d:CxOk B (cx++mo))(hcl:(cx++mo).length<=260)(a:0<mo.length){s t:List Nd}{fu er:PV}{u b:Bool}(c:VP prog 197 241 (iK B (cx++mo) n) (fT B (aJ ((cx++mo).map aA)) fu er) [ah s,ah t,.bool u] (.bool b)):
  VP prog 240 241 (iK B cx n) (fT B (aJ (cx.map aA)) fu er) [aJ (mo.map aA),ah s,ah t,.bool u] (.bool b):=by
 have e:aJ ((cx++mo).map aA)= .sl ((cx.map aA).map bdP++(mo.map aA).map bdP):=by rw[List.map_append];exact congrArg PV.sl (List.map_append ..)
 unfold iK at c;rw[e]at c;have i:(cx++mo).length=cx.length+mo.length:=JK;refine H5 29 [.tmp 10] τok func240 ?_;refine aj τok ?_;refine aj τok ?_;refine⟨⟨rfl,rfl,rfl⟩,rfl,λj=>?_⟩;refine aC τok ?_;refine bS id (λ_=>0) (KY _) ?_;refine⟨⟨by simpa using a,yR _⟩,va ?_ (Ew _) (hb:=by simp;omega)⟩;refine vk ?_;refine wn 0 5 21 ?_;refine aj τok ?_;refine ax c ?_;refine iX (λk=>sw 2 0 (sw 1 5 (sw 0 11 k))) (λk=>1-k) K1 ?_;exact .inl ⟨_,_,_,id,rfl,rfl,rfl,rfl,⟨rfl,trivial⟩,rfl⟩
end
theorem Ey(l:List Tr)(i:Nat)(h:i+1<l.length):l.drop i=l.getD i (varX 0)::l.getD (i+1) (varX 0)::l.drop (i+2):=by
 rw[List.drop_eq_getElem_cons (by omega),List.drop_eq_getElem_cons (by omega)];simp only[List.getD_eq_getElem?_getD,List.getElem?_eq_getElem (show i<l.length by omega),List.getElem?_eq_getElem h,Option.getD_some]
section
variable{B:aq}{cx mo:Ctx}{n g:Nat}{rc:RcC}
theorem yS(hcx:CxOk B cx)(a:CxOk B (cx++mo))(hcl:(cx++mo).length<=260)(b:0<mo.length){x y:Tr}{u:Bool}{r:Except Int (Bool×Nat)}(h:lT B (cx++mo) x y u n r):VP prog 240 241 (iK B cx n) (kP B cx r).1 [aJ (mo.map aA),ah (row x),ah (row y),.bool u] (kP B cx r).2:=by
 cases r with
 |ok q=>exact Ex hcx a hcl b h
 |error e=>exact Ex hcx a hcl b h
theorem Ez{Q:Nd ->Prop}{N:Int}{x:Tr}(b:Ft Q N x)(a:x.n.op=12):(∀v∈placesM x,I64 v)/\(placesM x).length<=1000:=by
 have j:=dM b.ok a;refine⟨λv c=>?_,by unfold placesM;rw[List.length_map];omega⟩;obtain⟨f,hf,rfl⟩:=List.mem_map.1 c;obtain⟨i,d⟩:=JH hf;obtain⟨_,_,_,_,e,_⟩:=kn b.ok a d;exact(Cy e).2.1
variable(hrc:tP B g rc)(hle:mF rc)(hcx:CxOk B cx)(hcl:cx.length<=256)(hn:n<=g)(hn1:n<=100000){f h:Tr}(hf:Ft (QB B) (cx.length:Int) f)(hh:Ft (QB B) (cx.length:Int) h)
include hrc hle hcx hcl hn hn1 hf hh
theorem K2(k:f.n.op=12)(u:f.n=h.n):VP prog 241 241 (iK B cx n) (kP B cx (lD rc cx f h n)).1 [ah (row f),ah (row h),bJ ((kidsT f).map row),bJ ((kidsT h).map row)] (kP B cx (lD rc cx f h n)).2:=by
 have v:h.n.op=12:=by rw[<- u];exact k
 have I:=az hf;have P:=az hh;have hl:=dM hf.ok k;have S:=fK hf.ok k;have K:=fK hh.ok v;rw[<- u]at K;obtain⟨z,T⟩:∃z:Nat,f.n.b=(z:Int):=⟨f.n.b.toNat,by omega⟩
 obtain⟨U,V⟩:=Ez hf k;obtain⟨W,X⟩:=Ez hh v;have Y:=oR f;have C:=nJ hcx (by omega) hf k;have w:(cx++bh f).length=cx.length+z:=by rw[JK];omega
 have eK:=ak rP ((kidsT f).map row);have Z:=ak row (kidsT f);generalize d:lD rc cx f h n=o;unfold lD at d;have E:=yQ U W V X;refine aV (r:=.ok (_,_)) 76 [.tmp 10] τok func241 ?_;refine aj τok ?_;refine af (Em hf k) ?_;refine af (Em hh v) ?_
 by_cases F:placesM f=placesM h
 rotate_left
 ·rw[if_neg F]at d
  rw[decide_eq_false F]at E;have d:.ok (false,n)=o:=d;subst d;refine af E ?_;exact⟨_,_,_,rfl,rfl,rfl,rfl,rfl⟩
 rw[if_pos F]at d;rw[decide_eq_true F]at E;refine af E ?_;refine dD 11 1000 72 2 rfl rfl ?_;refine aB τok (σ:=Nat) [(0,_),(3,_),(4,_)] [(0,_)] (λi=>[(11,.c (.row 1000)),(12,vI ((2*i:Nat):Int))]) (λi=>[(1000,.rw 72 2 ((((bh f).take i).map aA).map bdP))]) (λi=>i<=z) (λi=>z-i) 0 (KV _) ?_;rintro i hi;have l1:((bh f).take i).length=i:=by rw[List.length_take];omega
 refine aj τok ?_;refine ae (λs=>?_) (λs=>?_)
 ·have s:((2*i:Nat):Int)<((((kidsT f).map row).map rP).length:Int):=s
  obtain⟨_,_,L,_⟩:=ii hf k (i:=i) (by omega);have tt:(bh f).take (i+1)=(bh f).take i++[(aG (kidD f (2*i)) i 0,none)]:=dy (xS (by omega));have hL:VC prog 84 [ah (row (kidD f (2*i))),pI (((2*i:Nat):Int)/2),pI 0] (.tup [ah (row (aG (kidD f (2*i)) i 0)),pI 0]):=by
   rw[show ((2*i:Nat):Int)/2=(i:Int) by omega];exact ku L (by omega) (by omega)
  refine vm (p:=rP) (2*i) (aF I) ?_;refine om (by omega) (by omega) (by omega) ?_;refine af hL ?_;refine bi ?_ (hb:=by simp;omega);refine vi ?_;exact au (i+1) (by show i+1<=z;omega) (sw 1000 42) (x:=⟨rfl,congrArg (λn:Int=>some (vI n)) (by omega),trivial⟩) (y':=⟨congrArg (λl=>some (SE.rw _ _ l)) (by rw[tt,List.map_append,List.map_append];rfl),trivial⟩)
 have s:¬ ((2*i:Nat):Int)<((((kidsT f).map row).map rP).length:Int):=s;obtain rfl:i=z:=by omega
 rw[JG (by omega)];refine mi 11 1000 ?_;refine aB τok (σ:=Nat×Nat) [(0,_),(3,_),(4,_),(11,_)] [] (λq=>[(15,vI ((2*q.1:Nat):Int))]) (λq=>[(0,.st 1 241 ((iK B cx q.2).map .p))]) (λq=>q.1<=i/\q.2<=n/\dO rc cx (cx++bh f) ((kidsT f).drop (2*q.1)) ((kidsT h).drop (2*q.1)) q.2=o) (λq=>i-q.1) (0,n) ⟨KV _,KJ _,d⟩ ?_
 clear d s
 rintro⟨j,m⟩ ⟨hj,hm,a⟩;simp only at hj hm a
 dsimp only
 refine aj τok ?_;refine ae (λs=>?_) (λs=>?_)
 ·have s:((2*j:Nat):Int)<((((kidsT f).map row).map rP).length:Int):=s
  obtain⟨_,_,L,f1⟩:=ii hf k (i:=j) (by omega);obtain⟨_,_,h0,h1⟩:=ii hh v (i:=j) (by rw[<- u];omega);have d1:(kidsT f).drop (2*j)=kidD f (2*j)::kidD f (2*j+1)::(kidsT f).drop (2*(j+1)):=Ey (kidsT f) (2*j) (by omega);have d2:(kidsT h).drop (2*j)=kidD h (2*j)::kidD h (2*j+1)::(kidsT h).drop (2*(j+1)):=Ey (kidsT h) (2*j) (by omega);rw[d1,d2]at a;simp only[dO]at a;have A:=hrc cx (kidD f (2*j)) (kidD h (2*j)) false m hcx (by omega) L h0 (by omega) (by omega);unfold lT at A;refine vm (p:=rP) (2*j) (aF I) ?_;refine vm (p:=rP) (2*j) (aF P) ?_;cases M:rc cx (kidD f (2*j)) (kidD h (2*j)) false m with
  |error e=>
   rw[M]at A a;have a:.error e=o:=a;subst a;refine ax A ?_;refine vk ?_;exact⟨_,_,_,rfl,rfl,rfl,rfl,rfl⟩
  |ok q=>
  obtain⟨b,H⟩:=q;have:=hle _ _ _ _ _ _ M;simp only at this;rw[M]at A a;cases b with
  |false=>
   have a:.ok (false,H)=o:=a;subst a;refine ax A ?_;refine vk ?_;exact⟨_,_,_,rfl,rfl,rfl,rfl,rfl⟩
  |true=>
  have a:fO (rc (cx++bh f) (kidD f (2*j+1)) (kidD h (2*j+1)) false H) (dO rc cx (cx++bh f) ((kidsT f).drop (2*(j+1))) ((kidsT h).drop (2*(j+1))))=o:=a;have D:=yS hcx C (by omega) (by omega) (hrc _ (kidD f (2*j+1)) (kidD h (2*j+1)) false H C (by omega) (by rw[w];exact f1.mono (by omega)) (by rw[w];exact h1.mono (by rw[<- u];omega)) (by omega) (by omega));refine ax A ?_;refine vi ?_;refine vm (p:=rP) (2*j+1) (aF I) ?_;refine vi ?_;refine vm (p:=rP) (2*j+1) (aF P) ?_;cases O:rc (cx++bh f) (kidD f (2*j+1)) (kidD h (2*j+1)) false H with
  |error e=>
   rw[O]at D a;have a:.error e=o:=a;subst a;refine ax D ?_;refine vk ?_;exact⟨_,_,_,rfl,rfl,rfl,rfl,rfl⟩
  |ok q=>
  obtain⟨b,R⟩:=q;have:=hle _ _ _ _ _ _ O;simp only at this;rw[O]at D a;cases b with
  |false=>
   have a:.ok (false,R)=o:=a;subst a;refine ax D ?_;refine vk ?_;exact⟨_,_,_,rfl,rfl,rfl,rfl,rfl⟩
  |true=>
  refine ax D ?_;refine vk ?_;refine vi ?_;exact au (j+1,R) ⟨by simp only;omega,by simp only;omega,a⟩ (x:=⟨congrArg (λn:Int=>some (vI n)) (by simp only;omega),trivial⟩)
 ·have s:¬ ((2*j:Nat):Int)<((((kidsT f).map row).map rP).length:Int):=s
  rw[JY (by omega)]at a;have a:.ok (true,m)=o:=a;subst a;exact⟨_,_,_,rfl,rfl,rfl,rfl,rfl⟩
end
section
variable{B:aq}{cx:Ctx}{n g:Nat}{rc:RcC}
section
variable(hI:BoI B)(hrc:tP B g rc)(hle:mF rc)(hcx:CxOk B cx)(hcl:cx.length<=256)(hn:n<=g)(hn1:n<=100000){f h:Tr}(hf:Ft (QB B) (cx.length:Int) f)(hh:Ft (QB B) (cx.length:Int) h)
include hI hrc hle hcx hcl hn hn1 hf hh
theorem K3(j:f.n.op=h.n.op)(K:f.n.op≠7)(u:Bool):VP prog 216 241 (iK B cx n) (kP B cx (iE B rc cx f h u n)).1 [ah (row f),ah (row h),.bool u] (kP B cx (iE B rc cx f h u n)).2:=by
 have v:=az hf;have A:=az hh;have O:=gB hf.ok;generalize a:iE B rc cx f h u n=c;unfold iE at a;refine aV (r:=.ok (_,_)) 107 [.tmp 8] τok func216 ?_;refine aj τok ?_;refine af (ie hf) ?_;refine af (ie hh) ?_;refine vm (p:=ndP) 0 (aI v) ?_;refine ae (λk=>?_) (λk=>?_)
 ·have k:f.n.op=2:=k
  rw[if_pos k]at a;subst a;refine ax (KX hI hf hh k (by rw[<- j];exact k) u) ?_;exact⟨_,_,_,rfl,rfl,rfl,rfl,rfl⟩
 have k:¬ f.n.op=2:=k;rw[if_neg k]at a;have L:f.n.op=4 \/f.n.op=5 ->(kidsT f).length=2/\(kidsT h).length=2/\lT B cx (kidD f 0) (kidD h 0) false n (rc cx (kidD f 0) (kidD h 0) false n)/\CxOk B (cx++[(kidD f 0,none)])/\Ft (QB B) ((cx.length+1:Nat):Int) (kidD f 1)/\Ft (QB B) ((cx.length+1:Nat):Int) (kidD h 1):=λg=>by
  obtain⟨F,M,C⟩:=dX hf g;obtain⟨H,d,w⟩:=dX hh (by rw[<- j];exact g);exact⟨F,H,hrc _ _ _ _ _ hcx (by omega) M d hn hn1,hcx.snoc M λx P=>(by cases P),C.mono (by omega),w.mono (by omega)⟩
 refine ae (λo=>?_) (λo=>?_)
 ·have o:f.n.op=4:=o
  rw[if_pos o]at a;obtain⟨F,H,d,l,C,I⟩:=L (.inl o);unfold lT at d;refine vm (p:=rP) 0 (aF v) ?_;refine vm (p:=rP) 0 (aF A) ?_;cases z:rc cx (kidD f 0) (kidD h 0) false n with
  |error e=>
   rw[z]at d a;have a:.error e=c:=a;subst a;refine ax d ?_;refine vk ?_;exact⟨_,_,_,rfl,rfl,rfl,rfl,rfl⟩
  |ok q=>
  obtain⟨b,m⟩:=q;have:=hle _ _ _ _ _ _ z;simp only at this;rw[z]at d a;cases b with
  |false=>
   have a:.ok (false,m)=c:=a;subst a;refine ax d ?_;refine vk ?_;exact⟨_,_,_,rfl,rfl,rfl,rfl,rfl⟩
  |true=>
   have a:rc (cx++[(kidD f 0,none)]) (kidD f 1) (kidD h 1) u m=c:=a;have w:=yS hcx (mo:=[(kidD f 0,none)]) l (by rw[bG];omega) Nat.one_pos (hrc _ _ _ u m l (by rw[bG];omega) (by rw[bG];exact C) (by rw[bG];exact I) (by omega) (by omega));rw[a]at w;refine ax d ?_;refine vm (p:=rP) 0 (aF v) ?_;refine vm (p:=rP) 1 (aF v) ?_;refine vm (p:=rP) 1 (aF A) ?_;have hr:=w;cases c with
   |error e=>
    refine ax hr ?_;refine vk ?_;exact⟨_,_,_,rfl,rfl,rfl,rfl,rfl⟩
   |ok q=>
    refine ax hr ?_;refine vk ?_;exact⟨_,_,_,rfl,rfl,rfl,rfl,rfl⟩
 have o:¬ f.n.op=4:=o;rw[if_neg o]at a;refine ae (λs=>?_) (λs=>?_)
 ·have s:f.n.op=5:=s
  rw[if_pos s]at a;obtain⟨F,H,d,l,C,I⟩:=L (.inr s);unfold lT at d;refine vm (p:=rP) 0 (aF v) ?_;refine vm (p:=rP) 0 (aF A) ?_;cases z:rc cx (kidD f 0) (kidD h 0) false n with
  |error e=>
   rw[z]at d a;have a:.error e=c:=a;subst a;refine ax d ?_;refine vk ?_;exact⟨_,_,_,rfl,rfl,rfl,rfl,rfl⟩
  |ok q=>
  obtain⟨b,m⟩:=q;have:=hle _ _ _ _ _ _ z;simp only at this;rw[z]at d a;cases b with
  |false=>
   have a:.ok (false,m)=c:=a;subst a;refine ax d ?_;refine vk ?_;exact⟨_,_,_,rfl,rfl,rfl,rfl,rfl⟩
  |true=>
   have a:rc (cx++[(kidD f 0,none)]) (kidD f 1) (kidD h 1) false m=c:=a;have w:=yS hcx (mo:=[(kidD f 0,none)]) l (by rw[bG];omega) Nat.one_pos (hrc _ _ _ false m l (by rw[bG];omega) (by rw[bG];exact C) (by rw[bG];exact I) (by omega) (by omega));rw[a]at w;refine ax d ?_;refine vm (p:=rP) 0 (aF v) ?_;refine vm (p:=rP) 1 (aF v) ?_;refine vm (p:=rP) 1 (aF A) ?_;have hr:=w;cases c with
   |error e=>
    refine ax hr ?_;refine vk ?_;exact⟨_,_,_,rfl,rfl,rfl,rfl,rfl⟩
   |ok q=>
    refine ax hr ?_;refine vk ?_;exact⟨_,_,_,rfl,rfl,rfl,rfl,rfl⟩
 have s:¬ f.n.op=5:=s;rw[if_neg s]at a;refine ae (λi=>?_) (λi=>?_)
 ·have i:f.n.op=12:=i
  rw[if_pos i]at a;refine vm (p:=ndP) 0 (aI v) ?_;refine vm (p:=ndP) 0 (aI A) ?_;refine El ?_
  by_cases hn:f.n=h.n
  rotate_left
  ·rw[if_neg hn]at a
   have a:.ok (false,n)=c:=a;subst a;rw[decide_eq_false hn];refine vk ?_;exact⟨_,_,_,rfl,rfl,rfl,rfl,rfl⟩
  rw[if_pos hn]at a;rw[decide_eq_true hn];have hr:=K2 hrc hle hcx hcl ‹n<=g› hn1 hf hh i hn;rw[a]at hr;cases c with
  |error e=>
   refine ax hr ?_;refine vk ?_;exact⟨_,_,_,rfl,rfl,rfl,rfl,rfl⟩
  |ok q=>
   refine ax hr ?_;refine vk ?_;exact⟨_,_,_,rfl,rfl,rfl,rfl,rfl⟩
 have i:¬ f.n.op=12:=i;rw[if_neg i]at a;refine vm (p:=ndP) 0 (aI v) ?_;refine vm (p:=ndP) 0 (aI A) ?_;refine El ?_
 by_cases hn:f.n=h.n
 rotate_left
 ·rw[if_neg hn]at a
  have a:.ok (false,n)=c:=a;subst a;rw[decide_eq_false hn];refine vk ?_;exact⟨_,_,_,rfl,rfl,rfl,rfl,rfl⟩
 rw[if_pos hn]at a;rw[decide_eq_true hn];have D:=lB hf.ok k i;have E:=lB hh.ok (by rw[<- j];exact k) (by rw[<- j];exact i);have hr:=Eu hrc hle hcx (by omega) ‹n<=g› hn1 (xT hf ⟨o,s,K,i⟩) (xT hh (by rw[<- j];exact⟨o,s,K,i⟩)) (by rw[D.1,E.1];have:=D.2;have:=E.2;rw[<- hn]at this;omega) (by omega);rw[a]at hr;cases c with
 |error e=>
  refine ax hr ?_;refine vk ?_;exact⟨_,_,_,rfl,rfl,rfl,rfl,rfl⟩
 |ok q=>
  refine ax hr ?_;refine vk ?_;exact⟨_,_,_,rfl,rfl,rfl,rfl,rfl⟩
end
end
theorem VP.wk{P:Program}{f:FuncId}{T:Nat}{cs c1 c d:List PV}{r:PV}(h:VP P f T cs c1 d r)(i:∀C us,cM C c1 us ->cM C c us):VP P f T cs c d r:=.of ⟨h.1,λw C b us j k l m o p q=>((VP.run h).2 w C b us j k l m o p q).mono λe F ⟨v,s,a,u,z,A,D,E⟩=>⟨v,s,a,u,z,A,i _ _ D,E⟩⟩
theorem tQ{B:aq}{c n e:PV}{m:Int}(hn:n=pI m)(C:Mem)(us:List Value)(h:cM C (fT B c n e) us):cM C (fT B c .unk e) us:=by
 subst hn;refine⟨h.1,λi x v a b=>?_⟩
 match i,a with
 |0,a=>exact h.2 0 x v a b
 |1,a=>exact h.2 1 x v a b
 |2,a=>exact h.2 2 x v a b
 |3,a=>exact h.2 3 x v a b
 |4,a=>exact h.2 4 x v a b
 |5,a=>exact h.2 5 x v a b
 |6,a=>
  obtain rfl:=JB a;rw[fM (h.2 6 _ v rfl b)];exact .unk m
 |7,a=>exact h.2 7 x v a b
 |i+8,a=>cases a
section
variable{B:aq}{cx:Ctx}(hI:BoI B)(hB:GoodB B)
include hI hB
theorem wt':∀g,tP B g (cR B g):=by
 have zero:∀(cx:Ctx) (x y:Tr) (u:Bool),lT B cx x y u 0 (.error 10):=λcx x y u=>by
  refine VP.wk (c1:=fT B (aJ (cx.map aA)) (pI ((0:Nat):Int)) (pI 10)) ?_ (tQ rfl);refine aV (r:=.ok (_,_)) 94 [.tmp 8] τok func197 ?_;refine aj τok ?_;refine vy (p:=((0:Nat):Int)=0) ?_ rfl;exact⟨_,_,_,rfl,rfl,rfl,rfl,rfl⟩
 intro g
 induction g with
 |zero=>
  intro cx x y u n _ _ _ _ h _;obtain rfl:n=0:=by omega
  exact zero cx x y u
 |succ g I=>
  intro cx x y u n hcx hcl C D hn hn1;cases n with
  |zero=>exact zero cx x y u
  |succ m=>
  have v:(((m+1:Nat):Int)-1)=(m:Int):=by omega
  have eC:=ak bdP (cx.map aA);have P:=ak aA cx;have l:=KU C D;generalize a:cR B (g+1) cx x y u (m+1)=c;simp only[cR,Nat.add_sub_cancel]at a;rw[if_neg (by omega)]at a
  by_cases A:row x=row y
  ·rw[if_pos A]at a
   rw[decide_eq_true A]at l;subst a;refine aV (r:=.ok (_,_)) 94 [.tmp 8] τok func197 ?_;refine aj τok ?_;refine vn (p:=((m+1:Nat):Int)=0) ?_;refine vi ?_;rw[v];refine af l ?_;exact⟨_,_,_,rfl,rfl,rfl,rfl,rfl⟩
  rw[if_neg A]at a;rw[decide_eq_false A]at l
  by_cases K:256<cx.length
  ·rw[if_pos K]at a
   subst a;refine VP.wk (c1:=fT B (aJ (cx.map aA)) (pI m) (pI 5)) ?_ (tQ rfl);refine aV (r:=.ok (_,_)) 94 [.tmp 8] τok func197 ?_;refine aj τok ?_;refine vn (p:=((m+1:Nat):Int)=0) ?_;refine vi ?_;rw[v];refine af l ?_;refine vy (p:=(256:Int)<(((cx.map aA).map bdP).length:Int)) ?_;exact⟨_,_,_,rfl,rfl,rfl,rfl,rfl⟩
  rw[if_neg K]at a;obtain⟨R,L⟩:=Et (n:=m) hI hB hcx hcl C;cases d:dA B cx x (m:Int)with
  |error e=>
   rw[d]at a;have a:.error e=c:=a;subst a;refine VP.wk (c1:=fT B (aJ (cx.map aA)) (pI 0) (pI e)) ?_ (tQ rfl);refine aV (r:=.ok (_,_)) 94 [.tmp 8] τok func197 ?_;refine aj τok ?_;refine vn (p:=((m+1:Nat):Int)=0) ?_;refine vi ?_;rw[v];refine af l ?_;refine vn (p:=(256:Int)<(((cx.map aA).map bdP).length:Int)) ?_;refine ax (R e d) ?_;exact⟨_,_,_,rfl,rfl,rfl,rfl,rfl⟩
  |ok p=>
  obtain⟨j,M⟩:=p;rw[d]at a;obtain⟨o,O⟩:=ti hB hcx (by omega) C d;have S:=qE d;simp only at o O S;obtain⟨T,U⟩:=Et (n:=M) hI hB hcx hcl D;simp only at a;cases i:dA B cx y (M:Int)with
  |error e=>
   rw[i]at a;have a:.error e=c:=a;subst a;refine VP.wk (c1:=fT B (aJ (cx.map aA)) (pI 0) (pI e)) ?_ (tQ rfl);refine aV (r:=.ok (_,_)) 94 [.tmp 8] τok func197 ?_;refine aj τok ?_;refine vn (p:=((m+1:Nat):Int)=0) ?_;refine vi ?_;rw[v];refine af l ?_;refine vn (p:=(256:Int)<(((cx.map aA).map bdP).length:Int)) ?_;refine ax (L _ d) ?_;refine ax (T e i) ?_;exact⟨_,_,_,rfl,rfl,rfl,rfl,rfl⟩
  |ok q=>
  obtain⟨k,E⟩:=q;rw[i]at a;obtain⟨w,V⟩:=ti hB hcx (by omega) D i;have W:=qE i;simp only at w V W;have a:mE B (cR B g) cx j k u E=c:=a;unfold mE at a;have nx:=o.nargs;have lx:=o.len;have eA:=ak (λt=>[ah t]) ((argsT j).map row);have X:=ak row (argsT j);have eB:=ak (λt=>[ah t]) ((argsT k).map row);have Y:=ak row (argsT k);refine aV (r:=.ok (_,_)) 94 [.tmp 8] τok func197 ?_;refine aj τok ?_;refine vn (p:=((m+1:Nat):Int)=0) ?_;refine vi ?_;rw[v];refine af l ?_;refine vn (p:=(256:Int)<(((cx.map aA).map bdP).length:Int)) ?_;refine ax (L _ d) ?_;refine ax (U _ i) ?_;refine af (tc o) ?_;refine af (tc w) ?_;refine vm (p:=ndP) 0 (aI (az o.head)) ?_;refine vm (p:=ndP) 0 (aI (az w.head)) ?_;refine ae (λs=>?_) (λs=>?_)
  ·have s:(headT j).n.op≠(headT k).n.op:=s
   rw[if_pos (.inl s)]at a;subst a;refine vk ?_;exact⟨_,_,_,rfl,rfl,rfl,rfl,rfl⟩
  have s:(headT j).n.op=(headT k).n.op:=Decidable.not_not.1 s;refine ae (λz=>?_) (λz=>?_)
  ·have z:((((argsT j).map row).map λt=>[ah t]).length:Int)≠((((argsT k).map row).map λt=>[ah t]).length:Int):=z
   rw[if_pos (.inr (by omega))]at a;subst a;refine vk ?_;exact⟨_,_,_,rfl,rfl,rfl,rfl,rfl⟩
  have z:¬ ((((argsT j).map row).map λt=>[ah t]).length:Int)≠((((argsT k).map row).map λt=>[ah t]).length:Int):=z;rw[if_neg (by omega)]at a;refine vk ?_;have hh:=K3 (n:=E) hI I (kw B g) hcx (by omega) (by omega) (by omega) o.head w.head s O u;cases hr:iE B (cR B g) cx (headT j) (headT k) u E with
  |error e=>
   rw[hr]at hh a;have a:.error e=c:=a;subst a;refine ax hh ?_;exact⟨_,_,_,rfl,rfl,rfl,rfl,rfl⟩
  |ok r=>
  obtain⟨b,F⟩:=r;have Z:=Da (kw B g) hr;simp only at Z;rw[hr]at hh a;cases b with
  |false=>
   have a:.ok (false,F)=c:=a;subst a;refine ax hh ?_;exact⟨_,_,_,rfl,rfl,rfl,rfl,rfl⟩
  |true=>
   have a:cU (cR B g) cx (argsT j) (argsT k) F=c:=a;have H:=Eu (n:=F) I (kw B g) hcx hcl (by omega) (by omega) o.args w.args (by omega) (by omega);rw[a]at H;refine ax hh ?_;cases c with
   |error e=>
    refine ax H ?_;exact⟨_,_,_,rfl,rfl,rfl,rfl,rfl⟩
   |ok q=>
    refine ax H ?_;exact⟨_,_,_,rfl,rfl,rfl,rfl,rfl⟩
theorem K4(hcx:CxOk B cx)(hcl:cx.length<=260){x y:Tr}(b:Ft (QB B) (cx.length:Int) x)(c:Ft (QB B) (cx.length:Int) y)(f:Int)(u:Bool):VC prog 165 [aY B,aJ (cx.map aA),ah (row x),ah (row y),pI f,.bool u] (match kx B cx x y f u with
  | .ok q=>.tup [.bool q.1,pI q.2,pI 0]
  | .error e=>.tup [.bool false,pI 0,pI e]):=by
 have d:=CZ';obtain⟨n,hn,hn1⟩:∃n:Nat,min (max f 0) 100000=(n:Int)/\aW f=n:=⟨_,by unfold aW;omega,rfl⟩
 unfold kx;rw[hn1];have a:=wt' hI hB GC cx x y u n hcx hcl b c (by omega) (by omega);unfold lT at a;rw[<- hn]at a;refine vf 43 [.tmp 12,.tmp 13,.tmp 14] τok func165 ?_;cases hr:cR B GC cx x y u n with
 |error e=>
  have i:=qI B GC _ _ _ _ _ _ hr;rw[hr]at a;refine ax a ?_;refine vy (p:=e≠0) ?_ i;refine vk ?_;exact⟨_,_,rfl,rfl,rfl⟩
 |ok q=>
  rw[hr]at a;refine ax a ?_;refine vn (p:=(0:Int)≠0) ?_ (by decide);refine vk ?_;exact⟨_,_,rfl,rfl,rfl⟩
end
theorem at_ok(l:List Atom):∀x∈l,(atP x).length=2/\∀q∈atP x,q.one=true:=λx _=>⟨rfl,λq a=>by
 simp[atP]at a;rcases a with rfl|rfl<;>rfl⟩
theorem K5(l:List Atom)(a:0<l.length)(hl:l.length<=1000000):VO prog 138 [bX l] 48 2 (l.map atP):=by
 refine nv 8 [.tmp 2] τok func138 ?_;refine aj τok ?_;refine qB (l:=l.map atP) τok (by rfl) (by rw[List.length_map];exact a) ?_;refine va ?_ (at_ok l);exact⟨7,rfl,rfl⟩
theorem yT{a:List Atom}(ha:a.length<=1000000){b:Int}(z:I64 b):VC prog 85 [bX a,pI b] (.tup [bX (fe a b),pI (df a b)]):=by
 have O:=ak atP a;unfold I64 at z;have m:∀e,df a b=e ->e≠0 ->PV.tup [.sl [],pI e]= .tup [bX (fe a b),pI (df a b)]:=λe D A=>by
  have hr:fe a b=[]:=by unfold fe;rw[if_neg (by rw[D];exact A)]
  rw[hr,D]
  rfl
 refine vf 39 [.tmp 4,.tmp 5] τok func85 ?_;refine bB (yP a (by omega) 16) (λd=>?_) (λd=>?_);rotate_left
 ·exact⟨_,_,rfl,rfl,m 19 (by unfold df;rw[if_pos d]) (by decide)⟩
 refine ae (λC=>?_) (λC=>?_)
 ·exact⟨_,_,rfl,rfl,m 1 (by unfold df;rw[if_neg (by simp[d]),if_pos C]) (by decide)⟩
 have E:df a b=if a.any (λx=>decide (1000<x.add+b))then 6 else 0:=by unfold df;rw[if_neg (by simp[d]),if_neg C]
 obtain⟨I,o⟩:=jm d;have A:0<a.length:=by
  unfold cE at d;split at d
  ·cases d
  ·omega
 refine fX (K5 a A ha) ?_;refine aB τok (σ:=Nat×List Atom) [(1,_),(6,_),(16,_)] [] (λq=>[(17,vI q.1)]) (λq=>[(14,.rw 48 2 (q.2.map atP))]) (λq=>q.1<=a.length/\q.2=(gG a b).take q.1++a.drop q.1/\∀x∈a.take q.1,x.add+b<=1000) (λq=>a.length-q.1) (0,a) ⟨KV _,by simp,λx j=>by simp at j⟩ ?_;rintro⟨i,l⟩ ⟨K,r,w⟩;simp only at K r w;have P:(gG a b).length=a.length:=List.length_map _;refine aj τok ?_;refine ae (λs=>?_) (λs=>?_);rotate_left
 ·have s:¬ (i:Int)<((a.map atP).length:Int):=s
  rw[JG (by omega),JY (by omega),JD]at r;rw[JG (by omega)]at w;have F:df a b=0:=by
   rw[E,if_neg];rw[List.any_eq_true];rintro⟨x,j,h⟩;have:=w x j;simp at h;omega
  refine⟨_,_,rfl,rfl,?_⟩;rw[F,show fe a b=l by unfold fe;rw[if_pos F,r]]
  rfl
 have s:(i:Int)<((a.map atP).length:Int):=s;obtain⟨x,j,H⟩:=ay (l:=a) (k:=i);have c:l[i]?=some x:=by
  rw[r,List.getElem?_append_right (by rw[List.length_take];omega),List.length_take,show i-min i (gG a b).length=0 by omega,H]
  rfl
 have L:=o x (JQ j);refine vm (p:=atP) i c ?_;refine dN c ?_;refine vi ?_;refine ae (λu=>?_) (λu=>?_)
 ·have u:b>1000-x.add:=u
  exact⟨_,_,rfl,rfl,m 6 (by rw[E,if_pos];rw[List.any_eq_true];exact⟨x,JQ j,by simp;omega⟩) (by decide)⟩
 have u:¬ b>1000-x.add:=u
 refine vm (p:=atP) i c ?_;refine dN c ?_;refine vi ?_;refine vm (p:=atP) i c ?_;refine dN c ?_;refine vi ?_;refine au (i+1,l.set i ⟨x.var,x.add+b⟩) ⟨by show i+1<=_;omega,?_,λy v=>?_⟩ (y':=⟨congrArg (λl=>some (SE.rw _ _ l)) (by rw[List.map_set];rfl),trivial⟩)
 ·show l.set i _=_
  have M:(gG a b)[i]?=some ⟨x.var,x.add+b⟩:=by unfold gG;rw[JX,j];rfl
  rw[r,H,List.set_append_right _ _ (by rw[List.length_take];omega),List.length_take,show i-min i (gG a b).length=0 by omega,List.set_cons_zero,List.take_add_one,M];simp
 ·rw[List.take_add_one,j]at v
  simp at v;rcases v with v|rfl
  ·exact w y v
  ·omega
open Go.Wx Cd Tm Lv
section
variable{Q:Nd ->Prop}{N:Int}{x y:Tr}
theorem EA{ys:List Tr}(a:Ok .tm x)(hl:(row x).length<=4096)(b:∀y∈ys,Ok .tm y/\(row y).length<=4096)(hn:ys.length<=100000):VC prog 94 [pI 4,bJ (ys.map row),ah (row x)] (cT (aZ ys x)):=by
 rw[show cT (aZ ys x)=_ by unfold aZ;rw[apply_ite cT]];exact Ir (.inl rfl) a hl b hn
end
theorem EB{vars:Int}{l:List Atom}(h:jq vars l):GL (λx:Atom=>I64 x.var/\I64 x.add) l:=⟨by have:=h.hi;omega,λx a=>by
 have:=h.at_ x a;exact⟨⟨by omega,by omega⟩,⟨by omega,by omega⟩⟩⟩
theorem K6{vars:Int}{a:List Atom}(ha:jq vars a):VC prog 85 [bX a,pI 1] (.tup [bX (fe a 1),pI (df a 1)]):=yT (by have:=ha.hi;omega) (by unfold I64;omega)
theorem yU{vars:Int}{a b:List Atom}(ha:jq vars a)(hb:jq vars b):VC prog 93 [bX a,bX b] (.tup [bX (de a b),pI (cB a b)]):=HX ⟨_,func93,rfl,by decide⟩ λw C H d c i=>by
 obtain⟨v,z,rfl,j,l⟩:=xt i;obtain⟨m,o,rfl,p,I⟩:=br_at.sl (EB ha) j;obtain⟨q,r,rfl,s,K⟩:=br_at.sl (EB hb) l;refine(IV d a b m q o r p s).2.mono λe L ⟨u,A,D,⟨E,F⟩,k⟩=>⟨⟨_,D,?_⟩,k⟩
 exact HY (SV.rv DD' ⟨u,A,rfl,E.mono λ_ _ _ h=>.inr h,F⟩) (.int _ _)
section
variable{B:aq}(hI:BoI B)(hB:GoodB B)
include hI hB
theorem K7{x:Tr}{N:Int}(b:Ft (QB B) N x)(a:x.n.op=12):VC prog 157 [aY B,ah (row x)] (pI (fF B x)):=KI hB b a
variable{cx:Ctx}(hcx:CxOk B cx)(hcl:cx.length<=260)
include hcx hcl
theorem K8{x y:Tr}(a:Ft (QB B) (cx.length:Int) x)(b:Ft (QB B) (cx.length:Int) y)(n:Int)(u:Bool):VC prog 165 [aY B,aJ (cx.map aA),ah (row x),ah (row y),pI n,.bool u] (match kx B cx x y n u with
  | .ok q=>.tup [.bool q.1,pI q.2,pI 0]
  | .error e=>.tup [.bool false,pI 0,pI e]):=K4 hI hB hcx hcl a b n u
end
theorem uu':VC prog 87 [pI 0] (.tup []):=by
 refine vf 7 [] τok func87 ?_;refine vn (p:=(0:Int)≠0) ?_ (by decide);exact⟨_,_,rfl,rfl,rfl⟩
theorem eu{e:Int}(he:e≠0):VE prog 87 [pI e] (dV e):=by
 refine nw (r:=.error (dV e)) 7 [] τok func87 ?_;refine aj τok ?_;refine vy ?_ he;refine qn (λw=>by simp[Instr.makeInterface,underlying129,go_sem]) ?_;exact rfl
theorem mU{B:aq}{cx:Ctx}(hcx:CxOk B cx)(hcl:cx.length<=300){t:Tr}{o:Option Tr}(ht:Ft (QB B) (cx.length:Int) t)(a:∀x,o=some x ->Ft (QB B) (cx.length:Int) x):VC prog 92 [aJ (cx.map aA),.sl [[ah (row t),ah (nY' o)]]] (aJ ((cx++[(t,o)]).map aA)):=by
 have e:aJ ((cx++[(t,o)]).map aA)= .sl ((cx.map aA).map bdP++[[ah (row t),ah (nY' o)]]):=by rw[List.map_append];exact congrArg PV.sl (List.map_append ..)
 rw[e];refine vf 9 [.tmp 4] τok func92 ?_;refine bS id (λ_=>0) (K0 _) ?_;refine⟨⟨Nat.one_pos,yR _⟩,bi ?_ (hb:=by simp;omega)⟩;exact⟨_,_,rfl,rfl,rfl⟩
theorem EC{c:List (List Nd×List Nd)}(hc:c.length<=256):VC prog 146 [aJ c] (.tup []):=by
 have eC:=ak bdP c;refine vf 6 [] τok func146 ?_;refine vn (p:=(256:Int)<((c.map bdP).length:Int)) ?_;exact⟨_,_,rfl,rfl,rfl⟩
theorem ED{c:List (List Nd×List Nd)}(hc:256<c.length):VE prog 146 [aJ c] (dV 5):=by
 have eC:=ak bdP c;refine nw (r:=.error (dV 5)) 6 [] τok func146 ?_;refine aj τok ?_;refine vy (p:=(256:Int)<((c.map bdP).length:Int)) ?_;refine bL (eu (by decide)) ?_;exact rfl
theorem EE(kind:Int){l:List Atom}(hl:l.length<=1000):VC prog 88 [pI kind,bX l] (ah (row (dY kind l))):=by
 have d:=ak atP l;generalize b:row (dY kind l)=j;rw[show row (dY kind l)=⟨2,kind,(l.length:Int)⟩::l.map λa=>⟨3,a.var,a.add⟩ by
  have:∀l:List Atom,rows (l.map λa=>Tr.mk ⟨3,a.var,a.add⟩ [])=l.map λa=>(⟨3,a.var,a.add⟩:Nd):=by
   intro l
   induction l with
   |nil=>rfl
   |cons a l m=>simp[rows,row,m]
  simp[dY,row,this]]at b
 refine vf 29 [.tmp 4] τok func88 ?_;refine aB τok (σ:=Nat) [(13,_),(14,_)] [] (λi=>[(5,.c (.row 1000)),(15,vI i)]) (λi=>[(1000,.rw 42 3 ([pI 2,pI kind,pI ((l.map atP).length:Int)]::(l.take i).map λa=>[pI 3,pI a.var,pI a.add]))]) (λi=>i<=l.length) (λi=>l.length-i) 0 (KV _) ?_ (sw 1000 12);intro i o;refine aj τok ?_;refine ae (λg=>?_) (λg=>?_)
 ·have g:(i:Int)<l.length:=by simpa[d]using g
  obtain⟨a,e,_⟩:=ay (l:=l) (k:=i);refine vm (p:=atP) i e ?_;refine bi ?_ (hb:=by simp;omega);refine vi ?_;exact au (i+1) (by show i+1<=_;omega) (sw 1000 26) (y':=⟨congrArg (λl=>some (SE.rw _ _ l)) (by
   rw[dy e];simp[dz];exact⟨rfl,rfl,rfl⟩),trivial⟩)
 ·have:i=l.length:=by simp[d]at g;omega
  subst this;exact⟨_,_,rfl,rfl,by
   rw[List.take_length,<- b,d];simp[ah,gC',ndP]⟩
theorem yV{n:Nat}{fr:Int}(hn:n<=100)(hf:0<=fr/\fr<=100):VO prog 140 [pI n,pI fr] 29 1 (((varsM n fr).map row).map rP):=by
 have ev:∀k,k<n ->(varsM n fr)[k]?=some (varX (fr+((n-1-k:Nat):Int))):=λk a=>by
  unfold varsM;rw[JX,List.getElem?_range a]
  rfl
 have d:(varsM n fr).length=n:=by simp[varsM]
 refine nv 22 [.tmp 4] τok func140 ?_;refine aj τok ?_;refine vi ?_;refine dD 5 1000 29 1 rfl rfl ?_;refine aB τok (σ:=Nat×Int) [(1,_)] [] (λq=>[(5,.c (.row 1000)),(6,vI q.2)]) (λq=>[(1000,.rw 29 1 ((((varsM n fr).take q.1).map row).map rP))]) (λq=>q.1<=n/\q.2=(n:Int)-1-q.1) (λq=>n-q.1) (0,(n:Int)-1) ⟨KV _,by simp only;omega⟩ ?_;rintro⟨k,v⟩ ⟨a,b⟩;simp only at a b;have e:((varsM n fr).take k).length=k:=by rw[List.length_take];omega
 refine aj τok ?_;refine ae (λg=>?_) (λg=>?_)
 ·have g:v≥0:=g
  refine vi ?_;refine bi ?_ (hb:=by simp;omega);refine vi ?_;exact au (k+1,v-1) ⟨by simp only;omega,by simp only;omega⟩ (sw 1000 20) (y':=⟨congrArg (λl=>some (SE.rw _ _ l)) (by
   rw[dy (ev k (by omega)),List.map_append,List.map_append,show fr+((n-1-k:Nat):Int)=fr+v by omega]
   rfl),trivial⟩)
 ·have g:¬ v≥0:=g
  exact⟨1000,rfl,congrArg (λl=>some (SE.rw 29 1 ((List.map row l).map rP))) (JG (l:=varsM n fr) (i:=k) (by omega))⟩
section
variable{B:aq}(hB:GoodB B)
include hB
theorem re{x:Tr}{ys:List Tr}{l:List (List Nd)}{t:List Nd}{Q:Nd ->Prop}(b:Ok .tm x)(hl:(row x).length<=4096)(a:∀y∈ys,Ft Q 90000 y)(hn:ys.length<=1000)(c:l=ys.map row)(d:t=row x):VC prog 94 [pI 4,bJ l,ah t] (cT (aZ ys x)):=by
 subst c d;exact EA b hl (λy h=>⟨(a y h).ok,(a y h).len⟩) (by omega)
theorem K9{a:Int}(ha:bk B B.ents.length a=true):VC prog 89 [aY B,pI a] (cT (fG B a)):=by
 obtain⟨i,x,s,u,v,rfl,_,l,C,c⟩:=hB.fam ha (KJ _);obtain⟨D,E,F⟩:=c.ps_eq l;have H:=c.lp;have I:=c.li;have w:∀y∈u,Ft (QB B) 90000 y:=λy o=>by
  obtain⟨k,q⟩:=JH o;exact(c.up_p hB l q).mono (by have:=aH q;omega)
 have A:∀y∈v,Ft (QB B) 90000 y:=λy o=>by
  obtain⟨k,q⟩:=JH o;exact(c.up_i hB l q).mono (by have:=aH q;omega)
 generalize b:fG B (i:Int)=j;unfold fG at b;rw[D,E,F]at b;have d:=re hB (ys:=v) (x:=s) c.fs.ok c.fs.len A (by omega) c.indices c.sort;refine vf 31 [.tmp 4,.tmp 5] τok func89 ?_;refine vm (p:=aU) i l ?_;cases q1:aZ v s with
 |error e=>
  have M:=jV q1;rw[q1]at d b;have b:.error e=j:=b;subst b;refine af d ?_;refine vy (p:=e≠0) ?_;exact⟨_,_,rfl,rfl,rfl⟩
 |ok y=>
  rw[q1]at d b;have b:aZ u y=j:=b;refine af d ?_;refine vn (p:=(0:Int)≠0) ?_ (by decide);have o:=kC (qk B) (N:=(u.length:Int)) (c.fs.wk (λm K=>nE (Nat.le_of_lt (aH l)) K)|>.mono (by omega)) (λk z L=>(c.up_i hB l L).mono (by omega)) q1;have r:=re hB (ys:=u) (x:=y) o.ok o.len w (by omega) c.params rfl;rw[b]at r;refine af r ?_;cases j with
  |error e=>exact⟨_,_,rfl,rfl,rfl⟩
  |ok z=>exact⟨_,_,rfl,rfl,rfl⟩
end
section
variable{B:aq}(hB:GoodB B)
include hB
theorem rf{x:Tr}{ys:List Tr}{L:List (List PV)}{N:Int}(a:Ft (QB B) N x)(b:∀y∈ys,Ft (QB B) N y)(hn:ys.length<=1000)(e:L=(ys.map row).map rP):VC prog 139 [ah (row x),.sl L] (cT (aK x ys)):=by
 subst e;exact xH a b (by omega)
theorem La{a b:Int}(ha:bk B B.ents.length a=true)(h0:0<=b)(hb:b<(aN B a).ctors.length):VC prog 90 [aY B,pI a,pI b] (cT (gj B a b)):=by
 have V:=i3 hB ha;obtain⟨i,x,s,j,qi,rfl,_,C,O,r⟩:=hB.fam ha (KJ _);obtain⟨W,e2,e3⟩:=r.ps_eq C;obtain⟨k,rfl⟩:∃k:Nat,b=(k:Int):=⟨b.toNat,by omega⟩
 rw[O]at hb;obtain⟨c,P,_⟩:=ay (l:=x.ctors) (k:=k);obtain⟨m,S,v⟩:=r.ct k c P;obtain⟨X,Y,e6⟩:=v.ag_eq C P;have Z:=r.lp;have a0:=v.la;have a1:=v.lo;have a2:=r.li;generalize d:gj B (i:Int) (k:Int)=o;unfold gj at d;rw[W,X,Y]at d;have f1:=ak (λt=>[ah t]) x.params;have f2:=ak (λt=>[ah t]) c.args;have l3:=congrArg List.length r.params;have l4:=congrArg List.length v.args;have l5:=congrArg List.length v.out;rw[List.length_map]at l3 l4 l5;have D:∀y∈j,Ft (QB B) 90000 y:=λy q=>by
  obtain⟨k,E⟩:=JH q;exact(r.up_p hB C E).mono (by have:=aH E;omega)
 have F:∀y∈m,Ft (QB B) 90000 y:=λy q=>by
  obtain⟨k,E⟩:=JH q;exact(v.up_a C r.kind E).mono (by have:=aH E;omega)
 have H:Ft (QB B) ((j.length+m.length:Nat):Int) (.mk ⟨9,(i:Int),0⟩ []):=nM (by simp[aw,aE];omega) (.inl rfl) (by
  simp only[QB,bV,aS];simp[ha])
 have I:∀y∈varsM j.length (m.length:Int)++S,Ft (QB B) ((j.length+m.length:Nat):Int) y:=λy q=>by
  rcases List.mem_append.1 q with q|q
  ·exact(kD (qk B) (by omega) (by omega) y q).mono (by omega)
  ·exact v.up_o C r.kind q
 have T:=yV (n:=j.length) (fr:=(m.length:Int)) (by omega) (by omega);rw[show (j.length:Int)=(((x.params.map λt=>[ah t]).length:Nat):Int) by omega,show (m.length:Int)=(((c.args.map λt=>[ah t]).length:Nat):Int) by omega]at T;have R:(varsM j.length (m.length:Int)).length=j.length:=by simp[varsM]
 have w:=rf hB (L:=((varsM j.length (((c.args.map λt=>[ah t]).length:Nat):Int)).map row).map rP++c.out.map rP) H I (by rw[JK,R];omega) (by
  rw[show (((c.args.map λt=>[ah t]).length:Nat):Int)=(m.length:Int) by omega,v.out,List.map_append,List.map_append])
 refine vf 58 [.tmp 6,.tmp 7] τok func90 ?_;refine vm (p:=aU) i C ?_;refine vm (p:=bD) k P ?_;refine fX T ?_;refine va (p:=rP) ?_ (iY _) (hb:=by simp[varsM];omega);cases q1:aK (.mk ⟨9,(i:Int),0⟩ []) (varsM j.length (m.length:Int)++S)with
 |error e=>
  have he:=ib q1;rw[q1]at w d;have d:.error e=o:=d;subst d;refine af w ?_;refine vk ?_;refine vy (p:=e≠0) ?_;exact⟨_,_,rfl,rfl,rfl⟩
 |ok t=>
 have ht:=fL (qk B) H I q1;rw[q1]at w d;have d:(aZ m t).bind (aZ j)=o:=d;refine af w ?_;refine vk ?_;refine vn (p:=(0:Int)≠0) ?_ (by decide);have A:=re hB (ys:=m) (x:=t) ht.ok ht.len F (by omega) v.args rfl;cases M:aZ m t with
 |error e=>
  have he:=jV M;rw[M]at A d;have d:.error e=o:=d;subst d;refine af A ?_;refine vy (p:=e≠0) ?_;exact⟨_,_,rfl,rfl,rfl⟩
 |ok u=>
 have U:=kC (qk B) (N:=(j.length:Int)) (ht.mono (by omega)) (λk y q=>(v.up_a C r.kind q).mono (by omega)) M;rw[M]at A d;have d:aZ j u=o:=d;refine af A ?_;refine vn (p:=(0:Int)≠0) ?_ (by decide);have K:=re hB (ys:=j) (x:=u) U.ok U.len D (by omega) r.params rfl;rw[d]at K;refine af K ?_;cases o with
 |error e=>exact⟨_,_,rfl,rfl,rfl⟩
 |ok z=>exact⟨_,_,rfl,rfl,rfl⟩
theorem Lb{N:Int}(h0:0<=N)(hN:N<=90000){a b:Int}(ha:bk B B.ents.length a=true)(a2:0<=b)(hb:b<(aN B a).ctors.length){D:List Tr}(hq:∀y∈D,Ft (QB B) N y)(a0:D.length=(gJ B a).length){mo:Tr}(O:Ft (QB B) N mo):VC prog 155 [aY B,pI a,pI b,bJ (D.map row),ah (row mo)] (cT (iG B a b D mo)):=by
 have a3:=i3 hB ha;obtain⟨i,x,s,o,qi,rfl,_,M,P,F⟩:=hB.fam ha (KJ _);obtain⟨e1,e2,e3⟩:=F.ps_eq M;obtain⟨k,rfl⟩:∃k:Nat,b=(k:Int):=⟨b.toNat,by omega⟩
 rw[P]at hb;obtain⟨c,hc,_⟩:=ay (l:=x.ctors) (k:=k);obtain⟨m,go,E⟩:=F.ct k c hc;obtain⟨e4,e5,e6⟩:=E.ag_eq M hc;have a4:=F.lp;have a5:=E.la;have a6:=E.lo;have a7:=F.li;have a8:=F.lc;generalize d:iG B (i:Int) (k:Int) D mo=r;unfold iG at d;rw[e1,e4,e5]at d;rw[e1]at a0;have f1:=ak (λt=>[ah t]) x.params;have f2:=ak (λt=>[ah t]) c.args;have l3:=congrArg List.length F.params;have l4:=congrArg List.length E.args;have l5:=congrArg List.length E.out;rw[List.length_map]at l3 l4 l5;have R:∀y∈m,Ft (QB B) 90000 y:=λy C=>by
  obtain⟨k,hk⟩:=JH C;exact(E.up_a M F.kind hk).mono (by have:=aH hk;omega)
 have S:Ft (QB B) ((o.length+m.length:Nat):Int) (.mk ⟨10,(i:Int),(k:Int)⟩ []):=nM (by simp[aw,aE];omega) (.inr rfl) (by
  simp only[QB,bV,aS];simp[ha,P];omega)
 have T:∀y∈varsM o.length (m.length:Int)++varsM m.length 0,Ft (QB B) ((o.length+m.length:Nat):Int) y:=λy C=>by
  rcases List.mem_append.1 C with C|C
  ·exact(kD (qk B) (by omega) (by omega) y C).mono (by omega)
  ·exact(kD (qk B) (by omega) (by omega) y C).mono (by omega)
 have c1:(((x.params.map λt=>[ah t]).length:Nat):Int)=(o.length:Int):=by omega
 have X:(((c.args.map λt=>[ah t]).length:Nat):Int)=(m.length:Int):=by omega
 have Y:=yV (n:=o.length) (fr:=(m.length:Int)) (by omega) (by omega);have hw:=yV (n:=m.length) (fr:=0) (by omega) (by omega);have U:=ku O (by omega) (b:=((o.length+m.length:Nat):Int)) (by omega);have hm:=O.lift (qk B) (b:=((o.length+m.length:Nat):Int)) (by omega) (by omega) (by omega);rw[show ((o.length+m.length:Nat):Int)=(((x.params.map λt=>[ah t]).length:Nat):Int)+(((c.args.map λt=>[ah t]).length:Nat):Int) by omega]at U;rw[<- c1,<- X]at Y;rw[<- X]at hw;have V:(varsM o.length (m.length:Int)).length=o.length:=by simp[varsM]
 have W:(varsM m.length 0).length=m.length:=by simp[varsM]
 have H:=rf hB (L:=((varsM o.length (((c.args.map λt=>[ah t]).length:Nat):Int)).map row).map rP++((varsM m.length 0).map row).map rP) S T (by rw[JK,V,W];omega) (by
  rw[X,List.map_append,List.map_append])
 refine vf 120 [.tmp 10,.tmp 11] τok func155 ?_;refine vm (p:=aU) i M ?_;refine vm (p:=bD) k hc ?_;refine vk ?_;refine vi ?_;refine af U ?_;refine vn (p:=(0:Int)≠0) ?_ (by decide);refine fX Y ?_;refine fX hw ?_;refine va (p:=rP) ?_ (iY _) (hb:=by simp[varsM];omega);cases q1:aK (.mk ⟨10,(i:Int),(k:Int)⟩ []) (varsM o.length (m.length:Int)++varsM m.length 0)with
 |error e=>
  have he:=ib q1;rw[q1]at H d;have d:.error e=r:=d;subst d;refine af H ?_;refine vy (p:=e≠0) ?_;exact⟨_,_,rfl,rfl,rfl⟩
 |ok w=>
 have a1:=fL (qk B) S T q1;rw[q1]at H d;have d:(aK (aG mo ((o.length+m.length:Nat):Int) 0) (go++[w])).bind (λt=>(aZ m t).bind (cF D 0 o.length))=r:=d;refine af H ?_;refine vn (p:=(0:Int)≠0) ?_ (by decide);refine va (p:=rP) ?_ (iY _) (hb:=by simp[dz];omega);refine bi ?_ (hb:=by simp[dz];omega);have K:∀y∈go++[w],Ft (QB B) (N+((o.length+m.length:Nat):Int)) y:=λy C=>by
  rcases List.mem_append.1 C with C|C
  ·exact(E.up_o M F.kind C).mono (by omega)
  ·obtain rfl:y=w:=by simpa using C
   exact a1.mono (by omega)
 have A:=rf hB (L:=c.out.map rP++[rP (row w)]) hm K (by rw[JK];simp;omega) (by
  rw[E.out,List.map_append,List.map_append]
  rfl)
 rw[show ((o.length+m.length:Nat):Int)=(((x.params.map λt=>[ah t]).length:Nat):Int)+(((c.args.map λt=>[ah t]).length:Nat):Int) by omega]at A d;cases Z:aK (aG mo ((((x.params.map λt=>[ah t]).length:Nat):Int)+(((c.args.map λt=>[ah t]).length:Nat):Int)) 0) (go++[w])with
 |error e=>
  have he:=ib Z;rw[Z]at A d;have d:.error e=r:=d;subst d;refine af A ?_;refine vy (p:=e≠0) ?_;exact⟨_,_,rfl,rfl,rfl⟩
 |ok t=>
 have ht:=fL (qk B) hm K (by rw[<- Z,c1,X,Int.natCast_add]);rw[Z]at A d;have d:(aZ m t).bind (cF D 0 o.length)=r:=d;refine af A ?_;refine vn (p:=(0:Int)≠0) ?_ (by decide);have I:=re hB (ys:=m) (x:=t) ht.ok ht.len R (by omega) E.args rfl;cases q3:aZ m t with
 |error e=>
  have he:=jV q3;rw[q3]at I d;have d:.error e=r:=d;subst d;refine af I ?_;refine vy (p:=e≠0) ?_;exact⟨_,_,rfl,rfl,rfl⟩
 |ok u=>
 have hu:=kC (qk B) (N:=N+o.length) (ht.mono (by omega)) (λk y C=>(E.up_a M F.kind C).mono (by omega)) q3;rw[q3]at I d;have d:cF D 0 o.length u=r:=d;refine af I ?_;refine vn (p:=(0:Int)≠0) ?_ (by decide);refine vi ?_;refine aB τok (σ:=Nat×Tr×Int) [(3,_)] [] (λq=>[(19,vP (ah (row q.2.1))),(20,vI q.2.2)]) (λ_=>[]) (λq=>q.1<=o.length/\q.2.2=(q.1:Int)-1/\Ft (QB B) (N+q.1) q.2.1/\cF D 0 q.1 q.2.1=r) (λq=>q.1) (o.length,u,(((x.params.map λt=>[ah t]).length:Nat):Int)-1) ⟨KJ _,by simp only;omega,hu,d⟩ ?_
 clear d
 rintro⟨j,t,v⟩ ⟨hj,Y,ft,hr⟩;simp only at hj Y ft hr;refine aj τok ?_;refine ae (λg=>?_) (λg=>?_)
 ·have g:v≥0:=g
  obtain⟨j,rfl⟩:∃l,j=l+1:=⟨j-1,by omega⟩
  obtain rfl:v=(j:Int):=by omega
  simp only[cF]at hr;obtain⟨p,hp,_⟩:=ay (l:=D) (k:=j);rw[show D.getD j (varX 0)=p by rw[List.getD_eq_getElem?_getD,hp];rfl]at hr;have fp:=hq p (JQ hp);have fl:=fp.lift (qk B) (b:=(j:Int)) (by omega) (by omega) (by omega);refine vm (p:=rP) j (x:=row p) (by rw[JX,hp];rfl) ?_;refine af (ku fp (by omega) (b:=(j:Int)) (by omega)) ?_;refine vn (p:=(0:Int)≠0) ?_ (by decide);have hs:=nI (x:=t) (u:=aG p j 0) (v:=0) (N:=N+j) (ft.mono (by omega)) fl (by omega) (by omega);cases q4:bp t (aG p j 0) 0 with
  |error e=>
   have he:=iD q4;rw[q4]at hs hr;have hr:.error e=r:=hr;subst hr;refine af hs ?_;refine vy (p:=e≠0) ?_;exact⟨_,_,rfl,rfl,rfl⟩
  |ok z=>
   rw[q4]at hs hr;have fz:=iA (qk B) (N:=N+j) (v:=0) (ft.mono (by omega)) fl (by omega) (by omega) (by omega) (by omega) q4;refine af hs ?_;refine vn (p:=(0:Int)≠0) ?_ (by decide);refine vi ?_;exact au (j,z,(j:Int)-1) ⟨by simp only;omega,by simp only,fz.mono (by simp only;omega),hr⟩
 ·have g:¬ v≥0:=g
  obtain rfl:j=0:=by omega
  have hr:.ok t=r:=hr;subst hr;exact⟨_,_,rfl,rfl,rfl⟩
end
theorem Lc{Q:Nd ->Prop}(s:Qk Q){N bU:Int}(H:0<=N)(I:N<=90000)(hm:0<=bU/\bU<=1000){a:List Tr}(C:∀y∈a,Ft Q N y)(hl:a.length<=100){t:Tr}(ht:Ft Q (N+a.length+bU) t):
  VX prog 189 [ah (row t),bJ (a.map row),pI bU] (match cF a bU a.length t with
   | .ok z=>.ok (ah (row z))
   | .error e=>.error (dV e)):=by
 generalize c:cF a bU a.length t=d;have K:=ak (λt=>[ah t]) (a.map row);have L:=ak row a;refine nw 31 [.tmp 6] τok func189 ?_;refine aj τok ?_;refine vi ?_;refine aB τok (σ:=Nat×Tr×Int) [(1,_),(2,_)] [] (λq=>[(0,vP (ah (row q.2.1))),(7,vI q.2.2)]) (λ_=>[]) (λq=>q.1<=a.length/\q.2.2=(q.1:Int)-1/\Ft Q (N+q.1+bU) q.2.1/\cF a bU q.1 q.2.1=d) (λq=>q.1) (a.length,t,((((a.map row).map λt=>[ah t]).length:Nat):Int)-1) ⟨KJ _,by simp only;omega,ht,c⟩ ?_
 clear c
 rintro⟨j,t,v⟩ ⟨D,E,r,hr⟩;simp only at D E r hr;refine aj τok ?_;refine ae (λg=>?_) (λg=>?_)
 ·have g:v≥0:=g
  obtain⟨j,rfl⟩:∃l,j=l+1:=⟨j-1,by omega⟩
  obtain rfl:v=(j:Int):=by omega
  simp only[cF]at hr;obtain⟨p,i,_⟩:=ay (l:=a) (k:=j);rw[show a.getD j (varX 0)=p by rw[List.getD_eq_getElem?_getD,i];rfl]at hr;have w:=C p (JQ i);have A:=w.lift s (b:=(j:Int)) (by omega) (by omega) (by omega);refine vm (p:=rP) j (x:=row p) (by rw[JX,i];rfl) ?_;refine af (ku w (by omega) (b:=(j:Int)) (by omega)) ?_;refine af (eU _) ?_;have m:=nI (x:=t) (u:=aG p j 0) (v:=bU) (N:=N+j) (r.mono (by omega)) A (by omega) (by omega);cases o:bp t (aG p j 0) bU with
  |error e=>
   have M:=iD o;rw[o]at m hr;have hr:.error e=d:=hr;subst hr;refine af m ?_;refine bL (iZ _ (show e≠0 by omega)) ?_;exact rfl
  |ok z=>
   rw[o]at m hr;have F:=iA s (N:=N+j) (v:=bU) (r.mono (by omega)) A (by omega) (by omega) (by omega) (by omega) o;refine af m ?_;refine af (eU _) ?_;refine vi ?_;exact au (j,z,(j:Int)-1) ⟨by simp only;omega,by simp only,F.mono (by simp only;omega),hr⟩
 ·have g:¬ v≥0:=g
  obtain rfl:j=0:=by omega
  have hr:.ok t=d:=hr;subst hr;exact⟨_,_,rfl,rfl,rfl⟩
def dh(B:aq)(n:Int):List PV:=[.int .i64 B.vars,.sl (B.orders.map eg),.sl (B.ents.map aU),.int .i64 B.nat,.sl (B.prims.map iB),pI n]
def di{α:Type}(B:aq)(f:α ->PV)(r:Except Int (α×Nat)):Except (List PanicEntry) (List PV×PV):=match r with
 | .ok q=>.ok (dh B q.2,f q.1)
 | .error e=>.error (dV e)
def gq(x:Tr):PV:=ah (row x)
def EF(q:Int×List Atom):PV:=.tup [pI q.1,bX q.2]
def EG(z:Tr):PV:=.tup [ah (row (headT z)),bJ ((argsT z).map row)]
section
variable{B:aq}{cx:Ctx}{rc:RcJ}{n:Nat}
def bH(B:aq)(cx:Ctx)(t:Tr)(n:Nat)(r:Except Int (Tr×Nat)):Prop:=iQ prog 47 132 (dh B n) [aJ (cx.map aA),ah (row t)] (di B gq r)
variable(hI:BoI B)(hB:GoodB B)(hcx:CxOk B cx)(hcl:cx.length<=260)
include hI hB hcx hcl
theorem tR{x:Tr}(d:Ft (QB B) (cx.length:Int) x)(n:Nat):iQ prog 95 132 (dh B n) [aJ (cx.map aA),ah (row x)] (di B EG (dP B cx x n)):=by
 have j:=ak aA cx;have b:=Es hI hB hcx hcl d (n:Int);generalize a:dP B cx x n=c;unfold dP at a;refine aV (r:=di B EG c) 37 [.tmp 6,.tmp 7] τok func95 ?_;refine aj τok ?_
 by_cases i:256<cx.length
 ·rw[if_pos i]at a
  subst a;refine bL (ED (by omega)) ?_;exact rfl
 rw[if_neg i]at a;refine af (EC (by omega)) ?_;cases hr:dA B cx x (n:Int)with
 |error e=>
  rw[hr]at b a;subst a;refine af b ?_;refine vk ?_;refine bL (eu (qH hr)) ?_;exact rfl
 |ok q=>
  have k:=(ti hB hcx (by omega) d hr).1;rw[hr]at b a;subst a;refine af b ?_;refine vk ?_;refine af uu' ?_;refine af (tc k) ?_;exact⟨_,_,_,rfl,rfl,rfl,rfl,rfl⟩
theorem yW{x y:Tr}(i:Ft (QB B) (cx.length:Int) x)(j:Ft (QB B) (cx.length:Int) y)(n:Nat)(u:Bool):iQ prog 118 132 (dh B n) [aJ (cx.map aA),ah (row x),ah (row y),.bool u] (di B PV.bool (fQ B cx x y u n)):=by
 have k:=ak aA cx;have b:=K8 hI hB hcx hcl i j (n:Int) u;generalize a:fQ B cx x y u n=c;unfold fQ at a;refine aV (r:=di B PV.bool c) 40 [.tmp 10] τok func118 ?_;refine aj τok ?_
 by_cases d:256<cx.length
 ·rw[if_pos d]at a
  subst a;refine bL (ED (by omega)) ?_;exact rfl
 rw[if_neg d]at a;refine af (EC (by omega)) ?_;cases hr:kx B cx x y (n:Int) u with
 |error e=>
  rw[hr]at b a;subst a;refine af b ?_;refine vk ?_;refine bL (eu (qI B GC _ _ _ _ _ _ hr)) ?_;exact rfl
 |ok q=>
  rw[hr]at b a;subst a;refine af b ?_;refine vk ?_;refine af uu' ?_;exact⟨_,_,_,rfl,rfl,rfl,rfl,rfl⟩
variable(hr:cw B rc)
include hr
theorem nS{t:Tr}(ht:Ft (QB B) (cx.length:Int) t){n:Nat}(d:bH B cx t n (rc cx t n)):iQ prog 68 132 (dh B n) [aJ (cx.map aA),ah (row t)] (di B EF (dB B rc cx t n)):=by
 generalize b:dB B rc cx t n=c;unfold dB at b;unfold bH at d;refine aV (r:=di B EF c) 37 [.tmp 6,.tmp 7] τok func68 ?_;refine aj τok ?_;cases l:rc cx t n with
 |error e=>
  rw[l]at d b;have b:.error e=c:=b;subst b;refine cr d ?_;exact rfl
 |ok q=>
 obtain⟨y,m⟩:=q;have s:=hr.ft _ _ _ _ hcx hcl ht l;rw[l]at d b;have b:be (dP B cx y m) (λz n=>if (headT z).n.op≠2 \/0<(argsT z).length then .error 11 else .ok (((headT z).n.a,bQ (headT z)),n))=c:=b;have j:=tR hI hB hcx hcl s m;refine ax d ?_;cases o:dP B cx y m with
 |error e=>
  rw[o]at j b;have b:.error e=c:=b;subst b;refine cr j ?_;exact rfl
 |ok q=>
 obtain⟨z,u⟩:=q;obtain⟨_,_,v⟩:=i7 hB hcx s o;have k:=az v.head;have w:=ak (λt=>[ah t]) ((argsT z).map row);have A:=ak row (argsT z);rw[o]at j b;have b:(if (headT z).n.op≠2 \/0<(argsT z).length then .error 11 else .ok (((headT z).n.a,bQ (headT z)),u))=c:=b;refine ax j ?_;refine vm (p:=ndP) 0 (aI k) ?_;refine ae (λg=>?_) (λg=>?_)
 ·rw[if_pos (.inl g)]at b
  subst b;refine bL (eu (by decide)) ?_;exact rfl
 have g:(headT z).n.op=2:=Decidable.of_not_not g;refine ae (λi=>?_) (λi=>?_)
 ·have i:((((argsT z).map row).map λt=>[ah t]).length:Int)>0:=i
  rw[if_pos (.inr (by omega))]at b;subst b;refine bL (eu (by decide)) ?_;exact rfl
 have i:¬ ((((argsT z).map row).map λt=>[ah t]).length:Int)>0:=i;rw[if_neg (by omega)]at b;subst b;refine vm (p:=ndP) 0 (aI k) ?_;refine af (tO k.ok k.len g) ?_;refine vk ?_;exact⟨_,_,_,rfl,rfl,rfl,rfl,rfl⟩
theorem rh{t ty:Tr}(ht:Ft (QB B) (cx.length:Int) t)(j:Ft (QB B) (cx.length:Int) ty){n:Nat}(d:bH B cx t n (rc cx t n)):iQ prog 71 132 (dh B n) [aJ (cx.map aA),ah (row t),ah (row ty)] (di B (λ_=>.tup []) (dQ B rc cx t ty n)):=by
 generalize a:dQ B rc cx t ty n=c;unfold dQ at a;unfold bH at d;refine aV (r:=di B (λ_=>.tup []) c) 18 [] τok func71 ?_;refine aj τok ?_;cases k:rc cx t n with
 |error e=>
  rw[k]at d a;have a:.error e=c:=a;subst a;refine cr d ?_;exact rfl
 |ok q=>
 obtain⟨y,m⟩:=q;have o:=hr.ft _ _ _ _ hcx hcl ht k;rw[k]at d a;have a:be (fQ B cx y ty true m) (λb n=>if b=true then .ok ((),n)else .error 13)=c:=a;have i:=yW hI hB hcx hcl o j m true;refine ax d ?_;cases l:fQ B cx y ty true m with
 |error e=>
  rw[l]at i a;have a:.error e=c:=a;subst a;refine cr i ?_;exact rfl
 |ok q=>
  obtain⟨b,p⟩:=q;rw[l]at i a;refine ax i ?_;cases b with
  |true=>
   have a:.ok ((),p)=c:=a;subst a;exact⟨_,_,_,rfl,rfl,rfl,rfl,rfl⟩
  |false=>
   have a:.error 13=c:=a;subst a;refine bL (eu (by decide)) ?_;exact rfl
end
def pd(B:aq)(rc:RcJ)(g:Nat):Prop:=∀(cx:Ctx) (k:Nat) (t:Tr) (n:Nat),CxOk B cx ->cx.length<=260 ->Ft (QB B) (cx.length:Int) t ->Mt k t ->k*5000+(row t).length<=g ->n<=100000 ->bH B cx t n (rc cx t n)
section
variable{B:aq}{cx:Ctx}{t:Tr}{n:Nat}{rc:RcJ}
variable(hI:BoI B)(hB:GoodB B)(hcx:CxOk B cx)(hcl:cx.length<=260)(ht:Ft (QB B) (cx.length:Int) t)
include hI hB hcx hcl ht
theorem Ld(h1:t.n.op=1):bH B cx t n (.ok (aG (fd cx t.n.a).1 (t.n.a+1) 0,n)):=by
 obtain⟨c,a⟩:∃r,(.ok (aG (fd cx t.n.a).1 (t.n.a+1) 0,n):Except Int (Tr×Nat))=r:=⟨_,rfl⟩
 unfold bH;rw[a];have i:=az ht;have eC:=ak bdP (cx.map aA);have j:=ak aA cx;refine aV (r:=di B gq c) 258 [.tmp 6] τok func47 ?_;refine aj τok ?_;refine vm (p:=ndP) 0 (aI i) ?_;refine vy (p:=t.n.op=1) ?_ h1;have d:0<=t.n.a/\t.n.a<cx.length:=by
  obtain⟨o,q⟩:=t;obtain⟨k,l,_⟩:=ht.var_lt h1;exact⟨k,l⟩
 have e:=my d.1 d.2;obtain⟨m,s⟩:=hcx _ _ e;refine vi ?_;refine vi ?_;refine vm (p:=bdP) (cx.length-1-t.n.a.toNat) (x:=aA (fd cx t.n.a)) (by rw[JX,e];rfl) ?_;refine vi ?_;refine af (ku m (by omega) (b:=t.n.a+1) (by omega)) ?_;refine af (eU _) ?_;refine vk ?_;subst a;exact⟨_,_,_,rfl,rfl,rfl,rfl,rfl⟩
theorem Lf(h2:t.n.op=2):bH B cx t n (mH t n):=by
 obtain⟨b,a⟩:∃r,mH t n=r:=⟨_,rfl⟩
 unfold bH;rw[a];have d:=az ht;refine aV (r:=di B gq b) 258 [.tmp 6] τok func47 ?_;refine aj τok ?_;refine vm (p:=ndP) 0 (aI d) ?_;refine vn (p:=t.n.op=1) ?_;refine vy (p:=t.n.op=2) ?_ h2;have c:=qF ht h2;refine af (tO ht.ok ht.len h2) ?_;refine af (K6 c) ?_;unfold mH at a
 by_cases h:df (bQ t) 1=0
 ·rw[if_neg (by omega)]at a
  subst a;have:=(xX c h).hi;rw[h];refine af uu' ?_;refine af (EE 1 (by omega)) ?_;exact⟨_,_,_,rfl,rfl,rfl,rfl,rfl⟩
 ·rw[if_pos h]at a
  subst a;refine bL (eu h) ?_;exact rfl
theorem Lg(c:t.n.op=8):bH B cx t n (.ok (tr (aN B t.n.a).type,n)):=by
 obtain⟨b,a⟩:∃r,(.ok (tr (aN B t.n.a).type,n):Except Int (Tr×Nat))=r:=⟨_,rfl⟩
 unfold bH;rw[a];have e:=az ht;refine aV (r:=di B gq b) 258 [.tmp 6] τok func47 ?_;refine aj τok ?_;refine vm (p:=ndP) 0 (aI e) ?_;refine vn (p:=t.n.op=1) ?_;refine vn (p:=t.n.op=2) ?_;refine vy (p:=t.n.op=8) ?_ c;obtain⟨i,x,l,m,o,j,k,d⟩:=hB.dfn ht.node' c;refine vm (p:=aU) i j ?_;refine vk ?_;subst a;refine⟨_,_,_,rfl,rfl,?_,rfl,rfl⟩;simp only[gq,k,d.type,gZ d.ft.ok,gC']
 rfl
theorem Lh(d:t.n.op=9):bH B cx t n (cV (fG B t.n.a) n):=by
 obtain⟨b,a⟩:∃r,cV (fG B t.n.a) n=r:=⟨_,rfl⟩
 unfold bH;rw[a];have i:=az ht;refine aV (r:=di B gq b) 258 [.tmp 6] τok func47 ?_;refine aj τok ?_;refine vm (p:=ndP) 0 (aI i) ?_;refine vn (p:=t.n.op=1) ?_;refine vn (p:=t.n.op=2) ?_;refine vn (p:=t.n.op=8) ?_;refine vy (p:=t.n.op=9) ?_ d;have j:=cY ht.ok.pl;have c:=K9 hB (xm ht.node' d j.2.2.1);cases q1:fG B t.n.a with
 |error e=>
  have k:=x6 q1;rw[q1]at c a;have a:.error e=b:=a;subst a;refine af c ?_;refine bL (iZ _ (show e≠0 by omega)) ?_;refine fZ ?_;refine vk ?_;exact rfl
 |ok z=>
  rw[q1]at c a;have a:.ok (z,n)=b:=a;subst a;refine af c ?_;refine af (eU _) ?_;refine vk ?_;exact⟨_,_,_,rfl,rfl,rfl,rfl,rfl⟩
theorem Li(b:t.n.op=10):bH B cx t n (cV (gj B t.n.a t.n.b) n):=by
 obtain⟨c,a⟩:∃r,cV (gj B t.n.a t.n.b) n=r:=⟨_,rfl⟩
 unfold bH;rw[a];have i:=az ht;refine aV (r:=di B gq c) 258 [.tmp 6] τok func47 ?_;refine aj τok ?_;refine vm (p:=ndP) 0 (aI i) ?_;refine vn (p:=t.n.op=1) ?_;refine vn (p:=t.n.op=2) ?_;refine vn (p:=t.n.op=8) ?_;refine vn (p:=t.n.op=9) ?_;refine vy (p:=t.n.op=10) ?_ b;have j:=cY ht.ok.pl;have d:=La hB (jO ht.node' (.inl b)) j.1 (sX ht.node' b);cases q1:gj B t.n.a t.n.b with
 |error e=>
  have k:=x7 q1;rw[q1]at d a;have a:.error e=c:=a;subst a;refine af d ?_;refine bL (iZ _ (show e≠0 by omega)) ?_;refine fZ ?_;refine vk ?_;exact rfl
 |ok z=>
  rw[q1]at d a;have a:.ok (z,n)=c:=a;subst a;refine af d ?_;refine af (eU _) ?_;refine vk ?_;exact⟨_,_,_,rfl,rfl,rfl,rfl,rfl⟩
variable(hr:cw B rc)
include hr
theorem Lj(h4:t.n.op=4)(hn:n<=100000)(z:∀n,n<=100000 ->bH B cx (kidD t 0) n (rc cx (kidD t 0) n))(A:cx.length<=256 ->∀n,n<=100000 ->bH B (cx++[(kidD t 0,none)]) (kidD t 1) n (rc (cx++[(kidD t 0,none)]) (kidD t 1) n)):bH B cx t n (mI B rc cx t n):=by
 obtain⟨b,a⟩:∃r,mI B rc cx t n=r:=⟨_,rfl⟩
 unfold bH;rw[a];have k:=az ht;have L:=ak aA cx;refine aV (r:=di B gq b) 258 [.tmp 6] τok func47 ?_;refine aj τok ?_;refine vm (p:=ndP) 0 (aI k) ?_;refine vn (p:=t.n.op=1) ?_;refine vn (p:=t.n.op=2) ?_;refine vn (p:=t.n.op=8) ?_;refine vn (p:=t.n.op=9) ?_;refine vn (p:=t.n.op=10) ?_;refine af (ie ht) ?_;refine vy (p:=t.n.op=4) ?_ h4;obtain⟨T,m,M⟩:=dX ht (.inl h4);unfold mI at a;have s:=nS hI hB hcx hcl hr m (z n hn);refine vm (p:=rP) 0 (aF k) ?_;cases u:dB B rc cx (kidD t 0) n with
 |error e=>
  rw[u]at s a;have a:.error e=b:=a;subst a;refine cr s ?_;exact rfl
 |ok p=>
 obtain⟨⟨O,c⟩,C⟩:=p;obtain⟨U,D,_⟩:=gk hB hr u;obtain⟨_,P,E⟩:=jr hB hr hcx m u;simp only at D P E;rw[u]at s a;refine ax s ?_;have d:=hcx.snoc m (v:=none) λx F=>by cases F
 have i:Ft (QB B) ((cx++[(kidD t 0,none)]).length:Int) (kidD t 1):=by rw[bG];exact M.mono (by omega)
 have w:=nS hI hB d (by rw[bG];omega) hr i (A (by omega) C (by omega));have a:be (dB B rc (cx++[(kidD t 0,none)]) (kidD t 1) C) (λq n=>if cB c q.2≠0 then .error (cB c q.2)else .ok (dY q.1 (de c q.2),n))=b:=a;refine vm (p:=rP) 0 (aF k) ?_;refine af (mU hcx (by omega) m (o:=none) λx F=>by cases F) ?_;refine vm (p:=rP) 1 (aF k) ?_;cases H:dB B rc (cx++[(kidD t 0,none)]) (kidD t 1) C with
 |error e=>
  rw[H]at w a;have a:.error e=b:=a;subst a;refine cr w ?_;refine fZ ?_;refine vk ?_;exact rfl
 |ok p=>
 obtain⟨⟨K,j⟩,R⟩:=p;obtain⟨_,S,I⟩:=jr hB hr d i H;simp only at S I;rw[H]at w a;have a:(if cB c j≠0 then .error (cB c j)else .ok (dY K (de c j),R))=b:=a;refine ax w ?_;refine vk ?_;refine af (yU E I) ?_
 by_cases h:cB c j=0
 ·rw[if_neg (by omega)]at a
  subst a;have:=(xY E I h).hi;rw[h];refine af uu' ?_;refine af (EE K (l:=de c j) (by omega)) ?_;exact⟨_,_,_,rfl,rfl,rfl,rfl,rfl⟩
 ·rw[if_pos h]at a
  subst a;refine bL (eu h) ?_;exact rfl
theorem Lk(I:t.n.op=5)(hn:n<=100000)(s:∀n,n<=100000 ->bH B cx (kidD t 0) n (rc cx (kidD t 0) n))(u:cx.length<=256 ->∀n,n<=100000 ->bH B (cx++[(kidD t 0,none)]) (kidD t 1) n (rc (cx++[(kidD t 0,none)]) (kidD t 1) n)):bH B cx t n (mJ B rc cx t n):=by
 obtain⟨b,a⟩:∃r,mJ B rc cx t n=r:=⟨_,rfl⟩
 unfold bH;rw[a];have d:=az ht;have L:=ak aA cx;refine aV (r:=di B gq b) 258 [.tmp 6] τok func47 ?_;refine aj τok ?_;refine vm (p:=ndP) 0 (aI d) ?_;refine vn (p:=t.n.op=1) ?_;refine vn (p:=t.n.op=2) ?_;refine vn (p:=t.n.op=8) ?_;refine vn (p:=t.n.op=9) ?_;refine vn (p:=t.n.op=10) ?_;refine af (ie ht) ?_;refine vn (p:=t.n.op=4) ?_;refine vy (p:=t.n.op=5) ?_ I;obtain⟨U,c,M⟩:=dX ht (.inr I);unfold mJ at a;have l:=nS hI hB hcx hcl hr c (s n hn);refine vm (p:=rP) 0 (aF d) ?_;cases m:dB B rc cx (kidD t 0) n with
 |error e=>
  rw[m]at l a;have a:.error e=b:=a;subst a;refine cr l ?_;exact rfl
 |ok p=>
 obtain⟨⟨O,P⟩,w⟩:=p;obtain⟨V,A,_⟩:=gk hB hr m;obtain⟨_,R,S⟩:=jr hB hr hcx c m;simp only at A R S;rw[m]at l a;refine ax l ?_;have i:=hcx.snoc c (v:=none) λx C=>by cases C
 have D:Ft (QB B) ((cx++[(kidD t 0,none)]).length:Int) (kidD t 1):=by rw[bG];exact M.mono (by omega)
 have j:=u (by omega) w (by omega);unfold bH at j;have a:be (rc (cx++[(kidD t 0,none)]) (kidD t 1) w) (λz n=>cV (aZ [kidD t 0] z) n)=b:=a;have P:=ak (λt=>[ah t]) ((kidsT t).map row);have W:=ak row (kidsT t);refine bM 0 1 ?_ (λy E=>by
  obtain⟨_,_,rfl⟩:=List.mem_map.1 E
  rfl)
 have T:((((kidsT t).map row).map λt=>[ah t]).take 1).drop 0=([kidD t 0].map row).map rP:=by
  rw[List.drop_zero,<- List.map_take,<- List.map_take,dy (cq d (k:=0)).1]
  rfl
 rw[T];refine vm (p:=rP) 0 (aF d) ?_;refine af (mU hcx (by omega) c (o:=none) λx C=>by cases C) ?_;refine vm (p:=rP) 1 (aF d) ?_;cases F:rc (cx++[(kidD t 0,none)]) (kidD t 1) w with
 |error e=>
  rw[F]at j a;have a:.error e=b:=a;subst a;refine cr j ?_;refine fZ ?_;refine vk ?_;exact rfl
 |ok p=>
 obtain⟨y,K⟩:=p;have H:=hr.ft _ _ _ _ i (by rw[bG];omega) D F;simp only at H;rw[F]at j a;have a:cV (aZ [kidD t 0] y) K=b:=a;refine ax j ?_;have q:=EA (x:=y) H.ok H.len (ys:=[kidD t 0]) (λy E=>by
  obtain rfl:y=kidD t 0:=by simpa using E
  exact⟨c.ok,c.len⟩) (by simp)
 cases q1:aZ [kidD t 0] y with
 |error e=>
  have X:=jV q1;rw[q1]at q a;have a:.error e=b:=a;subst a;refine af q ?_;refine bL (iZ _ (show e≠0 by omega)) ?_;refine fZ ?_;refine vk ?_;exact rfl
 |ok z=>
  rw[q1]at q a;have a:.ok (z,K)=b:=a;subst a;refine af q ?_;refine af (eU _) ?_;refine vk ?_;exact⟨_,_,_,rfl,rfl,rfl,rfl,rfl⟩
theorem Ll(H:t.n.op=6)(hn:n<=100000)(o:∀n,n<=100000 ->bH B cx (kidD t 0) n (rc cx (kidD t 0) n))(s:∀n,n<=100000 ->bH B cx (kidD t 1) n (rc cx (kidD t 1) n)):bH B cx t n (lH B rc cx t n):=by
 obtain⟨b,a⟩:∃r,lH B rc cx t n=r:=⟨_,rfl⟩
 unfold bH;rw[a];have i:=az ht;have O:=ak aA cx;refine aV (r:=di B gq b) 258 [.tmp 6] τok func47 ?_;refine aj τok ?_;refine vm (p:=ndP) 0 (aI i) ?_;refine vn (p:=t.n.op=1) ?_;refine vn (p:=t.n.op=2) ?_;refine vn (p:=t.n.op=8) ?_;refine vn (p:=t.n.op=9) ?_;refine vn (p:=t.n.op=10) ?_;refine af (ie ht) ?_;refine vn (p:=t.n.op=4) ?_;refine vn (p:=t.n.op=5) ?_;refine vy (p:=t.n.op=6) ?_ H;obtain⟨U,P,I⟩:=qD ht H;unfold lH at a;refine vm (p:=rP) 0 (aF i) ?_;have c:=o n hn;unfold bH at c;cases j:rc cx (kidD t 0) n with
 |error e=>
  rw[j]at c a;have a:.error e=b:=a;subst a;refine cr c ?_;exact rfl
 |ok q=>
 obtain⟨y,m⟩:=q;have w:=hr.ft _ _ _ _ hcx hcl P j;have R:=hr.le _ _ _ _ j;simp only at w R;rw[j]at a c;have hW:=tR hI hB hcx hcl w m;have a:be (dP B cx y m) (λz n=>if (headT z).n.op≠4 \/0<(argsT z).length then .error 12 else
  be (dQ B rc cx (kidD t 1) (kidD (headT z) 0) n) λ_ n=>cV (bp (kidD (headT z) 1) (kidD t 1) 0) n)=b:=a
 refine ax c ?_;cases A:dP B cx y m with
 |error e=>
  rw[A]at a hW;have a:.error e=b:=a;subst a;refine cr hW ?_;exact rfl
 |ok q=>
 obtain⟨z,C⟩:=q;obtain⟨_,D,K⟩:=i7 hB hcx w A;simp only at K D;have E:=K.head;have F:=az E;have V:=ak (λt=>[ah t]) ((argsT z).map row);have W:=ak row (argsT z);rw[A]at a hW;have a:(if (headT z).n.op≠4 \/0<(argsT z).length then .error 12 else
  be (dQ B rc cx (kidD t 1) (kidD (headT z) 0) C) λ_ n=>cV (bp (kidD (headT z) 1) (kidD t 1) 0) n)=b:=a
 refine ax hW ?_;refine vm (p:=ndP) 0 (aI F) ?_;refine ae (λg=>?_) (λg=>?_)
 ·rw[if_pos (.inl g)]at a
  subst a;refine bL (eu (by decide)) ?_;exact rfl
 have g:(headT z).n.op=4:=Decidable.of_not_not g;refine ae (λd=>?_) (λd=>?_)
 ·have d:((((argsT z).map row).map λt=>[ah t]).length:Int)>0:=d
  rw[if_pos (.inr (by omega))]at a;subst a;refine bL (eu (by decide)) ?_;exact rfl
 have d:¬ ((((argsT z).map row).map λt=>[ah t]).length:Int)>0:=d;rw[if_neg (by omega)]at a;refine af (ie E) ?_;obtain⟨X,S,T⟩:=dX E (.inl g);refine vm (p:=rP) 1 (aF i) ?_;refine vm (p:=rP) 0 (aF F) ?_;have k:=rh hI hB hcx hcl hr I S (s C (by omega));cases L:dQ B rc cx (kidD t 1) (kidD (headT z) 0) C with
 |error e=>
  rw[L]at a k;have a:.error e=b:=a;subst a;refine cr k ?_;refine vk ?_;exact rfl
 |ok q=>
 obtain⟨_,M⟩:=q;rw[L]at a k;have a:cV (bp (kidD (headT z) 1) (kidD t 1) 0) M=b:=a;refine ax k ?_;refine vk ?_;refine vm (p:=rP) 1 (aF F) ?_;refine vm (p:=rP) 1 (aF i) ?_;have l:=nI (x:=kidD (headT z) 1) (u:=kidD t 1) (v:=0) (N:=(cx.length:Int)) (T.mono (by omega)) I (by omega) (by omega);cases q1:bp (kidD (headT z) 1) (kidD t 1) 0 with
 |error e=>
  have Y:=iD q1;rw[q1]at l a;have a:.error e=b:=a;subst a;refine af l ?_;refine bL (iZ _ (show e≠0 by omega)) ?_;refine fZ ?_;refine vk ?_;exact rfl
 |ok z=>
  rw[q1]at l a;have a:.ok (z,M)=b:=a;subst a;refine af l ?_;refine af (eU _) ?_;refine vk ?_;exact⟨_,_,_,rfl,rfl,rfl,rfl,rfl⟩
end
theorem EH{B:aq}{i:Nat}{s:Int}{N:Int}{y:Tr}(h:Ft (bV B i s) N y):Mt i y:=λm b a=>by
 have:=h.al m b;simp[bV,aS,a,bk]at this;exact this.2.1
theorem tS(l:List Tr)(y:Tr):cH (l++[y])=cH l++[(y,none)]:=by simp[cH]
theorem ri(l:List Tr):(cH l).length=l.length:=by simp[cH]
theorem yX{B:aq}{l:List Tr}(h:∀(k:Nat) y,l[k]?=some y ->Ft (QB B) (k:Int) y):CxOk B (cH l):=λi q a=>by
 unfold cH at a;rw[JX]at a;obtain⟨y,b,rfl⟩:=Option.map_eq_some_iff.1 a;exact⟨h i y b,λx c=>by cases c⟩
theorem Mt.kid{k:Nat}{t y:Tr}(h:Mt k t)(o:y∈kidsT t):Mt k y/\(row y).length<(row t).length:=by
 obtain⟨n,d⟩:=t;have e:∀(l:List Tr) (z:Tr),z∈l ->(∀m∈row z,m∈rows l)/\(row z).length<=(rows l).length:=by
  intro l
  induction l with
  |nil=>intro z b;cases b
  |cons a l C=>
   intro z b;rcases List.mem_cons.1 b with rfl|b
   ·exact⟨λm c=>by simp[rows,c],by simp[rows]⟩
   ·obtain⟨p,s⟩:=C z b
    exact⟨λm c=>by simp[rows,p m c],by simp[rows];omega⟩
 have q:row (.mk n d)=n::rows d:=by simp[row]
 have r:∀z∈d,(∀m∈row z,m∈row (.mk n d))/\(row z).length<(row (.mk n d)).length:=λz b=>by
  obtain⟨p,s⟩:=e d z b;rw[q];exact⟨λm c=>List.mem_cons_of_mem _ (p m c),by simp;omega⟩
 have i:(∀m∈row y,m∈row (.mk n d))/\(row y).length<(row (.mk n d)).length:=by
  simp only[kidsT]at o;split at o
  ·simp at o
  split at o
  ·obtain⟨z,b,j⟩:=List.mem_flatMap.1 o
   obtain⟨p,s⟩:=r z b;obtain⟨A,u⟩:=z;have j:y∈u:=j;obtain⟨D,E⟩:=e u y j;have v:row (.mk A u)=A::rows u:=by simp[row]
   rw[v]at p s;exact⟨λm c=>p m (List.mem_cons_of_mem _ (D m c)),by simp at s;omega⟩
  ·exact r y o
 exact⟨λm c w=>h m (i.1 m c) w,i.2⟩
theorem Ln{f:Tr}{i:Nat}(hi:i<f.n.b.toNat):(bh f).take (i+1)=(bh f).take i++[(aG (kidD f (2*i)) i 0,none)]:=dy (xS hi)
theorem kQ{α β:Type}{q:α×Nat}{k:α ->Nat ->Except Int (β×Nat)}:be (.ok q) k=k q.1 q.2:=rfl
section
variable{B:aq}{cx:Ctx}{t:Tr}{n g:Nat}{rc:RcJ}
variable(hI:BoI B)(hB:GoodB B)(hr:cw B rc)
section
variable(hcx:CxOk B cx)(hcl:cx.length<=260)(ht:Ft (QB B) (cx.length:Int) t)
include hI hB hr hcx hcl ht
theorem yY(l:t.n.op=12)(hn:n<=100000)(C:∀i,i<t.n.b.toNat ->∀n,n<=100000 ->bH B cx (kidD t (2*i)) n (rc cx (kidD t (2*i)) n))(D:cx.length<=256 ->∀i,i<t.n.b.toNat ->∀n,n<=100000 ->bH B (cx++bh t) (kidD t (2*i+1)) n (rc (cx++bh t) (kidD t (2*i+1)) n)):
  iQ prog 98 132 (dh B n) [aJ (cx.map aA),ah (row t),bJ ((kidsT t).map row)] (di B gq (kF B rc cx t n)):=by
 obtain⟨l1,l2,l3,l4,l5⟩:=dM ht.ok l;have a1:=fK ht.ok l;obtain⟨u,S⟩:∃k,t.n.b.toNat=k:=⟨_,rfl⟩
 have T:t.n.b=(u:Int):=by omega
 have v:=az ht;have E:=oR t;generalize d:kF B rc cx t n=s;unfold kF at d;rw[S]at d C D E;obtain⟨Y,F⟩:∃f:Unit ->Nat ->Except Int (Tr×Nat),f=λ_ n=>if fF B t≠0 then .error (fF B t)else be (lG B rc (cx++bh t) t u u 0 n) λ_ n=>.ok (kidD t (2*t.n.a.toNat),n):=⟨_,rfl⟩
 rw[<- F]at d;refine aV (r:=di B gq s) 84 [.tmp 8] τok func98 ?_;refine aj τok ?_;refine vm (p:=ndP) 0 (aI v) ?_;refine aB τok (σ:=Nat×Nat) [(0,_),(1,_),(2,_),(3,_),(9,_),(18,_)] [] (λq=>[(10,vP (aJ ((cx++(bh t).take q.1).map aA))),(19,vI q.1)]) (λq=>[(0,.st 1 132 ((dh B q.2).map .p))]) (λq=>q.1<=u/\q.2<=n/\(0<q.1 ->cx.length<=256)/\be (mG B rc cx t (u-q.1) q.1 q.2) Y=s) (λq=>u-q.1) (0,n) ⟨KV _,KJ _,λh=>absurd h (Nat.lt_irrefl _),d⟩ ?_ (x1:=⟨by rw[List.take_zero,JD];rfl,rfl,trivial⟩)
 clear d
 rintro⟨i,m⟩ ⟨hi,Z,O,a⟩;simp only at hi Z O a;refine aj τok ?_;refine ae (λg=>?_) (λg=>?_)
 ·have g:(i:Int)<t.n.b:=g
  rw[show u-i=(u-(i+1))+1 by omega]at a;simp only[mG]at a;obtain⟨_,_,A,_⟩:=ii ht l (i:=i) (by omega);have P:=nS hI hB hcx hcl hr A (C i (by omega) m (by omega));refine vi ?_;refine vm (p:=rP) (2*i) (aF v) ?_;cases w:dB B rc cx (kidD t (2*i)) m with
  |error e=>
   rw[w]at P a;have a:.error e=s:=a;subst a;refine cr P ?_;exact rfl
  |ok q=>
  obtain⟨q1,H⟩:=q;obtain⟨c1,z,_⟩:=gk hB hr w;simp only at z;rw[w]at P a;refine ax P ?_;refine vi ?_;refine vm (p:=rP) (2*i) (aF v) ?_;refine af (ku A (by omega) (b:=(i:Int)) (by omega)) ?_;refine af (eU _) ?_;have I:=A.lift (qk B) (b:=(i:Int)) (by omega) (by omega) (by omega);have e5:((bh t).take i).length=i:=by rw[List.length_take];omega
  have e6:(cx++(bh t).take i).length=cx.length+i:=by rw[JK,e5]
  have K:CxOk B (cx++(bh t).take i):=λk q U=>by
   refine nJ hcx (by omega) ht l k q ?_
   by_cases hk:k<(cx++(bh t).take i).length
   ·rw[show cx++bh t=(cx++(bh t).take i)++(bh t).drop i by rw[List.append_assoc,List.take_append_drop],List.getElem?_append_left hk]
    exact U
   ·rw[List.getElem?_eq_none (by omega)]at U
    cases U
  refine af (mU K (by omega) (o:=none) (I.mono (by omega)) λx hx=>by cases hx) ?_;refine vi ?_;exact au (i+1,H) ⟨by simp only;omega,by simp only;omega,λ_=>c1,a⟩ (x:=⟨congrArg (λc:Ctx=>some (vP (aJ (c.map aA)))) (by rw[List.append_assoc,Ln (f:=t) (i:=i) (by omega)]),rfl,trivial⟩)
 have g:¬ (i:Int)<t.n.b:=g;obtain rfl:i=u:=by omega
 have O:=O (by omega);rw[Nat.sub_self]at a;have a:Y () m=s:=a;rw[F]at a;simp only at a;have L:=nJ hcx (by omega) ht l;have a0:(cx++bh t).length=cx.length+i:=by rw[JK,E]
 rw[JG (by omega)];refine af (K7 hI hB ht l) ?_
 by_cases V:fF B t=0
 rotate_left
 ·rw[if_pos V]at a
  subst a;refine bL (eu V) ?_;exact rfl
 rw[if_neg (by omega)]at a;rw[V];refine af uu' ?_;refine aB τok (σ:=Nat×Nat) [(0,_),(2,_),(3,_),(9,_),(10,_),(52,_)] [] (λq=>[(53,vI q.1)]) (λq=>[(0,.st 1 132 ((dh B q.2).map .p))]) (λq=>q.1<=i/\q.2<=n/\be (lG B rc (cx++bh t) t i (i-q.1) q.1 q.2) (λ_ n=>.ok (kidD t (2*t.n.a.toNat),n))=s) (λq=>i-q.1) (0,m) ⟨KV _,Z,a⟩ ?_
 clear a
 rintro⟨j,H⟩ ⟨hj,z,a⟩;simp only at hj z a;refine aj τok ?_;refine ae (λM=>?_) (λM=>?_)
 ·have M:(j:Int)<t.n.b:=M
  rw[show i-j=(i-(j+1))+1 by omega]at a;simp only[lG]at a;obtain⟨_,_,A,W⟩:=ii ht l (i:=j) (by omega);have I:=A.lift (qk B) (b:=(i:Int)) (by omega) (by omega) (by omega);refine vi ?_;refine vi ?_;refine vm (p:=rP) (2*j+1) (aF v) ?_;refine vi ?_;refine vm (p:=rP) (2*j) (aF v) ?_;refine af (ku A (by omega) (b:=t.n.b) (by omega)) ?_;refine af (eU _) ?_;have W:Ft (QB B) ((cx++bh t).length:Int) (kidD t (2*j+1)):=W.mono (by omega);have I:Ft (QB B) ((cx++bh t).length:Int) (aG (kidD t (2*j)) i 0):=I.mono (by omega);have R:=rh hI hB L (by omega) hr W I (D O j (by omega) H (by omega));rw[T];cases w:dQ B rc (cx++bh t) (kidD t (2*j+1)) (aG (kidD t (2*j)) i 0) H with
  |error e=>
   rw[w]at R a;have a:.error e=s:=a;subst a;refine cr R ?_;refine vk ?_;exact rfl
  |ok q=>
   obtain⟨_,m2⟩:=q;have X:=(kG hr w).2;simp only at X;rw[w]at R a;refine ax R ?_;refine vk ?_;refine vi ?_;refine au (j+1,m2) ⟨by simp only;omega,by simp only;omega,a⟩
 ·have M:¬ (j:Int)<t.n.b:=M
  obtain rfl:j=i:=by omega
  rw[Nat.sub_self]at a;have a:.ok (kidD t (2*t.n.a.toNat),H)=s:=a;subst a;refine vm (p:=ndP) 0 (aI v) ?_;refine vi ?_;refine vm (p:=rP) (2*t.n.a.toNat) (aF v) ?_;exact⟨_,_,_,rfl,rfl,rfl,rfl,rfl⟩
end
include hI hB hr
theorem EI(S:pd B rc g)(hn:n<=100000){a:Int}(ha:bk B B.ents.length a=true)(hg:a.toNat*5000+4096<=g):iQ prog 78 132 (dh B n) [pI a] (di B PV.bool (ik B rc a n)):=by
 obtain⟨i,x,s,u,qi,rfl,_,K,T,D⟩:=hB.fam ha (KJ _);obtain⟨L,e2,e3⟩:=D.ps_eq K;have hg:i*5000+4096<=g:=by simpa using hg
 generalize d:ik B rc (i:Int) n=z;unfold ik at d;rw[L,T]at d;have a0:=D.lp;have a1:=D.lc;have l1:=ak bD x.ctors;have l2:=ak (λt=>[ah t]) x.params;have l3:=congrArg List.length D.params;rw[List.length_map]at l3;refine aV (r:=di B PV.bool z) 67 [.tmp 4] τok func78 ?_;refine aj τok ?_;refine vm (p:=aU) i K ?_;refine ae (λM=>?_) (λM=>?_)
 ·have M:((x.ctors.map bD).length:Int)=0:=M
  rw[if_pos (by omega)]at d;subst d;exact⟨_,_,_,rfl,rfl,rfl,rfl,rfl⟩
 have M:¬ ((x.ctors.map bD).length:Int)=0:=M;rw[if_neg (by omega)]at d;refine ae (λE=>?_) (λE=>?_)
 ·have E:((x.ctors.map bD).length:Int)>1:=E
  rw[if_pos (by omega)]at d;subst d;exact⟨_,_,_,rfl,rfl,rfl,rfl,rfl⟩
 have E:¬ ((x.ctors.map bD).length:Int)>1:=E;rw[if_neg (by omega)]at d;obtain⟨c,U,_⟩:=ay (l:=x.ctors) (k:=0);obtain⟨v,go,I⟩:=D.ct 0 c U;obtain⟨V,W,e6⟩:=I.ag_eq K U;have V:jp B (i:Int) 0=v:=V;rw[V]at d;have a2:=I.la;have l4:=ak (λt=>[ah t]) c.args;have l5:=congrArg List.length I.args;rw[List.length_map]at l5;have A:∀(k:Nat) y,u[k]?=some y ->Ft (QB B) (k:Int) y:=λk y w=>D.up_p hB K w;have C:∀j,CxOk B (cH (u++v.take j)):=λj=>yX λk y w=>by
  by_cases hk:k<u.length
  ·rw[List.getElem?_append_left hk]at w
   exact A k y w
  ·rw[List.getElem?_append_right (by omega)]at w
   rw[List.getElem?_take]at w;split at w
   ·have:=I.up_a K D.kind w
    exact this.mono (by omega)
   ·cases w
 have O:∀j,CxOk B (cH (u.take j)):=λj=>yX λk y w=>by
  rw[List.getElem?_take]at w;split at w
  ·exact A k y w
  ·cases w
 refine dD 6 1000 133 2 rfl rfl ?_;refine mi 6 1000 ?_;refine aB τok (σ:=Nat) [(0,_),(5,_),(30,_),(31,_)] [(0,_),(5,_)] (λj=>[(6,vP (aJ ((cH (u.take j)).map aA))),(32,vI j)]) (λ_=>[]) (λj=>j<=u.length) (λj=>u.length-j) 0 (KV _) ?_;intro j hj;have W:(u.take j).length=j:=by rw[List.length_take];omega
 refine aj τok ?_;refine ae (λg=>?_) (λg=>?_)
 ·have g:(j:Int)<((x.params.map λt=>[ah t]).length:Int):=g
  obtain⟨p,H,_⟩:=ay (l:=u) (k:=j);refine vm (p:=rP) j (x:=row p) (by rw[D.params,JX,H];rfl) ?_;refine af (mU (O j) (by rw[ri,W];omega) (t:=p) (o:=none) (by rw[ri,W];exact A j p H) λx X=>by cases X) ?_;refine vi ?_;exact au (j+1) (by show j+1<=_;omega) (x:=⟨congrArg (λc:Ctx=>some (vP (aJ (c.map aA)))) (by rw[dy H,tS]),rfl,trivial⟩)
 have g:¬ (j:Int)<((x.params.map λt=>[ah t]).length:Int):=g;obtain rfl:j=u.length:=by omega
 rw[List.take_length];refine vm (p:=bD) 0 U ?_;refine aB τok (σ:=Nat×Nat) [(0,_),(46,_),(47,_)] [] (λq=>[(6,vP (aJ ((cH (u++v.take q.1)).map aA))),(48,vI q.1)]) (λq=>[(0,.st 1 132 ((dh B q.2).map .p))]) (λq=>q.1<=v.length/\q.2<=n/\lF B rc (cH (u++v.take q.1)) (v.drop q.1) q.2=z) (λq=>v.length-q.1) (0,n) ⟨KV _,KJ _,by simpa using d⟩ ?_ (x1:=⟨by rw[List.take_zero,JD];rfl,rfl,trivial⟩)
 clear d
 rintro⟨j,m⟩ ⟨hj,hm,b⟩;simp only at hj hm b;refine aj τok ?_;refine ae (λg=>?_) (λg=>?_);rotate_left
 ·have g:¬ (j:Int)<((c.args.map λt=>[ah t]).length:Int):=g
  obtain rfl:j=v.length:=by omega
  rw[List.drop_length]at b;have b:.ok (true,m)=z:=b;subst b;exact⟨_,_,_,rfl,rfl,rfl,rfl,rfl⟩
 have g:(j:Int)<((c.args.map λt=>[ah t]).length:Int):=g;obtain⟨p,H,hd⟩:=ay (l:=v) (k:=j);rw[hd]at b;simp only[lF]at b;have P:(cH (u++v.take j)).length=u.length+j:=by rw[ri];simp;omega
 have F:Ft (QB B) ((cH (u++v.take j)).length:Int) p:=by rw[P];exact I.up_a K D.kind H
 have R:=nS hI hB (C j) (by omega) hr F (S _ i _ m (C j) (by omega) F (EH (I.fa j p H)) (by have:=F.len;omega) (by omega));refine vm (p:=rP) j (x:=row p) (by rw[I.args,JX,H];rfl) ?_;cases L:dB B rc (cH (u++v.take j)) p m with
 |error e=>
  rw[L]at R b;have b:.error e=z:=b;subst b;refine cr R ?_;exact rfl
 |ok q=>
 obtain⟨⟨kd,lv⟩,Y⟩:=q;obtain⟨_,Z,_⟩:=gk hB hr L;simp only at Z;rw[L]at R b;have b:(if kd≠0 then .ok (false,Y)else lF B rc (cH (u++v.take j)++[(p,none)]) (v.drop (j+1)) Y)=z:=b;refine ax R ?_;refine ae (λE=>?_) (λE=>?_)
 ·rw[if_pos E]at b
  subst b;exact⟨_,_,_,rfl,rfl,rfl,rfl,rfl⟩
 rw[if_neg E]at b;refine af (mU (C j) (by omega) (t:=p) (o:=none) F λx X=>by cases X) ?_;refine vi ?_;have ex:cH (u++v.take (j+1))=cH (u++v.take j)++[(p,none)]:=by rw[dy H,<- List.append_assoc,tS]
 exact au (j+1,Y) ⟨by simp only;omega,by simp only;omega,by simp only;rw[ex];exact b⟩ (x:=⟨congrArg (λc:Ctx=>some (vP (aJ (c.map aA)))) ex.symm,rfl,trivial⟩)
end
end Go.Proofs.YtjnjbghlemiklaaGreat
