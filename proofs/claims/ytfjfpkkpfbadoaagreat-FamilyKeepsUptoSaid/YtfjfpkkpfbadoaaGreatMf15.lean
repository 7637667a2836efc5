import Derived.Test.YtfjfpkkpfbadoaaGreatMf14
import Derived.Test.YtfjfpkkpfbadoaaGreatRows
import Derived.ProofKit
import Derived.OpenShut
import Derived.Deep.Slices
import Derived.JoinedCond
set_option linter.all false
set_option maxRecDepth 100000
set_option maxHeartbeats 4000000
open Go.Proofs Go.Proofs.YtfjfpkkpfbadoaaGreat Go.Proofs.Tryz Cd Go.Wx Lv Tm
namespace Go.Q
theorem jI{cx:Ctx}(k:Tr)(v:Option Tr)(hc:cx.length<=1000):VC prog 51 [aO (cx.map aE),.agg [ah (row k),ah (qA' v)]] (aO ((cx++[(k,v)]).map aE)):=by
 have:=O5 (c:=cx.map aE) (aE (k,v)) (by simpa using hc);rw[KB];exact this
section
variable{B:ak}{cx:Ctx}{t:Tr}{n:Nat}
def eX(B:ak)(cx:Ctx)(t:Tr)(n:Nat)(r:RS Tr):Prop:=VP prog 49 97 (cB B n 0) (dG B r) [aO (cx.map aE),ah (row t)] (qS r)
variable(hS:dh B)(hR:cP B=0)(hB:GoodB B)(hcx:CxOk B cx)(hcl:cx.length<=260)(ht:Ft (QB B) (cx.length:Int) t)
include hB hcx hcl ht
theorem Pc(h1:t.n.op=1):eX B cx t n (.ok (aG (fR cx t.n.a).1 (t.n.a+1) 0,n)):=by
 unfold eX;generalize a:(.ok (aG (fR cx t.n.a).1 (t.n.a+1) 0,n):RS Tr)=f;have wt:=aC ht;have eC:=aq bdP (cx.map aE);have h:=aq aE cx;refine aX (r:=.ok (_,_)) 379 [.tmp 6] τok func49 ?_;refine aj<|vn (p:=(0:Int)≠0) ?_ UO;refine aM 0 (aN wt) ?_;refine af (ji wt) ?_;refine vy (p:=t.n.op=1) ?_ h1;have c:0<=t.n.a/\t.n.a<cx.length:=by
  obtain⟨k,l⟩:=t;obtain⟨i,j,_⟩:=ht.var_lt h1;exact⟨i,j⟩
 have d:=nH c.1 c.2;obtain⟨e,m⟩:=hcx _ _ d;refine vi ?_;refine vi ?_;refine vm (p:=bdP) (cx.length-1-t.n.a.toNat) (x:=aE (fR cx t.n.a)) (by rw[JX,d];rfl) ?_;refine vi ?_;refine af (ot (x:=(fR cx t.n.a).1) (aC e) (e.small Uo) (b:=t.n.a+1) (fr:=0) Uo Uo) ?_;refine ay (fW n _) ?_;refine vk ?_;subst a;exact eP9
theorem Pd(h2:t.n.op=2):eX B cx t n (tC t n):=by
 unfold eX;generalize b:tC t n=d;have wt:=aC ht;refine aX (r:=.ok (_,_)) 379 [.tmp 6] τok func49 ?_;refine aj<|vn (p:=(0:Int)≠0) ?_ UO;refine aM 0 (aN wt) ?_;refine af (ji wt) ?_;refine vn (p:=t.n.op=1) ?_;refine vy (p:=t.n.op=2) ?_ h2;have e:=(sI ht h2).hi;refine af (tx wt h2) ?_;refine af (O9 (a:=bq t) Uo (by_:=1)) ?_;have c:(fS (bq t) 1).length<=1000:=by
  by_cases h:dC (bq t) 1=0
  ·have:=(zQ (sI ht h2) h).hi
   omega
  ·unfold fS
   simp[h]
 refine af (HC 1 c) ?_;unfold tC at b
 by_cases h:dC (bq t) 1=0
 ·rw[KY Uo]at b
  subst b;rw[h];refine ay (fW n _) ?_;exact eP9
 ·rw[KX h]at b
  subst b;refine ay (k7 n h _) ?_;exact eP9
theorem Pe(b:t.n.op=8):eX B cx t n (.ok (tr (ax B t.n.a).type,n)):=by
 unfold eX;generalize a:(.ok (tr (ax B t.n.a).type,n):RS Tr)=d;have wt:=aC ht;refine aX (r:=.ok (_,_)) 379 [.tmp 6] τok func49 ?_;refine aj<|vn (p:=(0:Int)≠0) ?_ UO;refine aM 0 (aN wt) ?_;refine af (ji wt) ?_;refine vn (p:=t.n.op=1) ?_;refine vn (p:=t.n.op=2) ?_;refine vn (p:=t.n.op=4) ?_;refine vn (p:=t.n.op=5) ?_;refine vn (p:=t.n.op=6) ?_;refine vn (p:=t.n.op=7) ?_;refine vy (p:=t.n.op=8) ?_ b;obtain⟨i,x,h,j,k,e,f,c⟩:=hB.dfn ht.node' b;refine cS i e ?_;refine vk ?_;subst a;refine⟨_,_,_,rfl,rfl,?_,rfl,rfl⟩;simp only[qS,f,c.type,iY c.ft.ok,gs']
 rfl
include hS hR
theorem Pf(d:t.n.op=9):eX B cx t n (du (gj B t.n.a) n):=by
 unfold eX;generalize a:du (gj B t.n.a) n=b;have wt:=aC ht;refine aX (r:=.ok (_,_)) 379 [.tmp 6] τok func49 ?_;refine aj<|vn (p:=(0:Int)≠0) ?_ UO;refine aM 0 (aN wt) ?_;refine af (ji wt) ?_;refine vn (p:=t.n.op=1) ?_;refine vn (p:=t.n.op=2) ?_;refine vn (p:=t.n.op=4) ?_;refine vn (p:=t.n.op=5) ?_;refine vn (p:=t.n.op=6) ?_;refine vn (p:=t.n.op=7) ?_;refine vn (p:=t.n.op=8) ?_;refine vy (p:=t.n.op=9) ?_ d;have f:=dn ht.ok.pl;have c:=Nc hS hR hB (x5 ht.node' d f.2.2.1);cases hr:gj B t.n.a with
 |ok x=>
  rw[hr]at c a;have a:(.ok (x,n):RS Tr)=b:=a;subst a;refine af c ?_;refine ay (fW n _) ?_;exact kP9
 |error e=>
  have h:=zU hr;rw[hr]at c a;have a:(.error (e,n):RS Tr)=b:=a;subst a;refine af c ?_;refine ay (k7 n (show e≠0 by omega) _) ?_;exact kP9
theorem Pg(b:t.n.op=10):eX B cx t n (du (hH B t.n.a t.n.b) n):=by
 unfold eX;generalize a:du (hH B t.n.a t.n.b) n=c;have wt:=aC ht;refine aX (r:=.ok (_,_)) 379 [.tmp 6] τok func49 ?_;refine aj<|vn (p:=(0:Int)≠0) ?_ UO;refine aM 0 (aN wt) ?_;refine af (ji wt) ?_;refine vn (p:=t.n.op=1) ?_;refine vn (p:=t.n.op=2) ?_;refine vn (p:=t.n.op=4) ?_;refine vn (p:=t.n.op=5) ?_;refine vn (p:=t.n.op=6) ?_;refine vn (p:=t.n.op=7) ?_;refine vn (p:=t.n.op=8) ?_;refine vn (p:=t.n.op=9) ?_;refine vy (p:=t.n.op=10) ?_ b;have f:=dn ht.ok.pl;have d:=Ni hS hR hB (kA ht.node' (.inl b)) f.1 (uA ht.node' b);cases hr:hH B t.n.a t.n.b with
 |ok x=>
  rw[hr]at d a;have a:(.ok (x,n):RS Tr)=c:=a;subst a;refine af d ?_;refine ay (fW n _) ?_;exact kP9
 |error e=>
  have h:=zV hr;rw[hr]at d a;have a:(.error (e,n):RS Tr)=c:=a;subst a;refine af d ?_;refine ay (k7 n (show e≠0 by omega) _) ?_;exact kP9
variable{rs:RcS}{rc:RcJ}(hfg:Fg rs rc)(hr:cF B rc)
include hfg hr
theorem Ph(h4:t.n.op=4)(L:n<=100000)(A:∀n,n<=100000 ->dY B rs cx (kidD t 0) n)(C:cx.length<=256 ->∀n,n<=100000 ->dY B rs (cx++[(kidD t 0,none)]) (kidD t 1) n):eX B cx t n (tD B rs cx t n):=by
 unfold eX;generalize c:tD B rs cx t n=f;have wt:=aC ht;have N:=aq aE cx;refine aX (r:=.ok (_,_)) 379 [.tmp 6] τok func49 ?_;refine aj<|vn (p:=(0:Int)≠0) ?_ UO;refine aM 0 (aN wt) ?_;refine af (ji wt) ?_;refine vn (p:=t.n.op=1) ?_;refine vn (p:=t.n.op=2) ?_;refine vy (p:=t.n.op=4) ?_ h4;obtain⟨U,D,O⟩:=eV ht (.inl h4);unfold tD at c;have l:=pr hS hB hfg hr hcx hcl D L (A n L);cases m:sortS B rs cx (kidD t 0) n with
 |error e=>
  have o:=ir hr (eJ (gp hfg _ _) m);rw[m]at l c;have c:(.error e:RS Tr)=f:=c;subst c;refine aA 0 (aK wt) ?_;refine ay l ?_;refine aA 0 (aK wt) ?_;refine af (jI (kidD t 0) none Uo) ?_;refine aA 1 (aK wt) ?_;refine ay (Bv e.2 o _ _) ?_;refine vk ?_;refine vy (p:=e.1≠0) ?_ o;exact eP9
 |ok p=>
 obtain⟨⟨P,d⟩,s⟩:=p;have f1:=fC (gp hfg _ _) m;obtain⟨V,E,_⟩:=fA hB hr f1;obtain⟨_,R,F⟩:=jD hB hr hcx D f1;simp only at E R F;rw[m]at l c;refine aA 0 (aK wt) ?_;refine ay l ?_;have i:=hcx.snoc D (v:=none) λx S=>by cases S
 have k:Ft (QB B) ((cx++[(kidD t 0,none)]).length:Int) (kidD t 1):=by rw[bQ];exact O.mono Uo
 have u:=pr hS hB hfg hr i (by rw[bQ];omega) k (n:=s) Uo (C Uo s Uo);have c:aJ (sortS B rs (cx++[(kidD t 0,none)]) (kidD t 1) s) (λq n=>if cI d q.2≠0 then .error (cI d q.2,n)else .ok (eW q.1 (dB d q.2),n))=f:=c;refine aA 0 (aK wt) ?_;refine af (jI (kidD t 0) none Uo) ?_;refine aA 1 (aK wt) ?_;cases y:sortS B rs (cx++[(kidD t 0,none)]) (kidD t 1) s with
 |error e=>
  have o:=ir hr (eJ (gp hfg _ _) y);rw[y]at u c;have c:(.error e:RS Tr)=f:=c;subst c;refine ay u ?_;refine vk ?_;refine vy (p:=e.1≠0) ?_ o;exact eP9
 |ok p=>
 obtain⟨⟨M,j⟩,z⟩:=p;obtain⟨_,T,I⟩:=jD hB hr i k (fC (gp hfg _ _) y);simp only at T I;rw[y]at u c;have c:(if cI d j≠0 then .error (cI d j,z)else .ok (eW M (dB d j),z))=f:=c;refine ay u ?_;refine vk ?_;refine vn (p:=(0:Int)≠0) ?_ UO;have:=F.hi;have:=I.hi;refine af (By (a:=d) (b:=j) Uo Uo) ?_;have K:(dB d j).length<=1000:=by
  by_cases h:cI d j=0
  ·have:=(zR F I h).hi
   omega
  ·unfold dB
   simp[h]
 refine af (HC M K) ?_
 by_cases h:cI d j=0
 ·rw[KY Uo]at c
  subst c;rw[h];refine ay (fW z _) ?_;exact eP9
 ·rw[KX h]at c
  subst c;refine ay (k7 z h _) ?_;exact eP9
theorem Pj(D:t.n.op=5)(E:n<=100000)(o:∀n,n<=100000 ->dY B rs cx (kidD t 0) n)(q:cx.length<=256 ->∀n,n<=100000 ->dY B rs (cx++[(kidD t 0,none)]) (kidD t 1) n):eX B cx t n (tE B rs cx t n):=by
 unfold eX;generalize a:tE B rs cx t n=b;have wt:=aC ht;have I:=aq aE cx;refine aX (r:=.ok (_,_)) 379 [.tmp 6] τok func49 ?_;refine aj<|vn (p:=(0:Int)≠0) ?_ UO;refine aM 0 (aN wt) ?_;refine af (ji wt) ?_;refine vn (p:=t.n.op=1) ?_;refine vn (p:=t.n.op=2) ?_;refine vn (p:=t.n.op=4) ?_;refine vy (p:=t.n.op=5) ?_ D;obtain⟨R,i,K⟩:=eV ht (.inr D);unfold tE at a;have j:=pr hS hB hfg hr hcx hcl i E (o n E);cases k:sortS B rs cx (kidD t 0) n with
 |error e=>
  have c:=ir hr (eJ (gp hfg _ _) k);rw[k]at j a;have a:(.error e:RS Tr)=b:=a;subst a;refine aA 0 (aK wt) ?_;refine ay j ?_;refine aA 0 (aK wt) ?_;refine af (jI (kidD t 0) none Uo) ?_;refine aA 1 (aK wt) ?_;refine ay (tK e.2 c _ _) ?_;refine vk ?_;refine vy (p:=e.1≠0) ?_ c;exact eP9
 |ok p=>
 obtain⟨⟨L,S⟩,s⟩:=p;have f1:=fC (gp hfg _ _) k;obtain⟨T,u,_⟩:=fA hB hr f1;obtain⟨_,M,N⟩:=jD hB hr hcx i f1;simp only at u M N;rw[k]at j a;refine aA 0 (aK wt) ?_;refine ay j ?_;have d:=hcx.snoc i (v:=none) λx O=>by cases O
 have A:Ft (QB B) ((cx++[(kidD t 0,none)]).length:Int) (kidD t 1):=by rw[bQ];exact K.mono Uo
 have f:=q Uo s Uo;unfold dY at f;have a:aJ (rs (cx++[(kidD t 0,none)]) (kidD t 1) s) (λz n=>du (bp [kidD t 0] z) n)=b:=a;refine aA 0 (aK wt) ?_;refine af (jI (kidD t 0) none Uo) ?_;refine aA 1 (aK wt) ?_;cases l:rs (cx++[(kidD t 0,none)]) (kidD t 1) s with
 |error e=>
  have c:=hr.er _ _ _ _ (pq hfg l);rw[l]at f a;have a:(.error e:RS Tr)=b:=a;subst a;refine ay f ?_;refine vk ?_;refine vy (p:=e.1≠0) ?_ c;exact eP9
 |ok p=>
 obtain⟨z,h⟩:=p;have F:=hr.ft _ _ _ _ d (by rw[bQ];omega) A (kh hfg l);simp only at F;rw[l]at f a;have a:du (bp [kidD t 0] z) h=b:=a;refine ay f ?_;refine vk ?_;refine vn (p:=(0:Int)≠0) ?_ UO;refine aA 0 (aK wt) ?_;have m:=wb (x:=z) (aC F) (ys:=[kidD t 0]) (λy P=>by
  obtain rfl:y=kidD t 0:=by simpa using P
  exact aC i) Ud
 cases C:bp [kidD t 0] z with
 |ok x=>
  rw[C]at m a;have a:(.ok (x,h):RS Tr)=b:=a;subst a;refine af m ?_;refine ay (fW h _) ?_;exact eP9
 |error e=>
  have c:=kS C;rw[C]at m a;have a:(.error (e,h):RS Tr)=b:=a;subst a;refine af m ?_;refine ay (k7 h (show e≠0 by omega) _) ?_;exact eP9
end
section
variable{B:ak}{cx:Ctx}{t:Tr}{n:Nat}{rs:RcS}{rc:RcJ}
variable(hS:dh B)(hR:cP B=0)(hB:GoodB B)(hcx:CxOk B cx)(hcl:cx.length<=260)(ht:Ft (QB B) (cx.length:Int) t)(hfg:Fg rs rc)(hr:cF B rc)
include hS hR hB hcx hcl ht hfg hr
theorem Pk(L:t.n.op=6)(M:n<=100000)(A:∀n,n<=100000 ->dY B rs cx (kidD t 0) n)(C:∀n,n<=100000 ->dY B rs cx (kidD t 1) n):eX B cx t n (tF B rs cx t n):=by
 unfold eX;generalize a:tF B rs cx t n=b;have wt:=aC ht;have N:=aq aE cx;refine aX (r:=.ok (_,_)) 379 [.tmp 6] τok func49 ?_;refine aj<|vn (p:=(0:Int)≠0) ?_ UO;refine aM 0 (aN wt) ?_;refine af (ji wt) ?_;refine vn (p:=t.n.op=1) ?_;refine vn (p:=t.n.op=2) ?_;refine vn (p:=t.n.op=4) ?_;refine vn (p:=t.n.op=5) ?_;refine vy (p:=t.n.op=6) ?_ L;obtain⟨T,O,D⟩:=sG ht L;unfold tF at a;refine aA 0 (aK wt) ?_;have f:=A n M;unfold dY at f;cases i:rs cx (kidD t 0) n with
 |error e=>
  have c:=hr.er _ _ _ _ (pq hfg i);rw[i]at f a;have a:(.error e:RS Tr)=b:=a;subst a;refine ay f ?_;refine ay (tJ e.2 c _ _) ?_;refine vn (p:=e.1=0) ?_ c;refine vy (p:=e.1≠0) ?_ c;exact eP9
 |ok q=>
 obtain⟨y,m⟩:=q;have E:=hr.ft _ _ _ _ hcx hcl O (kh hfg i);have P:=hr.le _ _ _ _ (kh hfg i);simp only at E P;rw[i]at a f;have hW:=tL hS hB hcx hcl E (n:=m) Uo;have a:aJ (gH B cx y m) (λz n=>if (headT z).n.op≠4 \/0<(argsT z).length then .error (12,n)else
  aJ (checkS B rs cx (kidD t 1) (kidD (headT z) 0) n) λ_ n=>du (bh (kidD (headT z) 1) (kidD t 1) 0) n)=b:=a
 refine ay f ?_;cases l:gH B cx y m with
 |error e=>
  have c:=lU (eJ (iU y m) l);rw[l]at a hW;have a:(.error e:RS Tr)=b:=a;subst a;refine ay hW ?_;refine vn (p:=e.1=0) ?_ c;refine vy (p:=e.1≠0) ?_ c;exact eP9
 |ok q=>
 obtain⟨z,j⟩:=q;obtain⟨_,F,d⟩:=jB hB hcx E (fC (iU y m) l);simp only at d F;rw[l]at a hW;have a:(if (headT z).n.op≠4 \/0<(argsT z).length then .error (12,j)else
  aJ (checkS B rs cx (kidD t 1) (kidD (headT z) 0) j) λ_ n=>du (bh (kidD (headT z) 1) (kidD t 1) 0) n)=b:=a
 refine ay hW ?_;refine vy (p:=(0:Int)=0) ?_ rfl;refine aM 0 (aN (aC d)) ?_;refine ae (λg=>?_) (λg=>?_)
 ·rw[KX ((oG (aC d) UO).2 g)]at a
  subst a;refine vy (p:=(12:Int)≠0) ?_ UO;exact eP9
 rw[KY (λh=>g ((oG (aC d) UO).1 h))]at a;have g:z.n.op=4:=QY g;rw[(gk (x:=z) Uo).1]at a;refine vn (p:=(0:Int)≠0) ?_ UO;refine af (ji (aC d)) ?_;obtain⟨U,R,S⟩:=eV d (.inl g);refine aA 1 (aK wt) ?_;refine aA 0 (aK (aC d)) ?_;have o:=tM hS hB hfg hr hcx hcl D R (n:=j) Uo (C j Uo);cases I:checkS B rs cx (kidD t 1) (kidD z 0) j with
 |error e=>
  have c:=kT hr (eJ (kg hfg _ _ _) I);rw[I]at a o;have a:(.error e:RS Tr)=b:=a;subst a;refine ay o ?_;refine vk ?_;refine vy (p:=e.1≠0) ?_ c;exact eP9
 |ok q=>
 obtain⟨_,k⟩:=q;rw[I]at a o;have a:du (bh (kidD z 1) (kidD t 1) 0) k=b:=a;refine ay o ?_;refine vk ?_;refine vn (p:=(0:Int)≠0) ?_ UO;refine aA 1 (aK (aC d)) ?_;refine aA 1 (aK wt) ?_;have s:=s5 (x:=kidD z 1) (aC S) (u:=kidD t 1) (aC D) (D.small Uo) (v:=0) Uo;cases K:bh (kidD z 1) (kidD t 1) 0 with
 |ok x=>
  rw[K]at s a;have a:(.ok (x,k):RS Tr)=b:=a;subst a;refine af s ?_;refine ay (fW k _) ?_;exact kP9
 |error e=>
  have c:=gY K;rw[K]at s a;have a:(.error (e,k):RS Tr)=b:=a;subst a;refine af s ?_;refine ay (k7 k (show e≠0 by omega) _) ?_;exact kP9
theorem Pm(N:t.n.op=7)(O:n<=100000)(y:∀n,n<=100000 ->dY B rs cx (kidD t 0) n)(A:∀n,n<=100000 ->dY B rs cx (kidD t 1) n)(C:cx.length<=256 ->∀n,n<=100000 ->dY B rs (cx++[(kidD t 0,some (kidD t 1))]) (kidD t 2) n):eX B cx t n (tG B rs cx t n):=by
 unfold eX;generalize a:tG B rs cx t n=b;have wt:=aC ht;have R:=aq aE cx;refine aX (r:=.ok (_,_)) 379 [.tmp 6] τok func49 ?_;refine aj<|vn (p:=(0:Int)≠0) ?_ UO;refine aM 0 (aN wt) ?_;refine af (ji wt) ?_;refine vn (p:=t.n.op=1) ?_;refine vn (p:=t.n.op=2) ?_;refine vn (p:=t.n.op=4) ?_;refine vn (p:=t.n.op=5) ?_;refine vn (p:=t.n.op=6) ?_;refine vy (p:=t.n.op=7) ?_ N;obtain⟨T,D,i,S⟩:=o9 ht N;unfold tG at a;have j:=pr hS hB hfg hr hcx hcl D O (y n O);refine aA 0 (aK wt) ?_;cases k:sortS B rs cx (kidD t 0) n with
 |error e=>
  have c:=ir hr (eJ (gp hfg _ _) k);rw[k]at j a;have a:(.error e:RS Tr)=b:=a;subst a;refine ay j ?_;refine aA 1 (aK wt) ?_;refine aA 0 (aK wt) ?_;refine ay (O6 e.2 c _ _ _) ?_;refine vk ?_;refine aA 0 (aK wt) ?_;refine aA 1 (aK wt) ?_;refine af (jI (kidD t 0) (some (kidD t 1)) Uo) ?_;refine aA 2 (aK wt) ?_;refine ay (tK e.2 c _ _) ?_;refine vk ?_;refine vy (p:=e.1≠0) ?_ c;exact eP9
 |ok p=>
 obtain⟨q1,l⟩:=p;obtain⟨U,E,_⟩:=fA hB hr (fC (gp hfg _ _) k);simp only at E;rw[k]at j a;have m:=tM hS hB hfg hr hcx hcl i D (n:=l) Uo (A l Uo);have a:aJ (checkS B rs cx (kidD t 1) (kidD t 0) l) (λ_ n=>
  aJ (rs (cx++[(kidD t 0,some (kidD t 1))]) (kidD t 2) n) λz n=>du (bh z (kidD t 1) 0) n)=b:=a
 refine ay j ?_;refine aA 1 (aK wt) ?_;refine aA 0 (aK wt) ?_;cases o:checkS B rs cx (kidD t 1) (kidD t 0) l with
 |error e=>
  have c:=kT hr (eJ (kg hfg _ _ _) o);rw[o]at a m;have a:(.error e:RS Tr)=b:=a;subst a;refine ay m ?_;refine vk ?_;refine aA 0 (aK wt) ?_;refine aA 1 (aK wt) ?_;refine af (jI (kidD t 0) (some (kidD t 1)) Uo) ?_;refine aA 2 (aK wt) ?_;refine ay (tK e.2 c _ _) ?_;refine vk ?_;refine vy (p:=e.1≠0) ?_ c;exact eP9
 |ok p=>
 obtain⟨_,F⟩:=p;have I:=(jC hr (fC (kg hfg _ _ _) o)).2;simp only at I;rw[o]at a m;have d:=hcx.snoc D (v:=some (kidD t 1)) λx K=>by injection K with K;rw[<- K];exact i
 have L:Ft (QB B) ((cx++[(kidD t 0,some (kidD t 1))]).length:Int) (kidD t 2):=by rw[bQ];exact S.mono Uo
 have f:=C Uo F Uo;unfold dY at f;have a:aJ (rs (cx++[(kidD t 0,some (kidD t 1))]) (kidD t 2) F) (λz n=>du (bh z (kidD t 1) 0) n)=b:=a;refine ay m ?_;refine vk ?_;refine aA 0 (aK wt) ?_;refine aA 1 (aK wt) ?_;refine af (jI (kidD t 0) (some (kidD t 1)) Uo) ?_;refine aA 2 (aK wt) ?_;cases q:rs (cx++[(kidD t 0,some (kidD t 1))]) (kidD t 2) F with
 |error e=>
  have c:=hr.er _ _ _ _ (pq hfg q);rw[q]at f a;have a:(.error e:RS Tr)=b:=a;subst a;refine ay f ?_;refine vk ?_;refine vy (p:=e.1≠0) ?_ c;exact eP9
 |ok p=>
 obtain⟨z,h⟩:=p;have P:=hr.ft _ _ _ _ d (by rw[bQ];omega) L (kh hfg q);simp only at P;rw[q]at f a;have a:du (bh z (kidD t 1) 0) h=b:=a;refine ay f ?_;refine vk ?_;refine vn (p:=(0:Int)≠0) ?_ UO;refine aA 1 (aK wt) ?_;have s:=s5 (x:=z) (aC P) (u:=kidD t 1) (aC i) (i.small Uo) (v:=0) Uo;cases M:bh z (kidD t 1) 0 with
 |ok x=>
  rw[M]at s a;have a:(.ok (x,h):RS Tr)=b:=a;subst a;refine af s ?_;refine ay (fW h _) ?_;exact eP9
 |error e=>
  have c:=gY M;rw[M]at s a;have a:(.error (e,h):RS Tr)=b:=a;subst a;refine af s ?_;refine ay (k7 h (show e≠0 by omega) _) ?_;exact eP9
end
theorem Pn(B:ak)(x:Tr):gg B x=0 \/gg B x=18:=by
 unfold gg
 generalize (0:Nat)=i
 induction x.n.b.toNat generalizing i with
 |zero=>exact .inl rfl
 |succ k a=>
  simp only[lP];split
  ·first|exact .inr rfl|exact a _
  ·first|exact .inr rfl|exact a _
section
variable{B:ak}{cx:Ctx}{t:Tr}{n:Nat}{rs:RcS}{rc:RcJ}
variable(hS:dh B)(hR:cP B=0)(hB:GoodB B)(hcx:CxOk B cx)(hcl:cx.length<=260)(ht:Ft (QB B) (cx.length:Int) t)(hfg:Fg rs rc)(hr:cF B rc)
include hS hR hB hcx hcl ht hfg hr
theorem Po(d:t.n.op=12)(hn:n<=100000)(D:∀i,i<t.n.b.toNat ->∀n,n<=100000 ->dY B rs cx (kidD t (2*i)) n)(s:cx.length<=256 ->∀i,i<t.n.b.toNat ->∀n,n<=100000 ->dY B rs (cx++bv t) (kidD t (2*i+1)) n):eX B cx t n (tB B rs cx t n):=by
 unfold eX;obtain⟨l1,l2,l3,l4,l5⟩:=dZ ht.ok d;have W:=gu ht.ok d;obtain⟨u,E⟩:∃k,t.n.b.toNat=k:=⟨_,rfl⟩
 have P:t.n.b=(u:Int):=Uo
 generalize c:tB B rs cx t n=l;have wt:=aC ht;have X:=aq aE cx;refine aX (r:=.ok (_,_)) 379 [.tmp 6] τok func49 ?_;refine aj<|vn (p:=(0:Int)≠0) ?_ UO;refine aM 0 (aN wt) ?_;refine af (ji wt) ?_;refine vn (p:=t.n.op=1) ?_;refine vn (p:=t.n.op=2) ?_;refine vn (p:=t.n.op=4) ?_;refine vn (p:=t.n.op=5) ?_;refine vn (p:=t.n.op=6) ?_;refine vn (p:=t.n.op=7) ?_;refine vn (p:=t.n.op=8) ?_;refine vn (p:=t.n.op=9) ?_;refine vn (p:=t.n.op=10) ?_;refine vn (p:=t.n.op=11) ?_;unfold tB at c;rw[E]at c D s;obtain⟨U,F⟩:∃f:Unit ->Nat ->RS Tr,f=λ_ n=>if gg B t≠0 then .error (gg B t,n)else aJ (po B rs (cx++bv t) t u u 0 n) λ_ n=>.ok (kidD t (2*t.n.a.toNat),n):=⟨_,rfl⟩
 rw[<- F]at c;refine aB τok (σ:=Nat×RS Unit) [(0,_),(1,_),(2,_),(7,_),(8,_)] [(7,_)] (λq=>[(21,vI q.1)]) (λq=>[(0,.st 1 97 ((dG B q.2).map .p))]) (λq=>q.1<=u/\(match q.2 with
  | .ok p=>p.2<=n/\(0<q.1 ->cx.length<=256)/\aJ (qQ B rs cx t (u-q.1) q.1 p.2) U=l
  | .error e=>e.1≠0/\ .error e=l)) (λq=>u-q.1) (0,.ok ((),n)) ⟨KV _,KJ _,λh=>absurd h (Nat.lt_irrefl _),c⟩ ?_
 clear c
 rintro⟨i,r⟩ ⟨Y,a⟩;simp only at Y a;refine aj<|ae (λg=>?_) (λg=>?_)
 ·have g:(i:Int)<t.n.b:=g
  refine vi ?_;refine aA (2*i) (aK wt) ?_;cases r with
  |error e=>
   refine ay (Bv e.2 a.1 _ _) ?_;refine vi ?_;refine au (i+1,.error e) ⟨Us,a⟩
  |ok p=>
   obtain⟨_,m⟩:=p;obtain⟨L,M,a⟩:=a;simp only at L a;rw[show u-i=(u-(i+1))+1 by omega]at a;simp only[qQ]at a;obtain⟨_,_,f0,_⟩:=iL ht d (i:=i) Uo;have N:=pr hS hB hfg hr hcx hcl f0 (n:=m) Uo (D i Uo m Uo);cases v:sortS B rs cx (kidD t (2*i)) m with
   |error e=>
    have o:=ir hr (eJ (gp hfg _ _) v);rw[v]at N a;refine ay N ?_;refine vi ?_;refine au (i+1,.error e) ⟨Us,o,a⟩
   |ok q=>
    obtain⟨q1,y⟩:=q;obtain⟨Z,z,_⟩:=fA hB hr (fC (gp hfg _ _) v);simp only at z;rw[v]at N a;refine ay N ?_;refine vi ?_;refine au (i+1,.ok ((),y)) ⟨Us,Us,λ_=>Z,a⟩
 have g:¬ (i:Int)<t.n.b:=g;obtain rfl:i=u:=Uo
 cases r with
 |error e=>
  obtain⟨o,a⟩:=a;subst a;refine vy (p:=e.1≠0) ?_ o;exact eP9
 |ok p=>
 obtain⟨_,m⟩:=p;obtain⟨L,M,a⟩:=a;have M:=M Uo;simp only at L a;rw[Nat.sub_self]at a;have a:U () m=l:=a;rw[F]at a;simp only at a;have s:=s M;have I:=pb hcx Uo ht d;have V:(cx++bv t).length=cx.length+i:=by rw[JK,qp,E]
 refine vn (p:=(0:Int)≠0) ?_ UO;refine af (iO wt) ?_;refine bN (NB hB ht d) (λA=>?_) (λA=>?_);rotate_left
 ·have A:=of_decide_eq_false A
  have R:=(Pn B t).resolve_left A;rw[KX A,R]at a;subst a;refine vk ?_;refine aB τok (σ:=Unit) [(0,_),(1,_),(2,_),(7,_),(8,_),(24,vI 0)] [(7,_),(0,.st 1 97 ((cB B m 18).map .p))] (λ_=>[]) (λ_=>[]) (λ_=>True) (λ_=>0) () trivial ?_;rintro⟨⟩ -
  refine aj<|vy (p:=(0:Int)<t.n.b) ?_;refine vn (p:=(18:Int)=0) ?_ UO;refine vi ?_;refine aA (2*t.n.a.toNat) (aK wt) ?_;refine ay (qT m (.inl UO) _) ?_;exact eP9
 have A:=of_decide_eq_true A;rw[KY Uo]at a;refine vk ?_;refine aB τok (σ:=Nat×RS Unit) [(0,_),(1,_),(2,_),(7,_),(8,_)] [(7,_)] (λq=>[(24,vI q.1)]) (λq=>[(0,.st 1 97 ((dG B q.2).map .p))]) (λq=>q.1<=i/\(match q.2 with
  | .ok p=>p.2<=n/\aJ (po B rs (cx++bv t) t i (i-q.1) q.1 p.2) (λ_ n=>.ok (kidD t (2*t.n.a.toNat),n))=l
  | .error e=>e.1≠0/\ .error e=l)) (λq=>i-q.1) (0,.ok ((),m)) ⟨KV _,L,a⟩ ?_
 clear a
 rintro⟨j,r⟩ ⟨hj,a⟩;simp only at hj a;refine aj ?_;cases r with
 |error e=>
  obtain⟨o,a⟩:=a;subst a;refine ae (λC=>?_) (λC=>?_)
  ·refine vn (p:=e.1=0) ?_ o
   refine vi ?_;refine aA (2*t.n.a.toNat) (aK wt) ?_;refine ay (qT e.2 (.inl o) _) ?_;rw[KY o];exact eP9
  ·refine vi ?_
   refine aA (2*t.n.a.toNat) (aK wt) ?_;refine ay (qT e.2 (.inl o) _) ?_;rw[KY o];exact eP9
 |ok p=>
 obtain⟨_,y⟩:=p;obtain⟨z,a⟩:=a;simp only at z a;refine ae (λC=>?_) (λC=>?_)
 ·have C:(j:Int)<t.n.b:=C
  refine vy (p:=(0:Int)=0) ?_ rfl;rw[show i-j=(i-(j+1))+1 by omega]at a;simp only[po]at a;obtain⟨_,_,f0,f1⟩:=iL ht d (i:=j) Uo;have S:=f0.lift (qk B) (b:=(i:Int)) Uo Uo Uo;refine vi ?_;refine aA (2*j) (aK wt) ?_;refine af (ot (x:=kidD t (2*j)) (aC f0) (f0.small Uo) (b:=t.n.b) (fr:=0) Uo Uo) ?_;refine ay (fW y _) ?_;refine vk ?_;have hI:cJ cx t (2*j+1)=cx++bv t:=by
   unfold cJ;rw[KY Uo,KX Uo]
  have K:=Hq (cx:=cx) (qk B) ht Uo Uo Uo (2*j+1) Uo;rw[hI]at K;refine vi ?_;refine vi ?_;refine af K ?_;refine vi ?_;refine vi ?_;refine aA (2*j+1) (aK wt) ?_;have f1:Ft (QB B) ((cx++bv t).length:Int) (kidD t (2*j+1)):=f1.mono Uo;have S:Ft (QB B) ((cx++bv t).length:Int) (aG (kidD t (2*j)) i 0):=S.mono Uo;have O:=tM hS hB hfg hr I Uo f1 S (n:=y) Uo (s j Uo y Uo);rw[P];cases v:checkS B rs (cx++bv t) (kidD t (2*j+1)) (aG (kidD t (2*j)) i 0) y with
  |error e=>
   have o:=kT hr (eJ (kg hfg _ _ _) v);rw[v]at O a;refine ay O ?_;refine vk ?_;refine vi ?_;refine au (j+1,.error e) ⟨Us,o,a⟩
  |ok q=>
   obtain⟨_,m2⟩:=q;have T:=(jC hr (fC (kg hfg _ _ _) v)).2;simp only at T;rw[v]at O a;refine ay O ?_;refine vk ?_;refine vi ?_;refine au (j+1,.ok ((),m2)) ⟨Us,Us,a⟩
 ·have C:¬ (j:Int)<t.n.b:=C
  obtain rfl:j=i:=Uo
  rw[Nat.sub_self]at a;have a:(.ok (kidD t (2*t.n.a.toNat),y):RS Tr)=l:=a;subst a;refine vi ?_;refine aA (2*t.n.a.toNat) (aK wt) ?_;refine ay (fW y _) ?_;exact eP9
end
def qU(B:ak)(rs:RcS)(g:Nat):Prop:=∀(cx:Ctx) (k:Nat) (t:Tr) (n:Nat),CxOk B cx ->cx.length<=260 ->Ft (QB B) (cx.length:Int) t ->Mt k t ->k*5000+(row t).length<=g ->n<=100000 ->dY B rs cx t n
section
variable{B:ak}{n g:Nat}{rs:RcS}{rc:RcJ}
variable(hS:dh B)(hB:GoodB B)(hfg:Fg rs rc)(hr:cF B rc)
include hS hB hfg hr
theorem Pp(hgo:qU B rs g)(hn:n<=100000){a:Int}(ha:bF B B.ents.length a=true)(T:a.toNat*5000+4096<=g):VP prog 149 97 (cB B n 0) (dG B (nq B rs a n)) [pI a] (tI (nq B rs a n)):=by
 obtain⟨i,x,s,f,qi,rfl,_,E,O,o⟩:=hB.fam ha (KJ _);obtain⟨F,e2,e3⟩:=o.ps_eq E;have T:i*5000+4096<=g:=by simpa using T
 generalize d:nq B rs (i:Int) n=u;unfold nq at d;rw[F,O]at d;have X:=o.lp;have Y:=o.lc;have l1:=aq bA x.ctors;have l2:=aq (λt=>[ah t]) x.params;have Z:=KG List.length o.params;rw[KF]at Z;refine aX (r:=.ok (_,_)) 87 [.tmp 4] τok func149 ?_;refine aj<|cS i E ?_;refine ae (λI=>?_) (λI=>?_)
 ·have I:¬ ((x.ctors.map bA).length:Int)=1:=I
  refine ae (λv=>?_) (λv=>?_)
  ·have v:((x.ctors.map bA).length:Int)=0:=v
   rw[KX Uo]at d;subst d;exact eP9
  ·have v:¬ ((x.ctors.map bA).length:Int)=0:=v
   rw[KY Uo,KX Uo]at d;subst d;exact eP9
 have I:¬ ¬ ((x.ctors.map bA).length:Int)=1:=I;rw[KY Uo,KY Uo]at d;obtain⟨c,K,_⟩:=az (l:=x.ctors) (k:=0);obtain⟨h,go,A⟩:=o.ct 0 c K;obtain⟨P,U,e6⟩:=A.ag_eq E K;have P:jY B (i:Int) 0=h:=P;rw[P]at d;have a0:=A.la;have l4:=aq (λt=>[ah t]) c.args;have l5:=KG List.length A.args;rw[KF]at l5;have L:∀(k:Nat) y,f[k]?=some y ->Ft (QB B) (k:Int) y:=λk y z=>o.up_p hB E z;refine dK 6 1000 105 2 rfl rfl<|aB τok (σ:=Nat) [(0,_),(1,_),(5,_)] [(0,_),(5,_)] (λj=>[(6,.c (.row 1000)),(7,vI j)]) (λj=>[(1000,.rw 105 2 (((cV (f.take j)).map aE).map bdP))]) (λj=>j<=f.length) (λj=>f.length-j) 0 (KV _) ?_;intro j V;have U:(f.take j).length=j:=by rw[VJ];omega
 have e7:((cV (f.take j)).map aE).length=j:=by rw[KF,sP,U]
 refine aj<|ae (λg=>?_) (λg=>?_)
 ·have g:(j:Int)<((x.params.map λt=>[ah t]).length:Int):=g
  obtain⟨p,C,_⟩:=az (l:=f) (k:=j);refine aA j (x:=row p) (by rw[o.params,JX,C];rfl) ?_;refine bg ?_ (hb:=by rw[aq];omega);refine vi ?_;exact au (j+1) (by show j+1<=_;omega) (sw 1000 42) (y':=⟨KG (λl=>some (SE.rw _ _ l)) (by
   rw[dP C,vO,KB,KB]
   rfl),trivial⟩)
 have g:¬ (j:Int)<((x.params.map λt=>[ah t]).length:Int):=g;obtain rfl:j=f.length:=Uo
 show VCode _ _ _ _ _;refine nT 6 1000 ?_;refine aB τok (σ:=Nat×Nat) [(0,_),(5,_)] [(5,_)] (λq=>[(6,vP (aO ((cV (f++h.take q.1)).map aE))),(8,vI q.1)]) (λq=>[(0,.st 1 97 ((cB B q.2 0).map .p))]) (λq=>q.1<=h.length/\q.2<=n/\pm B rs (cV (f++h.take q.1)) (h.drop q.1) q.2=u) (λq=>h.length-q.1) (0,n) ⟨KV _,KJ _,by simpa using d⟩ ?_ (x1:=⟨by simp[aO];rfl,rfl,trivial⟩)
 clear d
 rintro⟨j,m⟩ ⟨V,hm,b⟩;simp only at V hm b;refine aj<|ee 0 K ?_;refine ae (λg=>?_) (λg=>?_);rotate_left
 ·have g:¬ (j:Int)<((c.args.map λt=>[ah t]).length:Int):=g
  obtain rfl:j=h.length:=Uo
  rw[List.drop_length]at b;have b:(.ok (true,m):RS Bool)=u:=b;subst b;exact eP9
 have g:(j:Int)<((c.args.map λt=>[ah t]).length:Int):=g;obtain⟨p,C,hd⟩:=az (l:=h) (k:=j);rw[hd]at b;simp only[pm]at b;have M:(cV (f++h.take j)).length=f.length+j:=by rw[sP];simp;omega
 have D:Ft (QB B) ((cV (f++h.take j)).length:Int) p:=by rw[M];exact A.up_a E o.kind C
 have hcx:CxOk B (cV (f++h.take j)):=z7 λk y z=>by
  by_cases hk:k<f.length
  ·rw[QH hk]at z
   exact L k y z
  ·rw[QU Uo]at z
   rw[List.getElem?_take]at z;split at z
   ·have:=A.up_a E o.kind z
    exact this.mono Uo
   ·cases z
 have N:=pr hS hB hfg hr hcx Uo D (n:=m) Uo (hgo _ i _ _ hcx Uo D (FG (A.fa j p C)) (by have:=D.len;omega) Uo);refine ee 0 K ?_;refine aA j (x:=row p) (by rw[A.args,JX,C];rfl) ?_;cases F:sortS B rs (cV (f++h.take j)) p m with
 |error e=>
  have he:=ir hr (eJ (gp hfg _ _) F);rw[F]at N b;have b:(.error e:RS Bool)=u:=b;subst b;refine ay N ?_;refine vy (p:=e.1≠0) ?_ he;exact eP9
 |ok q=>
 obtain⟨⟨kd,lv⟩,R⟩:=q;obtain⟨_,S,_⟩:=fA hB hr (fC (gp hfg _ _) F);simp only at S;rw[F]at N b;have b:(if kd≠0 then .ok (false,R)else pm B rs (cV (f++h.take j)++[(p,none)]) (h.drop (j+1)) R)=u:=b;refine ay N ?_;refine vn (p:=(0:Int)≠0) ?_ UO;refine ae (λv=>?_) (λv=>?_)
 ·rw[KX v]at b
  subst b;exact eP9
 rw[KY v]at b;refine ee 0 K ?_;refine aA j (x:=row p) (by rw[A.args,JX,C];rfl) ?_;refine af (jI (cx:=cV (f++h.take j)) p none Uo) ?_;refine vi ?_;have W:cV (f++h.take (j+1))=cV (f++h.take j)++[(p,none)]:=by rw[dP C,<- List.append_assoc,vO]
 exact au (j+1,R) ⟨Us,Us,by simp only;rw[W];exact b⟩ (x:=⟨KG (λc:Ctx=>some (vP (aO (c.map aE)))) W.symm,rfl,trivial⟩)
end
section
variable{B:ak}{cx:Ctx}{t:Tr}{n g:Nat}{rs:RcS}{rc:RcJ}
variable(hS:dh B)(hR:cP B=0)(hB:GoodB B)(hcx:CxOk B cx)(hcl:cx.length<=260)(ht:Ft (QB B) (cx.length:Int) t)(hfg:Fg rs rc)(hr:cF B rc)
include hS hR hB hcx hcl ht hfg hr
theorem Pq(b6:t.n.op=11)(hn:n<=100000)(hgo:qU B rs g)(hg:t.n.a.toNat*5000+4096<=g)(hT:∀i,i<(kidsT t).length ->∀n,n<=100000 ->dY B rs cx (kidD t i) n):
  VP prog 93 97 (cB B n 0) (dG B (smatch B rs cx t.n (kidsT t) n)) [aO (cx.map aE),ah (row t),bG ((kidsT t).map row)] (qS (smatch B rs cx t.n (kidsT t) n)):=by
 obtain⟨lk,i2,h9,kf⟩:=sJ ht b6;have wt:=aC ht;have ha:=kA ht.node' (.inr b6);obtain⟨i0,x,s,ps,qi,ei,_,hi,a6,hF⟩:=hB.fam ha (KJ _);obtain⟨e1,e2,e3⟩:=hF.ps_eq hi;rw[<- ei]at e1 e2 e3;have h':=kQ hB ha;generalize o:smatch B rs cx t.n (kidsT t) n=L;unfold smatch Bp at o;simp only at o;rw[e1,e2,e3,a6]at o;have c6:(kidsT t).getD 0 (varX 0)=kidD t 0:=rfl;have c7:(kidsT t).getD 1 (varX 0)=kidD t 1:=rfl;rw[c6,c7]at o;have i3:=hF.lp;have i4:=hF.li;have eK:=aq (λt=>[ah t]) ((kidsT t).map row);have i5:=aq row (kidsT t);have i7:=aq aE cx;have l1:=aq bA x.ctors;have l2:=aq (λt=>[ah t]) x.params;have l3:=KG List.length hF.params;have l4:=aq (λt=>[ah t]) x.indices;have l5:=KG List.length hF.indices;rw[KF]at l3 l5;obtain⟨I,a3⟩:∃k,ps.length=k:=⟨_,rfl⟩
 obtain⟨C,c8⟩:∃k,qi.length=k:=⟨_,rfl⟩
 rw[a3,c8]at o;have c9:=(cA wt (k:=0)).1;have c':=(cA wt (k:=1)).1;have k0:=kf _ (JQ c9);have k1:=kf _ (JQ c');refine aX (r:=.ok (_,_)) 337 [.tmp 8] τok func93 ?_;refine aD<|aD<|aM 0 (aN wt) ?_;refine aD<|cS i0 hi ?_ (hi:=ei);refine aD<|aD<|aD<|aA 1 (aK wt) ?_;have s1:=hT 1 Uo n hn;unfold dY at s1;cases e4:rs cx (kidD t 1) n with
 |error e=>
  have D:=hr.er _ _ _ _ (pq hfg e4);rw[e4]at s1;simp only[e4,ib]at o;subst o;refine ay s1 ?_;refine ay (tJ e.2 D _ _) ?_;refine aD<|vy (p:=e.1≠0) ?_ D;exact eP9
 |ok q=>
 obtain⟨y,m⟩:=q;have fy:=hr.ft _ _ _ _ hcx hcl k1 (kh hfg e4);have hm:=hr.le _ _ _ _ (kh hfg e4);simp only at fy hm;rw[e4]at s1;simp only[e4,jn]at o;have hW:=tL hS hB hcx hcl fy (n:=m) Uo;refine ay s1 ?_;cases e5:gH B cx y m with
 |error e=>
  have D:=lU (eJ (iU y m) e5);rw[e5]at hW;simp only[e5,ib]at o;subst o;refine ay hW ?_;refine aD<|vy (p:=e.1≠0) ?_ D;exact eP9
 |ok q=>
 obtain⟨z,m2⟩:=q;obtain⟨i1,d',fz⟩:=jB hB hcx fy (fC (iU y m) e5);simp only at fz d';rw[e5]at hW;simp only[e5,jn]at o;refine ay hW ?_;refine aD<|vn (p:=(0:Int)≠0) ?_ UO;refine aD<|af (As (aC fz)) ?_;have wh:=aC fz.head;have l6:=aq (λt=>[ah t]) ((argsT z).map row);have l7:=aq row (argsT z);have i8:=ou (aC fz) 4096 fz.len;refine aD<|aM 0 (aN wh) ?_;have U:(headT z).n.op≠9 \/(headT z).n.a≠t.n.a \/(argsT z).length≠I+C -> .error (14,m2)=L:=λh=>by
  rw[KX h]at o;exact o
 refine ae (λg1=>?_) (λg1=>?_)
 ·have:=U (.inl g1)
  subst this;exact eP9
 refine aM 0 (aN wh) ?_;refine ae (λg2=>?_) (λg2=>?_)
 ·have:=U (.inr (.inl g2))
  subst this;exact eP9
 refine vi ?_;refine ae (λg3=>?_) (λg3=>?_)
 ·have g3:¬ ((((argsT z).map row).map λt=>[ah t]).length:Int)=((x.params.map λt=>[ah t]).length:Int)+((x.indices.map λt=>[ah t]).length:Int):=g3
  have:=U (.inr (.inr Uo));subst this;exact eP9
 have g3:¬ ¬ ((((argsT z).map row).map λt=>[ah t]).length:Int)=((x.params.map λt=>[ah t]).length:Int)+((x.indices.map λt=>[ah t]).length:Int):=g3;have i9:(headT z).n.op=9:=QY g1;have i':(headT z).n.a=t.n.a:=QY g2;rw[KY Uo]at o;refine aD<|vi ?_;refine ae (λg4=>?_) (λg4=>?_)
 ·have g4:¬ ((((kidsT t).map row).map λt=>[ah t]).length:Int)-2=((x.ctors.map bA).length:Int):=g4
  rw[KX (by rw[VK];omega)]at o;subst o;exact eP9
 have g4:¬ ¬ ((((kidsT t).map row).map λt=>[ah t]).length:Int)-2=((x.ctors.map bA).length:Int):=g4;rw[KY (by rw[VK];omega)]at o;obtain⟨K,Z⟩:∃l,(argsT z).take I=l:=⟨_,rfl⟩
 have a7:K.length=I:=by rw[<- Z,VJ];omega
 have b7:∀k:Nat,k<I ->∃p,(argsT z)[k]?=some p/\K.getD k (varX 0)=p/\Ft (QB B) (cx.length:Int) p:=λk hk=>by
  obtain⟨p,hp,_⟩:=az (l:=argsT z) (k:=k);refine⟨p,hp,?_,fz.args p (JQ hp)⟩;rw[<- Z,QK,List.getElem?_take,KX hk,hp]
  rfl
 have a8:∀y∈K,Ft (QB B) (cx.length:Int) y:=λy R=>fz.args y (List.mem_of_mem_take (by rw[Z];exact R));rw[Z]at o;refine aD<|aA 0 (aK wt) ?_;have s0:=hT 0 Uo m2 Uo;unfold dY at s0;refine ay s0 ?_;refine aD<|aD ?_;obtain⟨KK,b8⟩:∃f:Int ->Nat ->RS Tr,f=λb9 n=>aJ (if s.n.a=0/\b9=1 then nq B rs t.n.a n else .ok (true,n)) λs n=>if s=false then .error (17,n)else
    aJ (oC B rs cx t.n.a K (kidD t 0) 0 ((kidsT t).drop 2) n) λ_ n=>du (aP (kidD t 0) ((argsT z).drop I++[kidD t 1])) n:=⟨_,rfl⟩
 rw[<- b8]at o;have a0:∀q,rs cx (kidD t 0) m2= .ok q ->Ft (QB B) (cx.length:Int) q.1/\q.2<=m2:=λq h=>⟨hr.ft _ _ _ _ hcx hcl k0 (kh hfg h),hr.le _ _ _ _ (kh hfg h)⟩
 have a5:∀e,rs cx (kidD t 0) m2= .error e ->e.1≠0:=λe h=>hr.er _ _ _ _ (pq hfg h)
 generalize rs cx (kidD t 0) m2=r0 at *
 refine aB τok (σ:=Nat×Ctx×RS Tr) [(0,_),(1,_),(3,_),(9,_),(10,_),(11,_),(12,_),(15,_)] [(10,_)] (λq=>[(16,vP (qS q.2.2)),(17,vP (aO (q.2.1.map aE))),(18,vI q.1)]) (λq=>[(0,.st 1 97 ((dG B q.2.2).map .p))])
  (λq=>q.1<=C+1/\CxOk B q.2.1/\(q.2.1.length=cx.length+q.1/\q.2.1.length<=257)/\(match q.2.2 with
   | .ok p=>Ft (QB B) (q.2.1.length:Int) p.1/\p.2<=n/\aJ (oB B t.n.a K C (C+1-q.1) q.1 q.2.1 p.1 p.2) KK=L
   | .error e=>q.1=0/\e.1≠0/\ .error e=L)) (λq=>C+1-q.1) (0,cx,r0) ⟨KV _,hcx,⟨rfl,by show cx.length<=257;omega⟩,(by
   cases r0 with
   |error e=>exact⟨rfl,a5 e rfl,o⟩
   |ok q=>exact⟨(a0 q rfl).1,by have:=(a0 q rfl).2;omega,o⟩)⟩ ?_ (y1:=⟨KG (λl=>some (SE.st 1 97 l)) (show (dG B r0).map AC.p=((dG B r0).map AC.p).map (AC.ren id) by rw[List.map_map];rfl),trivial⟩)
 clear o a0 a5
 rintro⟨i,A,r⟩ ⟨e0,E,⟨e6,b'⟩,d⟩;simp only at e0 E e6 b' d;have j0:=aq aE A;refine aj<|ae (λg5=>?_) (λg5=>?_)
 ·have g5:(i:Int)<=((x.indices.map λt=>[ah t]).length:Int):=g5
  cases r with
  |error e=>
   obtain⟨_,D,d⟩:=d;subst d;refine ay (tJ e.2 D _ _) ?_;refine vn (p:=e.1=0) ?_ D;refine vy (p:=e.1≠0) ?_ D;exact eP9
  |ok p=>
  obtain⟨mm,n1⟩:=p;obtain⟨fm,a9,d⟩:=d;simp only at fm a9 d;rw[show C+1-i=(C-i)+1 by omega]at d;simp only[oB]at d;have hW:=tL hS hB E Uo fm (n:=n1) Uo;cases e7:gH B A mm n1 with
  |error e=>
   have D:=lU (eJ (iU mm n1) e7);rw[e7]at hW;simp only[e7,ib]at d;subst d;refine ay hW ?_;refine vn (p:=e.1=0) ?_ D;refine vy (p:=e.1≠0) ?_ D;exact eP9
  |ok q=>
  obtain⟨f,S⟩:=q;obtain⟨ci,a',ff⟩:=jB hB E fm (fC (iU mm n1) e7);simp only at ff a';have wf:=aC ff;rw[e7]at hW;simp only[e7,jn]at d;refine ay hW ?_;refine vy (p:=(0:Int)=0) ?_ rfl;refine aM 0 (aN wf) ?_;refine ae (λg6=>?_) (λg6=>?_)
  ·rw[KX ((oG wf UO).2 g6),ib]at d
   subst d;refine vy (p:=(16:Int)≠0) ?_ UO;exact eP9
  rw[KY (λh=>g6 ((oG wf UO).1 h))]at d;have g6:f.n.op=4:=QY g6;rw[(gk (x:=f) Uo).1]at d;refine vn (p:=(0:Int)≠0) ?_ UO;refine af (ji wf) ?_;obtain⟨fl,f0,f1⟩:=eV ff (.inl g6);refine ae (λg7=>?_) (λg7=>?_)
  ·have g7:(i:Int)<((x.indices.map λt=>[ah t]).length:Int):=g7
   obtain⟨q0,b0,_⟩:=az (l:=qi) (k:=i);have e':(fq B t.n.a).getD i (varX 0)=q0:=by rw[e2,QK,b0];rfl
   have b1:jA B t.n.a K i C=cR K (i:Int) I q0:=by
    unfold jA;rw[KX Uo,e',a7]
   rw[b1]at d;have f':Ft (QB B) ((cx.length:Int)+I+i) q0:=(hF.up_i hB hi b0).mono (by rw[a3];omega);obtain⟨W,V⟩:∃r,cR K (i:Int) I q0=r:=⟨_,rfl⟩
   rw[V]at d;refine aA i (x:=row q0) (by rw[hF.indices,JX,b0];rfl) ?_;refine vi ?_;refine aB τok (σ:=Nat×Tr×Int) [(0,_),(1,_),(3,_),(9,_),(10,_),(11,_),(12,_),(15,_),(17,_),(18,_),(19,_)] [(0,_),(10,_)] (λq=>[(20,vP (ah (row q.2.1))),(21,vI q.2.2)]) (λ_=>[])
    (λq=>q.1<=I/\q.2.2=(q.1:Int)-1/\Ft (QB B) ((cx.length:Int)+q.1+i) q.2.1/\cR K (i:Int) q.1 q.2.1=W) (λq=>q.1) (I,q0,((x.params.map λt=>[ah t]).length:Int)-1) ⟨KJ _,Us,f',V⟩ ?_
   clear V
   rintro⟨k,w,v⟩ ⟨hk,hv,fw,X⟩;simp only at hk hv fw X;refine aj<|ae (λP=>?_) (λP=>?_)
   ·have P:v≥0:=P
    obtain⟨k,rfl⟩:∃j,k=j+1:=⟨k-1,Uo⟩
    obtain rfl:v=(k:Int):=Uo
    simp only[cR]at X;obtain⟨p,hp,c0,fp⟩:=b7 k Uo;rw[c0]at X;have b2:=fp.lift (qk B) (b:=(k:Int)) Uo Uo Uo;refine aA k (x:=row p) (by rw[JX,hp];rfl) ?_;refine af (ot (x:=p) (aC fp) (fp.small Uo) (b:=(k:Int)) (fr:=0) Uo Uo) ?_;refine ay (fW S _) ?_;refine af (s5 (x:=w) (aC fw) (u:=aG p k 0) (aC b2) (b2.small Uo) (v:=(i:Int)) Uo) ?_;cases M:bh w (aG p k 0) (i:Int)with
    |error e=>
     have D:=gY M;rw[M]at X;have X:.error e=W:=X;subst X;rw[Bm,ib,ib]at d;subst d;refine ay (qT S (.inr (show e≠0 by omega)) _) ?_;rw[KX rfl];refine vy (p:=e≠0) ?_;exact eP9
    |ok w'=>
     rw[M]at X;have X:cR K (i:Int) k w'=W:=X;have g0:=gQ (qk B) (N:=(cx.length:Int)+k) (v:=(i:Int)) (fw.mono Uo) (b2.mono Uo) Uo Uo Uo Uo M;refine ay (fW S _) ?_;refine vn (p:=(0:Int)≠0) ?_ UO;refine vi ?_;exact au (k,w',(k:Int)-1) ⟨Us,by simp only,g0.mono Us,X⟩
   ·have P:¬ v≥0:=P
    obtain rfl:k=0:=Uo
    have X:.ok w=W:=X;subst X;rw[Bj,jn]at d;have fw:Ft (QB B) (A.length:Int) w:=fw.mono Uo;refine aA 0 (aK wf) ?_;have T:=Bw hS hB E Uo f0 fw (n:=S) Uo false;cases M:ke B A (kidD f 0) w false S with
    |error e=>
     have D:=sM (eJ (pp _ _ _ _) M);rw[M]at T;simp only[M,ib]at d;subst d;refine ay T ?_;have O:=ie (B:=B) e.2 e.1 16;rw[KY D]at O;refine ay O ?_;exact eP9
    |ok q=>
     obtain⟨b,n3⟩:=q;have a1:=(qs (fC (pp _ _ _ _) M)).2;simp only at a1;rw[M]at T;simp only[M,jn]at d;cases b with
     |false=>
      rw[KY UO]at d;have d:(.error (16,n3):RS Tr)=L:=d;subst d;refine ay T ?_;have O:=ie (B:=B) n3 0 16;rw[KX rfl]at O;refine ay O ?_;exact eP9
     |true=>
      rw[KX rfl]at d;refine ay T ?_;refine aA 0 (aK wf) ?_;refine af (jI (cx:=A) (kidD f 0) none Uo) ?_;refine aA 1 (aK wf) ?_;refine vi ?_;have b3:Ft (QB B) ((A++[(kidD f 0,none)]).length:Int) (kidD f 1):=by rw[bQ];exact f1.mono Uo
      exact au (i+1,A++[(kidD f 0,none)],.ok (kidD f 1,n3)) ⟨Us,E.snoc f0 (λx hx=>by cases hx),by rw[bQ];omega,b3,Us,by simp only;rw[show C+1-(i+1)=C-i by omega];exact d⟩
  ·have g7:¬ (i:Int)<((x.indices.map λt=>[ah t]).length:Int):=g7
   have b1:jA B t.n.a K i C=aP (.mk ⟨9,t.n.a,0⟩ []) (K.map (λp=>aG p C 0)++varsM C 0):=by
    unfold jA;rw[KY Uo]
   rw[b1]at d;have c1:Ft (QB B) (A.length:Int) (.mk ⟨9,t.n.a,0⟩ []):=pe (by simp[aw,aI];omega) (.inl rfl) (by
    simp only[QB,cr,aY];simp[ha])
   have c2:∀y∈K.map (λp=>aG p (C:Int) 0)++varsM C 0,Ft (QB B) (A.length:Int) y:=λy R=>by
    rcases List.mem_append.1 R with R|R
    ·obtain⟨p,hp,rfl⟩:=List.mem_map.1 R
     exact((a8 p hp).lift (qk B) (b:=(C:Int)) Uo Uo Uo).mono Uo
    ·exact(lR (qk B) Uo Uo y R).mono Uo
   have g':(varsM C 0).length=C:=by simp[varsM]
   have b4:=s6 (aC c1) (ys:=K.map (λp=>aG p (C:Int) 0)++varsM C 0) (λy R=>aC (c2 y R)) (by rw[JK,KF,g'];omega);have F:VC prog 146 [ah (row (.mk ⟨9,t.n.a,0⟩ [])),.sl (((K.map λp=>aG p (C:Int) 0).map row).map rP++((varsM C 0).map row).map rP)] (de (aP (.mk ⟨9,t.n.a,0⟩ []) (K.map (λp=>aG p (C:Int) 0)++varsM C 0))):=by
    rw[<- KB,<- KB];exact b4
   have hv:=Aw (n:=C) (fr:=0) Uo Uo;have h0:VO prog 147 [pI (((x.indices.map rP).length:Int)-1),pI 0] 39 1 (((varsM C 0).map row).map rP):=by
    have e:((x.indices.map rP).length:Int)-1=0+(C:Int)-1:=by
     have:(x.indices.map rP).length=x.indices.length:=aq rP x.indices;omega
    rw[e];exact hv
   show VCode _ _ _ _ _;refine dK 23 1000 39 1 rfl rfl<|aB τok (σ:=Nat) [(0,_),(1,_),(3,_),(9,_),(10,_),(11,_),(12,_),(15,_),(17,_),(18,_),(19,_)] [(0,_),(10,_)] (λj=>[(23,.c (.row 1000)),(24,vI j)]) (λj=>[(1000,.rw 39 1 ((((K.take j).map λp=>aG p (C:Int) 0).map row).map rP))]) (λj=>j<=I) (λj=>I-j) 0 (KV _) ?_;intro j hj;have ej:(K.take j).length=j:=by rw[VJ];omega
   refine aj<|ae (λP=>?_) (λP=>?_)
   ·have P:(j:Int)<((x.params.map λt=>[ah t]).length:Int):=P
    obtain⟨p,hp,c0,fp⟩:=b7 j Uo;have h1:K[j]?=some p:=by rw[<- Z,List.getElem?_take,KX Uo,hp]
    have h2:=ot (x:=p) (aC fp) (fp.small Uo) (b:=(C:Int)) (fr:=0) Uo Uo;have c3:VC prog 56 [ah (row p),pI ((x.indices.map rP).length:Int),pI 0] (.tup [ah (row (aG p (C:Int) 0)),pI 0]):=by
     have e:((x.indices.map rP).length:Int)=(C:Int):=by
      have:(x.indices.map rP).length=x.indices.length:=aq rP x.indices;omega
     rw[e];exact h2
    refine aA j (x:=row p) (by rw[JX,hp];rfl) ?_;refine af c3 ?_;refine ay (fW S _) ?_;refine bg ?_ (hb:=Uk);refine vi ?_;exact au (j+1) (by show j+1<=_;omega) (sw 1000 190) (y':=⟨KG (λl=>some (SE.rw _ _ l)) (by
     rw[dP h1,KB,KB,KB]
     rfl),trivial⟩)
   have P:¬ (j:Int)<((x.params.map λt=>[ah t]).length:Int):=P;obtain rfl:I=j:=Uo
   rw[JG Uo];refine vi ?_;refine gV h0 ?_;refine va (p:=rP) ?_ (jx _) (hb:=Uk);cases e9:aP (.mk ⟨9,t.n.a,0⟩ []) (K.map (λp=>aG p (C:Int) 0)++varsM C 0)with
   |error e=>
    have D:=iI e9;rw[e9]at F d;rw[Bm,ib,ib]at d;subst d;refine af F ?_;refine ay (k7 S (show e≠0 by omega) _) ?_;refine aA 0 (aK wf) ?_;refine ay (Bu S (show e≠0 by omega) _ _ _ false) ?_;have O:=ie (B:=B) S e 16;rw[KY (show ¬ e=0 by omega)]at O;refine ay O ?_;exact eP9
   |ok w=>
    rw[e9]at F d;rw[Bj,jn]at d;have fw:=gv (qk B) c1 c2 e9;refine af F ?_;refine ay (fW S _) ?_;refine aA 0 (aK wf) ?_;have T:=Bw hS hB E Uo f0 fw (n:=S) Uo false;cases M:ke B A (kidD f 0) w false S with
    |error e=>
     have D:=sM (eJ (pp _ _ _ _) M);rw[M]at T;simp only[M,ib]at d;subst d;refine ay T ?_;have O:=ie (B:=B) e.2 e.1 16;rw[KY D]at O;refine ay O ?_;exact eP9
    |ok q=>
     obtain⟨b,n3⟩:=q;have a1:=(qs (fC (pp _ _ _ _) M)).2;simp only at a1;rw[M]at T;simp only[M,jn]at d;cases b with
     |false=>
      rw[KY UO]at d;have d:(.error (16,n3):RS Tr)=L:=d;subst d;refine ay T ?_;have O:=ie (B:=B) n3 0 16;rw[KX rfl]at O;refine ay O ?_;exact eP9
     |true=>
      rw[KX rfl]at d;refine ay T ?_;refine aA 0 (aK wf) ?_;refine af (jI (cx:=A) (kidD f 0) none Uo) ?_;refine aA 1 (aK wf) ?_;refine vi ?_;have b3:Ft (QB B) ((A++[(kidD f 0,none)]).length:Int) (kidD f 1):=by rw[bQ];exact f1.mono Uo
      exact au (i+1,A++[(kidD f 0,none)],.ok (kidD f 1,n3)) ⟨Us,E.snoc f0 (λx hx=>by cases hx),by rw[bQ];omega,b3,Us,by simp only;rw[show C+1-(i+1)=C-i by omega];exact d⟩
 have g5:¬ (i:Int)<=((x.indices.map λt=>[ah t]).length:Int):=g5;obtain rfl:i=C+1:=Uo
 cases r with
 |error e=>exact absurd d.1 Uo
 |ok p=>
 obtain⟨mm,n1⟩:=p;obtain⟨fm,a9,d⟩:=d;simp only at fm a9 d;rw[Nat.sub_self]at d;simp only[oB]at d;refine aD ?_;have hW:=tL hS hB E Uo fm (n:=n1) Uo;cases e7:gH B A mm n1 with
 |error e=>
  have D:=lU (eJ (iU mm n1) e7);rw[e7]at hW;simp only[e7,ib]at d;subst d;refine ay hW ?_;refine aD<|vn (p:=e.1=0) ?_ D;refine aD<|vy (p:=e.1≠0) ?_ D;exact eP9
 |ok q=>
 obtain⟨f,S⟩:=q;obtain⟨ci,a',ff⟩:=jB hB E fm (fC (iU mm n1) e7);simp only at ff a';have wf:=aC ff;rw[e7]at hW;simp only[e7,jn]at d;refine ay hW ?_;refine aD<|vy (p:=(0:Int)=0) ?_ rfl;refine aM 0 (aN wf) ?_;refine ae (λg6=>?_) (λg6=>?_)
 ·rw[KX ((oG wf UO).2 g6),ib]at d
  subst d;refine aD<|vy (p:=(16:Int)≠0) ?_ UO;exact eP9
 rw[KY (λh=>g6 ((oG wf UO).1 h))]at d;have g6:f.n.op=2:=QY g6;rw[(gk (x:=f) Uo).1,jn,b8]at d;simp only at d;refine aD<|vn (p:=(0:Int)≠0) ?_ UO;refine dd τok (σ:=RS Unit) [(0,_),(1,_),(3,_),(9,_),(10,_),(11,_),(15,_)] [(10,_)] (λ_=>[]) (λr=>[(0,.st 1 97 ((dG B r).map .p))])
  (λr=>(match r with
   | .ok p=>p.2<=n
   | .error e=>e.1≠0)/\aJ r (λ_ n=>aJ (oC B rs cx t.n.a K (kidD t 0) 0 ((kidsT t).drop 2) n) λ_ n=>du (aP (kidD t 0) ((argsT z).drop I++[kidD t 1])) n)=L) ?_ ?_
 ·refine aM 0 (x:=s.n) (by rw[hF.sort];exact aN (aC hF.fs)) ?_
  refine ae (λg7=>?_) (λg7=>?_);rotate_left
  ·have g7:¬ s.n.a=0:=g7
   rw[KY Uo,jn,KY UO]at d;exact au (.ok ((),S)) ⟨Us,d⟩
  have g7:s.n.a=0:=g7;refine aM 0 (aN wf) ?_;refine ae (λP=>?_) (λP=>?_);rotate_left
  ·have P:¬ f.n.a=1:=P
   rw[KY Uo,jn,KY UO]at d;exact au (.ok ((),S)) ⟨Us,d⟩
  have P:f.n.a=1:=P;rw[KX ⟨g7,P⟩]at d;have a2:=Pp hS hB hfg hr hgo (n:=S) Uo ha hg;cases M:nq B rs t.n.a S with
  |error e=>
   have D:=Fu hr (eJ (Bq hfg _ _) M);rw[M]at a2 d;rw[ib]at d;refine ay a2 ?_;have O:=ie (B:=B) e.2 e.1 17;rw[KY D]at O;refine ay O ?_;exact au (.error e) ⟨D,d⟩
  |ok q=>
   obtain⟨b,n3⟩:=q;have a1:=zZ hB hr (fC (Bq hfg _ _) M);simp only at a1;rw[M]at a2 d;rw[jn]at d;cases b with
   |true=>
    rw[KY UO]at d;refine ay a2 ?_;exact au (.ok ((),n3)) ⟨Us,d⟩
   |false=>
    rw[KX rfl]at d;refine ay a2 ?_;have O:=ie (B:=B) n3 0 17;rw[KX rfl]at O;refine ay O ?_;exact au (.error (17,n3)) ⟨Us,d⟩
 clear d
 rintro r ⟨b5,d⟩;refine aj<|aB τok (σ:=Nat×RS Unit) [(0,_),(1,_),(3,_),(9,_),(10,_),(11,_),(15,_)] [(10,_)] (λq=>[(25,vI q.1)]) (λq=>[(0,.st 1 97 ((dG B q.2).map .p))])
  (λq=>q.1<=x.ctors.length/\(match q.2 with
   | .ok p=>p.2<=n/\aJ (oC B rs cx t.n.a K (kidD t 0) q.1 ((kidsT t).drop (2+q.1)) p.2) (λ_ n=>du (aP (kidD t 0) ((argsT z).drop I++[kidD t 1])) n)=L
   | .error e=>e.1≠0/\ .error e=L)) (λq=>x.ctors.length-q.1) (0,r) ⟨KV _,(by
   cases r with
   |error e=>exact⟨b5,d⟩
   |ok q=>exact⟨b5,d⟩)⟩ ?_ (y1:=⟨KG (λl=>some (SE.st 1 97 l)) (show (dG B r).map AC.p=((dG B r).map AC.p).map (AC.ren id) by rw[List.map_map];rfl),trivial⟩)
 clear d b5
 rintro⟨k,r⟩ ⟨hk,d⟩;simp only at hk d;refine aj ?_;cases r with
 |error e=>
  obtain⟨D,d⟩:=d;subst d;refine ae (λg1=>?_) (λg1=>?_)
  ·refine vn (p:=e.1=0) ?_ D
   refine vy (p:=e.1≠0) ?_ D;exact eP9
  ·refine vy (p:=e.1≠0) ?_ D
   exact eP9
 |ok p=>
 obtain⟨_,m4⟩:=p;obtain⟨h3,d⟩:=d;simp only at h3 d;have c4:∀y∈(((argsT z).map row).map λt=>[ah t]),y.length=1:=λy R=>by
  obtain⟨_,_,rfl⟩:=List.mem_map.1 R
  rfl
 refine ae (λg9=>?_) (λg9=>?_)
 ·have g9:(k:Int)<((x.ctors.map bA).length:Int):=g9
  refine vy (p:=(0:Int)=0) ?_ rfl;obtain⟨b,hb,h4⟩:=az (l:=kidsT t) (k:=2+k);have h5:kidD t (2+k)=b:=by
   have:=(cA wt (k:=2+k)).1;rw[hb]at this;exact(JB this).symm
  rw[h4]at d;simp only[oC]at d;have fb:=kf _ (JQ hb);have h6:=Nk hS hR hB (N:=(cx.length:Int)) Uo Uo ha (b:=(k:Int)) Uo (by rw[a6];omega) a8 (by rw[a7,e1,a3]) k0;have Y:VC prog 150 [bk B,pI t.n.a,pI (k:Int),.sl (((((argsT z).map row).map λt=>[ah t]).take I).drop 0),ah (row (kidD t 0))] (de (jg B t.n.a (k:Int) K (kidD t 0))):=by
   rw[List.drop_zero,<- List.map_take,<- List.map_take,Z];exact h6
  refine bO 0 I ?_ c4;refine aA 0 (aK wt) ?_;cases e9:jg B t.n.a (k:Int) K (kidD t 0)with
  |error e=>
   have D:=zT e9;rw[e9]at Y d;rw[Bm,ib,ib]at d;refine af Y ?_;refine ay (k7 m4 (show e≠0 by omega) _) ?_;refine vk ?_;refine vn (p:=e=0) ?_;refine vi ?_;exact au (k+1,.error (e,m4)) ⟨Us,Us,d⟩
  |ok ty=>
   have h7:=Fl hB Uo Uo ha Uo (by rw[a6];omega) a8 (by rw[a7,e1,a3]) k0 e9;rw[e9]at Y d;rw[Bj,jn]at d;refine af Y ?_;refine ay (fW m4 _) ?_;refine vk ?_;refine vy (p:=(0:Int)=0) ?_ rfl;refine vi ?_;refine aA (2+k) (x:=row b) (by rw[JX,hb];rfl) ?_;have c5:=hT (2+k) Uo m4 Uo;rw[h5]at c5;have T:=tM hS hB hfg hr hcx hcl fb h7 (n:=m4) Uo c5;have ek:2+(k+1)=2+k+1:=Uo
   cases a4:checkS B rs cx b ty m4 with
   |error e=>
    have D:=kT hr (eJ (kg hfg _ _ _) a4);rw[a4]at T d;rw[ib,ib]at d;refine ay T ?_;refine vi ?_;exact au (k+1,.error e) ⟨Us,D,d⟩
   |ok q=>
    obtain⟨_,m5⟩:=q;have h8:=(jC hr (fC (kg hfg _ _ _) a4)).2;simp only at h8;rw[a4]at T d;rw[jn]at d;refine ay T ?_;refine vi ?_;exact au (k+1,.ok ((),m5)) ⟨Us,Us,by simp only;rw[ek];exact d⟩
 have g9:¬ (k:Int)<((x.ctors.map bA).length:Int):=g9;obtain rfl:k=x.ctors.length:=Uo
 rw[List.drop_of_length_le Uo]at d;have d:du (aP (kidD t 0) ((argsT z).drop I++[kidD t 1])) m4=L:=d;refine vn (p:=(0:Int)≠0) ?_ UO;refine aA 0 (aK wt) ?_;refine bO I (argsT z).length ?_ c4 (by show ((x.params.map λt=>[ah t]).length:Int)=_;omega) (by show (argsT z).length=(((argsT z).map row).map λt=>[ah t]).length;omega);have b4:=s6 (aC k0) (ys:=(argsT z).drop I++[kidD t 1]) (λy R=>by
  rcases List.mem_append.1 R with R|R
  ·exact aC (fz.args _ (List.mem_of_mem_drop R))
  ·obtain rfl:y=kidD t 1:=by simpa using R
   exact aC k1) (by rw[JK,VK];simp;omega)
 have eD:((((argsT z).map row).map λt=>[ah t]).take (argsT z).length).drop I=(((argsT z).drop I).map row).map rP:=by
  rw[JG Uo,<- List.map_drop,<- List.map_drop]
  rfl
 rw[eD];refine va (p:=rP) ?_ (jx _) (hb:=by simp[dp];omega);refine aA 1 (aK wt) ?_;refine bg ?_ (hb:=by simp[dp];omega);have F:VC prog 146 [ah (row (kidD t 0)),.sl ((((argsT z).drop I).map row).map rP++[rP (row (kidD t 1))])] (de (aP (kidD t 0) ((argsT z).drop I++[kidD t 1]))):=by
  rw[show [rP (row (kidD t 1))]=([kidD t 1].map row).map rP from rfl,<- KB,<- KB];exact b4
 cases e9:aP (kidD t 0) ((argsT z).drop I++[kidD t 1])with
 |error e=>
  have D:=iI e9;rw[e9]at F d;have d:(.error (e,m4):RS Tr)=L:=d;subst d;refine af F ?_;refine ay (k7 m4 (show e≠0 by omega) _) ?_;exact kP9
 |ok w=>
  rw[e9]at F d;have d:(.ok (w,m4):RS Tr)=L:=d;subst d;refine af F ?_;refine ay (fW m4 _) ?_;exact kP9
end
abbrev CxR:=List (List Nd×List Nd)
def HF(B:ak)(c:CxR)(t:List Nd)(fuel:Int):Except Int (Tr×Nat):=if lV B c t≠0 then .error (lV B c t)else mc B (vN c) (tr t) fuel
def Bz(B:ak)(c:CxR)(t ty:List Nd)(fuel:Int):Except Int (Unit×Nat):=if lV B c t≠0 then .error (lV B c t)else if lV B c ty≠0 then .error (lV B c ty)else kZ B (vN c) (tr t) (tr ty) fuel
def HG(B:ak)(c:CxR)(t:List Nd)(fuel:Int):Except Int ((Int×List Atom)×Nat):=if lV B c t≠0 then .error (lV B c t)else iy B (vN c) (tr t) fuel
def HH(B:ak)(c:CxR)(t:List Nd)(fuel:Int):Except Int (Tr×Nat):=if lV B c t≠0 then .error (lV B c t)else eg B (vN c) (tr t) fuel
section
variable{B:ak}{cx:Ctx}{t:Tr}{n g:Nat}{rs:RcS}{rc:RcJ}
variable(hS:dh B)(hR:cP B=0)(hB:GoodB B)
section
variable(hcx:CxOk B cx)(hcl:cx.length<=260)(ht:Ft (QB B) (cx.length:Int) t)(hfg:Fg rs rc)(hr:cF B rc)
include hS hR hB hcx hcl ht hfg hr
theorem Pr(a:t.n.op=11)(b:n<=100000)(hgo:qU B rs g)(c:t.n.a.toNat*5000+4096<=g)(d:∀i,i<(kidsT t).length ->∀n,n<=100000 ->dY B rs cx (kidD t i) n):eX B cx t n (smatch B rs cx t.n (kidsT t) n):=by
 unfold eX;have f:=Pq hS hR hB hcx hcl ht hfg hr a b hgo c d;have wt:=aC ht;refine aX (r:=.ok (_,_)) 379 [.tmp 6] τok func49 ?_;refine aj<|vn (p:=(0:Int)≠0) ?_ UO;refine aM 0 (aN wt) ?_;refine af (ji wt) ?_;refine vn (p:=t.n.op=1) ?_;refine vn (p:=t.n.op=2) ?_;refine vn (p:=t.n.op=4) ?_;refine vn (p:=t.n.op=5) ?_;refine vn (p:=t.n.op=6) ?_;refine vn (p:=t.n.op=7) ?_;refine vn (p:=t.n.op=8) ?_;refine vn (p:=t.n.op=9) ?_;refine vn (p:=t.n.op=10) ?_;refine vy (p:=t.n.op=11) ?_ a;refine ay f ?_;cases smatch B rs cx t.n (kidsT t) n with
 |ok q=>exact eP9
 |error e=>exact eP9
end
include hS hR hB
theorem Ps(hfg:Fg rs rc)(hr:cF B rc)(hgo:qU B rs g):qU B (qR B rs) (g+1):=λcx k t n hcx hcl ht m A b=>by
 have wt:=aC ht;have a:∀i,i<(kidsT t).length ->Mt k (kidD t i)/\k*5000+(row (kidD t i)).length<=g:=λi d=>by
  have:=m.kid (JQ (cA wt d).1);exact⟨this.1,Uo⟩
 show eX B cx t n (qR B rs cx t n);unfold qR;refine FB t ht.ok (λh=>?_) (λh=>?_) (λh=>?_) (λh=>?_) (λh=>?_) (λh=>?_) (λh=>?_) (λh=>?_) (λh=>?_) (λh=>?_) (λh=>?_)
 ·rw[KX h]
  exact Pc hB hcx hcl ht h
 ·rw[KY Uo,KX h]
  exact Pd hB hcx hcl ht h
 ·rw[KY Uo,KY Uo,KX h]
  exact Pe hB hcx hcl ht h
 ·rw[KY Uo,KY Uo,KY Uo,KX h]
  exact Pf hS hR hB hcx hcl ht h
 ·rw[KY Uo,KY Uo,KY Uo,KY Uo,KX h]
  exact Pg hS hR hB hcx hcl ht h
 ·rw[KY Uo,KY Uo,KY Uo,KY Uo,KY Uo,KX h]
  obtain⟨j,c,e⟩:=eV ht (.inl h);exact Ph hS hR hB hcx hcl ht hfg hr h b (λn b=>hgo _ k _ _ hcx hcl c (a 0 Uo).1 (a 0 Uo).2 b) λl n b=>hgo _ k _ _ (hcx.snoc c λx f=>by cases f) (by rw[bQ];omega) (by rw[bQ];exact e.mono Uo) (a 1 Uo).1 (a 1 Uo).2 b
 ·rw[KY Uo,KY Uo,KY Uo,KY Uo,KY Uo,KY Uo,KX h]
  obtain⟨j,c,e⟩:=eV ht (.inr h);exact Pj hS hR hB hcx hcl ht hfg hr h b (λn b=>hgo _ k _ _ hcx hcl c (a 0 Uo).1 (a 0 Uo).2 b) λl n b=>hgo _ k _ _ (hcx.snoc c λx f=>by cases f) (by rw[bQ];omega) (by rw[bQ];exact e.mono Uo) (a 1 Uo).1 (a 1 Uo).2 b
 ·rw[KY Uo,KY Uo,KY Uo,KY Uo,KY Uo,KY Uo,KY Uo,KX h]
  obtain⟨j,c,e⟩:=sG ht h;exact Pk hS hR hB hcx hcl ht hfg hr h b (λn b=>hgo _ k _ _ hcx hcl c (a 0 Uo).1 (a 0 Uo).2 b) λn b=>hgo _ k _ _ hcx hcl e (a 1 Uo).1 (a 1 Uo).2 b
 ·rw[KY Uo,KY Uo,KY Uo,KY Uo,KY Uo,KY Uo,KY Uo,KY Uo,KX h]
  obtain⟨j,c,e,p⟩:=o9 ht h;exact Pm hS hR hB hcx hcl ht hfg hr h b (λn b=>hgo _ k _ _ hcx hcl c (a 0 Uo).1 (a 0 Uo).2 b) (λn b=>hgo _ k _ _ hcx hcl e (a 1 Uo).1 (a 1 Uo).2 b) λl n b=>hgo _ k _ _ (hcx.snoc c λx f=>by injection f with f;rw[<- f];exact e) (by rw[bQ];omega) (by rw[bQ];exact p.mono Uo) (a 2 Uo).1 (a 2 Uo).2 b
 ·rw[KY Uo,KY Uo,KY Uo,KY Uo,KY Uo,KY Uo,KY Uo,KY Uo,KY Uo,KX h]
  obtain⟨q,r,s,u⟩:=sJ ht h;have v:=(kQ hB (kA ht.node' (.inr h))).1;have y:t.n.a<(k:Int):=m t.n (JQ (aN wt)) h;have:=aR t;exact Pr hS hR hB hcx hcl ht hfg hr h b hgo Uo λi d n b=>hgo _ k _ _ hcx hcl (u _ (JQ (cA wt d).1)) (a i d).1 (a i d).2 b
 ·rw[KY Uo,KY Uo,KY Uo,KY Uo,KY Uo,KY Uo,KY Uo,KY Uo,KY Uo,KY Uo]
  obtain⟨q,r,s,_⟩:=dZ ht.ok h;have z:=gu ht.ok h;have o:(cx++bv t).length=cx.length+t.n.b.toNat:=by rw[JK,qp]
  exact Po hS hR hB hcx hcl ht hfg hr h b (λi d n b=>hgo _ k _ _ hcx hcl (iL ht h d).2.2.1 (a _ Uo).1 (a _ Uo).2 b) λl i d n b=>hgo _ k _ _ (pb hcx Uo ht h) Uo ((iL ht h d).2.2.2.mono Uo) (a _ Uo).1 (a _ Uo).2 b
theorem typV:∀g,qU B (inferS B g) g
 |0=>λcx k t n _ _ _ _ h _=>by
  have:=aR t;omega
 |g+1=>Ps hS hR hB (bS' g) (dj hB g) (typV g)
end
theorem Pt(n:Int):min (max n 0) 100000=((bK n:Nat):Int):=by
 unfold bK;omega
theorem BA{B:ak}(n:Int):VN prog 27 [bk B,pI n] 97 (cB B (bK n:Nat) 0):=by
 have a:=OI n;rw[Pt]at a;refine K1 10 [.tmp 4] τok func27 ?_;refine aj ?_;refine af a ?_;refine vk ?_;exact⟨_,_,rfl,rfl,rfl⟩
def BB(r:Except Int (Tr×Nat)):PV:=match r with
 | .ok q=>.tup [ah (row q.1),pI q.2,pI 0]
 | .error e=>.tup [.sl [],pI 0,pI e]
theorem wk':VD prog 121 .returning [0,1] [] []:=by
 refine zv ⟨_,func121,rfl,UO⟩ λj d w=>?_;obtain⟨k,l,rfl⟩:=ya d;refine callsD_of_wpS func121 rfl λa m b=>?_;apply wpS_seq;apply wpS_region;simp[wpOpsS,go_sem,recoverD,b,Exit.thenS,Instr.typeAssert,underlying177,Tryz.zeroValue177];refine wpS_of_wp (Go.wp_mono (nw τok (n:=12) _ ⟨[(3,.bool false)],[]⟩ _ (λe s c=>e= .normal/\s.d=[]/\Kp [] w c) ?_ _ (oO Ud rfl Ud)) ?_)
 ·exact⟨rfl,rfl,Kp.alloc _ _⟩
 rintro e o c ⟨s,f,rfl,h,i⟩;exact ue f h rfl b ⟨⟨_,rfl⟩,rfl,i⟩
def BC(x y:PV):List (Nat×SE):=[(0,.st 1 3 [.p x]),(1,.st 2 29 [.p y])]
theorem BE(er:Int){x y:PV}:VD prog 121 (.panicking (fd er)) [0,1] (BC x y) (BC (pI 0) (pI er)):=by
 refine⟨⟨_,func121,rfl,UO⟩,λw X C ρ hR=>?_⟩;refine callsD_of_wpS func121 rfl λb j c=>?_;apply wpS_seq;apply wpS_region;simp[wpOpsS,go_sem,recoverD,c,Exit.thenS,Instr.typeAssert,underlying177,Tryz.zeroValue177];refine wpS_of_wp (Go.wp_mono (zw (n:=12) (m2:=BC (pI 0) (pI er)) (q:=2) (p:=3) (k:=2) hR (aj ?_) (oO Ud rfl (by simp[ini]))) ?_)
 ·refine vk ?_
  exact⟨rfl,rfl,rfl,trivial⟩
 rintro e l m ⟨rfl,s,d,f,h,a,i⟩;exact xB d f rfl ⟨⟨_,rfl⟩,rfl,h,a,i⟩
section
variable{B:ak}{cx:Ctx}(hI:BoI B)(hB:GoodB B)(hcx:CxOk B cx)(hcl:cx.length<=260)
include hI hB hcx hcl
def tN(g:Nat)(cx:Ctx)(t:Tr)(y:PV):List (Nat×SE):=[(100,.st g 89 [.p (aO (cx.map aE))]),(101,.st (g+1) 39 [.p (ah (row t))]),(102,.st (g+2) 39 [.p y])]
theorem Pu{t:Tr}(ht:Ft (QB B) (cx.length:Int) t){n:Nat}(d:n<=100000){y:PV}:match eu B GJ cx t n with
  | .ok q=>VG prog 76 [.c (.ptr 0 0),.c (.ptr 100 0),.c (.ptr 101 0),.c (.ptr 102 0)] ((0,.st 1 180 ((dW B n).map .p))::tN 2 cx t y) (.ok (.c (.p (.tup [])),(0,.st 1 180 ((dW B q.2).map .p))::tN 2 cx t (ah (row q.1))))
  | .error e=>VG prog 76 [.c (.ptr 0 0),.c (.ptr 100 0),.c (.ptr 101 0),.c (.ptr 102 0)] ((0,.st 1 180 ((dW B n).map .p))::(tN 2 cx t y).take 2) (.error (fd e)):=by
 have h:=ht.len;have f:=yj';have a:=jgG hI hB GJ cx 64 t n hcx hcl ht (wD hB ht) Uo d;unfold bS at a;cases hr:eu B GJ cx t n with
 |error e=>
  refine cQ 10 [] τok func76 ?_;refine aj ?_;rw[hr]at a;refine cH a ?_;exact rfl
 |ok q=>
  refine cQ 10 [] τok func76 ?_;refine aj ?_;rw[hr]at a;have b:=(dj hB GJ).ft _ _ _ _ hcx hcl ht hr;refine ay a ?_;refine af (sF (aR q.1) (by have:=b.len;omega)).vc ?_;exact dA
theorem Pv{t:Tr}(ht:Ft (QB B) (cx.length:Int) t)(fuel:Int){y:PV}:VG prog 75 [.c (.p (bk B)),.c (.p (pI fuel)),.c (.fn 76 [100,101,102])] (tN 1 cx t y) (.ok (match mc B cx t fuel with
  | .ok q=>(.c (.p (.tup [pI q.2,pI 0])),tN 1 cx t (ah (row q.1)))
  | .error e=>(.c (.p (.tup [pI 0,pI e])),[(102,.st 3 39 [.p y])]))):=by
 have b:min (max fuel 0) 100000=((bK fuel:Nat):Int):=by unfold bK;omega
 have a:=Pu hI hB hcx hcl ht (qD fuel) (y:=y);unfold mc
 generalize eu B GJ cx t (bK fuel)=r at a ⊢
 rcases r with e|q
 all_goals
  refine sB 23 [.cell 6 3,.cell 7 29] τok func75 ?_;refine aj<|⟨⟨rfl,rfl,rfl⟩,rfl,λd=>?_⟩;refine aj ?_
  first
   |refine mG (λk=>sw 0 15 k) a ?_ (he:=by rw[b];repeat first|exact VQ|refine And.intro rfl ?_)
    refine kM (λk=>k+6) (λ_=>0) (BE e) ?_;exact dA
   |refine aZ (λk=>sw 0 15 k) (λk=>k-99) a ?_ (he:=by rw[b];repeat first|exact VQ|refine And.intro rfl ?_)
    refine kM (λk=>k+6) (λ_=>0) wk' ?_;exact dA
theorem Pw{t:Tr}(ht:Ft (QB B) (cx.length:Int) t)(fuel:Int):VC prog 43 [bk B,aO (cx.map aE),ah (row t),pI fuel] (BB (mc B cx t fuel)):=by
 have a:=Pv hI hB hcx hcl ht fuel (y:=.raw (.slice none 0 0))
 generalize mc B cx t fuel=r at a ⊢
 rcases r with e|q
 all_goals
  refine vf 24 [.tmp 8,.tmp 9,.tmp 10] τok func43 ?_;refine aZ (λk=>sw 100 5 (sw 101 6 (sw 102 11 k))) (λ_=>0) a ?_;exact aF
end
def Px(B:ak)(a:Int)(fuel:Int):Except Int (Bool×Nat):=jZ B (eu B GJ) a (bK fuel)
def IG'(B:ak)(a:Int)(fuel:Int):Except Int (Bool×Nat):=if cP B≠0 then .error (cP B)else if bF B B.ents.length a=true then Px B a fuel else .error 1
def tO(r:Except Int (Unit×Nat)):PV:=match r with
 | .ok q=>.tup [pI q.2,pI 0]
 | .error e=>.tup [pI 0,pI e]
def Py(r:Except Int ((Int×List Atom)×Nat)):PV:=match r with
 | .ok q=>.tup [pI q.1.1,cw q.1.2,pI q.2,pI 0]
 | .error e=>.tup [pI 0,.sl [],pI 0,pI e]
def siP(r:Except Int (Bool×Nat)):PV:=match r with
 | .ok q=>.tup [.bool q.1,pI q.2,pI 0]
 | .error e=>.tup [.bool false,pI 0,pI e]
def BF(g:Nat)(cx:Ctx)(t ty:Tr):List (Nat×SE):=[(100,.st g 89 [.p (aO (cx.map aE))]),(101,.st (g+1) 39 [.p (ah (row t))]),(102,.st (g+2) 39 [.p (ah (row ty))])]
def tP(g:Nat)(cx:Ctx)(t:Tr)(y z:PV):List (Nat×SE):=[(100,.st g 89 [.p (aO (cx.map aE))]),(101,.st (g+1) 39 [.p (ah (row t))]),(102,.st (g+2) 3 [.p y]),(103,.st (g+3) 100 [.p z])]
def siC(g:Nat)(a:Int)(y:PV):List (Nat×SE):=[(100,.st g 3 [.p (pI a)]),(101,.st (g+1) 4 [.p y])]
section
variable{B:ak}(hI:BoI B)(hB:GoodB B)
include hI hB
variable{cx:Ctx}(hcx:CxOk B cx)(hcl:cx.length<=260)
include hcx hcl
theorem Pz{t ty:Tr}(ht:Ft (QB B) (cx.length:Int) t)(b:Ft (QB B) (cx.length:Int) ty){n:Nat}(d:n<=100000):match dU B (eu B GJ) cx t ty n with
  | .ok q=>VG prog 144 [.c (.ptr 0 0),.c (.ptr 100 0),.c (.ptr 101 0),.c (.ptr 102 0)] ((0,.st 1 180 ((dW B n).map .p))::BF 2 cx t ty) (.ok (.c (.p (.tup [])),[(0,.st 1 180 ((dW B q.2).map .p))]))
  | .error e=>VG prog 144 [.c (.ptr 0 0),.c (.ptr 100 0),.c (.ptr 101 0),.c (.ptr 102 0)] ((0,.st 1 180 ((dW B n).map .p))::BF 2 cx t ty) (.error (fd e)):=by
 have h:=ht.len;have f:=yj';have a:=tj hI hB hcx hcl (dj hB GJ) ht b (jgG hI hB GJ cx 64 t n hcx hcl ht (wD hB ht) Uo d);cases hr:dU B (eu B GJ) cx t ty n with
 |error e=>
  rw[hr]at a;refine cQ 10 [] τok func144 ?_;refine aj<|cH a ?_;exact rfl
 |ok q=>
  rw[hr]at a;refine cQ 10 [] τok func144 ?_;refine aj<|ay a ?_;exact dA
theorem PA{t ty:Tr}(ht:Ft (QB B) (cx.length:Int) t)(a:Ft (QB B) (cx.length:Int) ty)(fuel:Int):VG prog 75 [.c (.p (bk B)),.c (.p (pI fuel)),.c (.fn 144 [100,101,102])] (BF 1 cx t ty) (.ok (.c (.p (tO (kZ B cx t ty fuel))),[])):=by
 have d:min (max fuel 0) 100000=((bK fuel:Nat):Int):=by unfold bK;omega
 have b:=Pz hI hB hcx hcl ht a (qD fuel);unfold kZ
 generalize dU B (eu B GJ) cx t ty (bK fuel)=r at b ⊢
 rcases r with e|q
 all_goals
  refine sB 23 [.cell 6 3,.cell 7 29] τok func75 ?_;refine aj<|⟨⟨rfl,rfl,rfl⟩,rfl,λf=>?_⟩;refine aj ?_
  first
   |refine mG (λk=>sw 0 15 k) b ?_ (he:=by rw[d];repeat first|exact VQ|refine And.intro rfl ?_)
    refine kM (λk=>k+6) (λ_=>0) (BE e) ?_;exact .inl ⟨_,_,_,id,rfl,rfl,rfl,rfl,trivial,rfl⟩
   |refine aZ (λk=>sw 0 15 k) (λk=>k-99) b ?_ (he:=by rw[d];repeat first|exact VQ|refine And.intro rfl ?_)
    refine kM (λk=>k+6) (λ_=>0) wk' ?_;exact .inl ⟨_,_,_,id,rfl,rfl,rfl,rfl,trivial,rfl⟩
theorem PB{t ty:Tr}(ht:Ft (QB B) (cx.length:Int) t)(a:Ft (QB B) (cx.length:Int) ty)(fuel:Int):VC prog 84 [bk B,aO (cx.map aE),ah (row t),ah (row ty),pI fuel] (tO (kZ B cx t ty fuel)):=by
 have b:=PA hI hB hcx hcl ht a fuel
 generalize kZ B cx t ty fuel=r at b ⊢
 rcases r with e|q
 all_goals
  refine vf 18 [.tmp 10,.tmp 11] τok func84 ?_;refine aZ (λk=>sw 100 6 (sw 101 7 (sw 102 8 k))) (λ_=>0) b ?_;exact aF
theorem PC{t:Tr}(ht:Ft (QB B) (cx.length:Int) t){n:Nat}(b:n<=100000){y z:PV}:match dD B (eu B GJ) cx t n with
  | .ok q=>VG prog 181 [.c (.ptr 0 0),.c (.ptr 100 0),.c (.ptr 101 0),.c (.ptr 102 0),.c (.ptr 103 0)] ((0,.st 1 180 ((dW B n).map .p))::tP 2 cx t y z) (.ok (.c (.p (.tup [])),(0,.st 1 180 ((dW B q.2).map .p))::tP 2 cx t (pI q.1.1) (cw q.1.2)))
  | .error e=>VG prog 181 [.c (.ptr 0 0),.c (.ptr 100 0),.c (.ptr 101 0),.c (.ptr 102 0),.c (.ptr 103 0)] ((0,.st 1 180 ((dW B n).map .p))::(tP 2 cx t y z).take 2) (.error (fd e)):=by
 have f:=ht.len;have d:=yj';have a:=pj hI hB hcx hcl (dj hB GJ) ht (jgG hI hB GJ cx 64 t n hcx hcl ht (wD hB ht) Uo b);cases hr:dD B (eu B GJ) cx t n with
 |error e=>
  rw[hr]at a;refine cQ 13 [] τok func181 ?_;refine aj<|cH a ?_;exact rfl
 |ok q=>
  rw[hr]at a;refine cQ 13 [] τok func181 ?_;refine aj<|ay a ?_;exact dA
theorem PD{t:Tr}(ht:Ft (QB B) (cx.length:Int) t)(fuel:Int){y z:PV}:VG prog 75 [.c (.p (bk B)),.c (.p (pI fuel)),.c (.fn 181 [100,101,102,103])] (tP 1 cx t y z) (.ok (match iy B cx t fuel with
  | .ok q=>(.c (.p (.tup [pI q.2,pI 0])),tP 1 cx t (pI q.1.1) (cw q.1.2))
  | .error e=>(.c (.p (.tup [pI 0,pI e])),[(102,.st 3 3 [.p y]),(103,.st 4 100 [.p z])]))):=by
 have b:min (max fuel 0) 100000=((bK fuel:Nat):Int):=by unfold bK;omega
 have a:=PC hI hB hcx hcl ht (qD fuel) (y:=y) (z:=z);unfold iy
 generalize dD B (eu B GJ) cx t (bK fuel)=r at a ⊢
 rcases r with e|q
 all_goals
  refine sB 23 [.cell 6 3,.cell 7 29] τok func75 ?_;refine aj<|⟨⟨rfl,rfl,rfl⟩,rfl,λd=>?_⟩;refine aj ?_
  first
   |refine mG (λk=>sw 0 15 k) a ?_ (he:=by rw[b];repeat first|exact VQ|refine And.intro rfl ?_)
    refine kM (λk=>k+6) (λ_=>0) (BE e) ?_;exact dA
   |refine aZ (λk=>sw 0 15 k) (λk=>k-99) a ?_ (he:=by rw[b];repeat first|exact VQ|refine And.intro rfl ?_)
    refine kM (λk=>k+6) (λ_=>0) wk' ?_;exact dA
theorem PE{t:Tr}(ht:Ft (QB B) (cx.length:Int) t)(fuel:Int):VC prog 140 [bk B,aO (cx.map aE),ah (row t),pI fuel] (Py (iy B cx t fuel)):=by
 have a:=PD hI hB hcx hcl ht fuel (y:=pI 0) (z:=.raw (.slice none 0 0))
 generalize iy B cx t fuel=r at a ⊢
 rcases r with e|q
 all_goals
  refine vf 23 [.cell 8 3,.cell 9 100,.tmp 10,.tmp 11] τok func140 ?_;refine aZ (λk=>sw 100 5 (sw 101 6 (sw 102 8 (sw 103 9 k)))) (λ_=>0) a ?_;exact kA9
end
def mj(B:ak)(en n er:Int):List PV:=[.int .i64 B.vars,.sl (B.orders.map orP),.sl (B.ents.map bI),.int .i64 B.nat,.sl (B.prims.map prP),pI en,pI n,pI er]
def ki(B:ak)(en:Int)(cx:Ctx)(n er:Int):List (Nat×SE):=[(0,.st 1 91 [.ptr 1 0,.p (aO (cx.map aE))]),(1,.st 2 65 ((mj B en n er).map .p))]
theorem pu(B:ak)(en n er left e:Int):VP prog 44 65 (mj B en n er) (mj B en left e) [pI left,pI e] (.bool (decide (e=0))):=by
 refine aX (r:=.ok (_,_)) 17 [.tmp 6] τok func44 ?_;refine aj<|ae (λh=>?_) (λh=>?_)
 ·have h:e=0:=h
  exact⟨_,_,_,rfl,rfl,cy (KU h).symm,rfl,rfl⟩
 ·have h:¬ e=0:=h
  exact⟨_,_,_,rfl,rfl,cy (KH h).symm,rfl,rfl⟩
theorem wU(B:ak)(en n er e:Int)(he:e≠0):VP prog 82 65 (mj B en n er) (mj B en 0 e) [pI e] (.bool false):=by
 have h:=pu B en n er 0 e;rw[KH he]at h;refine aX (r:=.ok (_,_)) 8 [.tmp 4] τok func82 ?_;refine aj<|ay h ?_;exact eP9
theorem PF{x:Tr}(e:Ok .tm x)(d:(row x).length<=4096)(h2:x.n.op=2):VC prog 81 [ah (row x)] (cw (bq x)):=by
 have hr:=iH e;have a:kidsT x=[]:=by unfold kidsT;cases x;exact KX h2
 have f:atmsT x=x.ks.map (·.n):=by unfold atmsT;rw[KX h2]
 rw[a,f]at hr;simp only[cj,JD]at hr;have b:=KG List.length hr;simp only[JV,KF]at b;have m:=aq ndP (row x);have h:(((row x).map ndP).take (row x).length).drop 1=(x.ks.map (·.n)).map ndP:=by
  rw[JG Uo,hr]
  rfl
 have o:=aq ndP (x.ks.map (·.n));have p:=aq (λk:Tr=>k.n) x.ks;refine vf 23 [.tmp 2] τok func81 ?_;refine bO 1 (row x).length ?_ (λy i=>by
  obtain⟨_,_,rfl⟩:=List.mem_map.1 i
  rfl)
 rw[h];refine dK 3 1000 154 2 rfl rfl<|aB τok (σ:=Nat) [(7,_),(8,_)] [] (λj=>[(3,.c (.row 1000)),(9,vI j)]) (λj=>[(1000,.rw 154 2 (((bq x).take j).map atP))]) (λj=>j<=x.ks.length) (λj=>x.ks.length-j) 0 (KV _) ?_;intro j q;refine aj<|ae (λg=>?_) (λg=>?_)
 ·have g:(j:Int)<(((x.ks.map (·.n)).map ndP).length:Int):=g
  obtain⟨k,a,_⟩:=az (l:=x.ks) (k:=j);refine aM j (x:=k.n) (by rw[JX,a];rfl) ?_;refine bg ?_ (hb:=Uk);refine vi ?_;exact au (j+1) (by show j+1<=_;omega) (sw 1000 20) (y':=⟨KG (λl=>some (SE.rw _ _ l)) (by
   rw[QQ,KB];unfold bq;rw[JX,a]
   rfl),trivial⟩)
 ·have g:¬ (j:Int)<(((x.ks.map (·.n)).map ndP).length:Int):=g
  rw[JG (by simp[bq];omega)];exact aF
theorem HI(cx:Ctx)(x:Tr)(o:Option Tr):(cx.map aE).map bdP++[[ah (row x),ah (qA' o)]]=((cx++[(x,o)]).map aE).map bdP:=by simp[aE,bdP]
section
variable{B:ak}(hI:BoI B)(hB:GoodB B){en:Int}{cx:Ctx}
include hI hB
theorem HJ(hcx:CxOk B cx)(hcl:cx.length<=260){x:Tr}(d:Ft (QB B) (cx.length:Int) x)(n:Nat):VG prog 78 [.c (.ptr 0 0),.c (.p (ah (row x)))] (ki B en cx n 0) (.ok (match iy B cx x (n:Int)with
  | .ok q=>(.c (.p (.tup [cw q.1.2,.bool true])),ki B en cx q.2 0)
  | .error e=>(.c (.p (.tup [.sl [],.bool false])),ki B en cx 0 e))):=by
 have b:=PE hI hB hcx hcl d (n:Int);have a:∀e,iy B cx x (n:Int)= .error e ->e≠0:=λe h=>ir (dj hB GJ) h
 generalize iy B cx x (n:Int)=r at b a ⊢
 refine cQ 43 [.tmp 4,.tmp 5] τok func78 ?_;refine aj ?_;cases r with
 |error e=>
  have h:=pu B en n 0 0 e;rw[KH (a e rfl)]at h;refine af b ?_;refine vk ?_;refine ay h ?_;exact dA
 |ok q=>
  refine af b ?_;refine vk ?_;refine ay (pu B en n 0 q.2 0) ?_;exact dA
def HK(B:ak)(en:Int)(r:Except Int (Ctx×Nat)):AV×List (Nat×SE):=match r with
 | .ok q=>(.c (.p (.bool true)),ki B en q.1 q.2 0)
 | .error e=>(.c (.p (.bool false)),[(1,.st 2 65 ((mj B en 0 e).map .p))])
theorem HL{ys:List Tr}(hcx:CxOk B cx)(hcl:cx.length+ys.length<=260)(h:∀(i:Nat) y,ys[i]?=some y ->Ft (QB B) ((cx.length+i:Nat):Int) y)(n:Nat):VG prog 45 [.c (.ptr 0 0),.c (.p (bG (ys.map row)))] (ki B en cx n 0) (.ok (HK B en (gn B ys cx n))):=by
 have A:=aq rP (ys.map row);have s:=aq row ys;generalize a:gn B ys cx n=b;refine cQ 36 [.tmp 4] τok func45 ?_;refine aj ?_;refine aB τok (σ:=Nat×Ctx×Nat) [(0,_),(9,_),(10,_)] [] (λq=>[(11,vI q.1)]) (λq=>ki B en q.2.1 q.2.2 0) (λq=>q.1<=ys.length/\gn B (ys.drop q.1) q.2.1 q.2.2=b/\CxOk B q.2.1/\q.2.1.length=cx.length+q.1) (λq=>ys.length-q.1) (0,cx,n) ⟨KV _,a,hcx,rfl⟩ ?_
 clear a
 rintro⟨i,c,n⟩ ⟨u,hr,j,m⟩;simp only at u hr j m;have eC:=aq bdP (c.map aE);have v:=aq aE c;refine aD ?_;refine ae (λg=>?_) (λg=>?_);rotate_left
 ·have g:¬ (i:Int)<(((ys.map row).map rP).length:Int):=g
  rw[JY (by omega)]at hr;subst hr;refine aj ?_;exact dA
 have g:(i:Int)<(((ys.map row).map rP).length:Int):=g;obtain⟨y,o,z⟩:=az (l:=ys) (k:=i);have d:=h i y o;rw[<- m]at d;rw[z]at hr;simp only[gn]at hr;have f:=HJ hI hB (en:=en) j (by omega) d n;refine aD ?_;refine aD ?_;refine aA i (x:=row y) (by rw[JX,o];rfl) ?_;cases r:iy B c y (n:Int)with
 |error e=>
  rw[r]at f hr;have hr:.error e=b:=hr;subst hr;refine aZ id (λk=>k+1) f ?_;exact dA
 |ok q=>
  rw[r]at f hr;have hr:gn B (ys.drop (i+1)) (c++[(y,none)]) q.2=b:=hr;refine aZ id (λk=>k+1) f ?_;refine aZ id (λ_=>0) (AO _) ?_;refine⟨⟨Nat.one_pos,tf _⟩,bg ?_ (hb:=by simp;omega)⟩;refine mN 0 1 32 ?_;refine aj ?_;refine vi ?_;exact au (i+1,c++[(y,none)],q.2) ⟨by simp only;omega,hr,j.snoc d (by simp),by simp;omega⟩ (y':=⟨KG (λl=>some (SE.st 1 91 [.ptr 1 0,.p (.sl l)])) (HI c y none),rfl,trivial⟩)
end
theorem PG{x:Tr}(i:Ok .tm x)(k:dR x){b n f:Int}(l:0<=b)(hb:b<=500000)(h:Bl x n):Bl (aG x b f) (n+b):=by
 have:=uo (h:=fE b f) (M:=n+b) (λd m y e c a=>xv l a c e) x .tm 0 0 _ i.1 (λq j m c a o z e=>by
  have j:=h q j;simp only[fE]at e;split at e
  ·split at e
   ·cases e
   ·obtain rfl:=JB e
    intro p a;simp only[varsT,c,if_true,JJ,JZ,or_false]at a;subst a;simp only;omega
  ·obtain rfl:=JB e
   intro p a;simp only[varsT,c,if_true,JJ,JZ,or_false]at a;subst a;simp only;omega) (ms i k hb)
 exact this
theorem Ft.liftF{Q:Nd ->Prop}{N:Int}{x:Tr}(d:Qk Q)(h:Ft Q N x)(a:N<=100000){b f:Int}(c:0<=b)(hb:b<=500000):Ft Q (N+b) (aG x b f):=
 ⟨ug h.ok (h.small a) c hb,KQ (ui h.ok (h.small a) hb) h.len,PG h.ok (h.small a) c hb h.bl,xJ d.var h.ok (h.small a) hb h.al⟩
theorem HM{Q:Nd ->Prop}(c:Qk Q){N:Nat}{go:List Tr}(o:N<=100)(hgo:∀y∈go,Ft Q (N:Int) y):∀(m:Nat) (t z:Tr),m<=go.length ->m<=16 ->Ft Q ((N+m:Nat):Int) t ->jG go m t= .ok z ->Ft Q (N:Int) z
 |0,t,z,_,_,ht,h=>by
  simp only[jG,Except.ok.injEq]at h;subst h;exact ht
 |m+1,t,z,hm,p,ht,h=>by
  simp only[jG]at h;obtain⟨y,j,_⟩:=az (l:=go) (k:=m);have d:go.getD m (varX 0)=y:=by simp[j]
  rw[d]at h;have q:=hgo y (JQ j);have f:Ft Q ((N+m:Nat):Int) (aG y (m:Int) 0):=by
   have:=q.lift c Uo (b:=(m:Int)) Uo Uo
   rwa [show (N:Int)+(m:Int)=((N+m:Nat):Int) by omega]at this
  cases i:bh t (aG y (m:Int) 0) 0 with
  |error e=>rw[i]at h;cases h
  |ok r=>
   rw[i]at h;have a:=gQ c (N:=((N+m:Nat):Int)) (v:=0) (ht.mono Uo) f Uo Uo Uo Uo i;rw[Int.add_zero]at a;exact HM c o hgo m r z Uo Uo a h
theorem HN{go:List Tr}:∀(m:Nat) (t:Tr) (e:Int),jG go m t= .error e ->e≠0
 |0,t,e,h=>by cases h
 |m+1,t,e,h=>by
  simp only[jG]at h;cases a:bh t (aG (go.getD m (varX 0)) (m:Int) 0) 0 with
  |error c=>
   have:=gY a;rw[a]at h;cases h;omega
  |ok b=>
   rw[a]at h;exact HN m b e h
theorem HO{a go:List Tr}{b j:Nat}{e:Int}(h:iS a go b j= .error e):e≠0:=HN _ _ _ h
structure CtG(B:ak)(en:Int)(qi ga go:List Tr)(np:Nat)(c:dy):Prop where
 hnp:np<=16
 hna:ga.length<=16
 hqi:∀(k:Nat) y,qi[k]?=some y ->Ft (QB B) ((np+k:Nat):Int) y
 hgo:∀y∈go,Ft (QB B) ((np+ga.length:Nat):Int) y
 hql:qi.length<=16
 hlo:go.length=qi.length
 hei:(ax B en).indices=qi.map row
 hqM:fq B en=qi
 hca:c.args=ga.map row
 hco:c.out=go.map row
theorem CtG.ft{B:ak}{en:Int}{d a go:List Tr}{np:Nat}{c:dy}(h:CtG B en d a go np c){j:Nat}(k:j<d.length):Ft (QB B) ((np+a.length+j:Nat):Int) (aG (d.getD j (varX 0)) (a.length:Int) (j:Int)):=by
 obtain⟨y,i,_⟩:=az k;have e:d.getD j (varX 0)=y:=by simp[i]
 have l:=h.hnp;have m:=h.hna;have o:=h.hql;rw[e];have:=(h.hqi j y i).liftF (qk B) Uo (b:=(a.length:Int)) (f:=(j:Int)) Uo Uo
 rwa [show ((np+j:Nat):Int)+(a.length:Int)=((np+a.length+j:Nat):Int) by omega]at this
theorem CtG.made{B:ak}{en:Int}{b a go:List Tr}{np:Nat}{c:dy}(h:CtG B en b a go np c){j:Nat}(d:j<b.length){z:Tr}(e:iS b go a.length j= .ok z):Ft (QB B) ((np+a.length:Nat):Int) z:=by
 have f:=h.hnp;have i:=h.hna;have k:=h.hql;have l:=h.hlo;exact HM (qk B) (N:=np+a.length) Uo h.hgo j _ z Uo Uo (h.ft d) e
theorem PH{B:ak}{en:Int}{u d go:List Tr}{np:Nat}{c:dy}(h:CtG B en u d go np c){j:Nat}(P:j<u.length):VC prog 83 [.agg (bI (ax B en)),.agg (bA c),pI j] (de (iS u go d.length j)):=by
 have h1:=h.hnp;have h2:=h.hna;have h3:=h.hql;have h4:=h.hlo;have U:=KG List.length h.hei;have V:=KG List.length h.hca;have W:=KG List.length h.hco;rw[KF]at U V W;have eA:=aq rP c.args;have eO:=aq rP c.out;obtain⟨f,a⟩:∃r,iS u go d.length j=r:=⟨_,rfl⟩
 have R:=h.ft P;rw[a];unfold iS at a;obtain⟨y,F,_⟩:=az P;have I:u.getD j (varX 0)=y:=by simp[F]
 rw[I]at a R;have s:=h.hqi j y F;refine vf 55 [.tmp 6,.tmp 7] τok func83 ?_;refine aA j (x:=row y) (by rw[h.hei,JX,F];rfl) ?_;have X:=qL (ES s.ok (s.small Uo) s.len (by_:=((c.args.map rP).length:Int)) (fr:=(j:Int)) Uo Uo) (r':=.tup [ah (row (aG y (d.length:Int) (j:Int))),pI 0]) (by rw[show ((c.args.map rP).length:Int)=(d.length:Int) by omega]);refine af X ?_;refine vk ?_;refine vi ?_;refine aB τok (σ:=Int×Except Int Tr) [(3,_),(4,_)] [(3,_),(4,_)] (λq=>match q.2 with
  | .ok t=>[(8,.c (.p (ah (row t)))),(9,vI 0),(10,vI q.1)]
  | .error e=>[(8,.c (.p (.sl []))),(9,vI e),(10,vI q.1)]) (λ_=>[]) (λq=>-1<=q.1/\q.1<16/\match q.2 with
  | .ok t=>∃m:Nat,q.1=(m:Int)-1/\m<=u.length/\Ft (QB B) ((np+d.length+m:Nat):Int) t/\jG go m t=f
  | .error e=>e≠0/\ .error e=f) (λq=>(q.1+1).toNat) ((j:Int)-1,.ok (aG y (d.length:Int) (j:Int))) ⟨Us,Us,j,rfl,Uo,R,a⟩ ?_
 clear a
 rintro⟨i,r⟩ ⟨K,L,hr⟩;simp only at K L hr;refine aj ?_;cases r with
 |error e=>
  obtain⟨Y,hr⟩:=hr;subst hr;refine ae (λg=>?_) (λg=>?_)
  ·refine vn (p:=e=0) ?_ Y
   exact aF
  ·exact aF
 |ok t=>
  obtain⟨m,hm,Z,S,hr⟩:=hr;refine ae (λg=>?_) (λg=>?_);rotate_left
  ·have g:¬ i≥0:=g
   obtain rfl:m=0:=Uo
   have hr:.ok t=f:=hr;subst hr;exact aF
  have g:i≥0:=g;obtain⟨m,rfl⟩:∃k,m=k+1:=⟨m-1,Uo⟩
  obtain rfl:i=(m:Int):=Uo
  refine vy (p:=(0:Int)=0) ?_ rfl;obtain⟨z,M,_⟩:=az (l:=go) (k:=m);have O:go.getD m (varX 0)=z:=by simp[M]
  have A:=h.hgo z (JQ M);simp only[jG]at hr;rw[O]at hr;have C:Ft (QB B) ((np+d.length+m:Nat):Int) (aG z (m:Int) 0):=by
   have:=A.lift (qk B) Uo (b:=(m:Int)) Uo Uo
   rwa [show ((np+d.length:Nat):Int)+(m:Int)=((np+d.length+m:Nat):Int) by omega]at this
  refine aA m (x:=row z) (by rw[h.hco,JX,M];rfl) ?_;refine af (kO A Uo Uo) ?_;refine vy (p:=(0:Int)=0) ?_ rfl;have E:=nX (x:=t) (v:=0) (S.mono Uo) C Uo Uo;cases o:bh t (aG z (m:Int) 0) 0 with
  |error e=>
   rw[o]at E hr;have hr:.error e=f:=hr;refine af E ?_;refine vi ?_;exact au ((m:Int)-1,.error e) ⟨Us,Us,gY o▸by decide,hr⟩
  |ok T=>
   rw[o]at E hr;have hr:jG go m T=f:=hr;have D:=gQ (qk B) (N:=((np+d.length+m:Nat):Int)) (v:=0) (S.mono Uo) C Uo Uo Uo Uo o;rw[Int.add_zero]at D;refine af E ?_;refine vi ?_;exact au ((m:Int)-1,.ok T) ⟨Us,Us,m,rfl,Uo,D,hr⟩
section
variable{B:ak}(hI:BoI B)(hS:dh B)(hB:GoodB B){en:Int}{cx:Ctx}
include hI hS hB
theorem PI(hcx:CxOk B cx){ys:List Tr}(P:ys.length<=16)(L:cx.length<=16)(A:∀(i:Nat) y,ys[i]?=some y ->Ft (QB B) ((cx.length+i:Nat):Int) y){s:Tr}(v:Ft (QB B) 0 s)(j:s.n.op=2)(m:(ax B en).sort=row s)(C:0<=en/\en<B.ents.length)(hnp:(ax B en).params.length<=16/\(ax B en).indices.length<=16){c:dy}(hca:c.args=ys.map row)(n:Nat):VG prog 46 [.c (.ptr 0 0),.c (.p (.agg (bI (ax B en)))),.c (.p (.agg (bA c)))] (ki B en cx n 0) (.ok (HK B en (jl B en ys cx n))):=by
 have U:=aq rP c.args;have R:=KG List.length hca;rw[KF]at R;have o:bq (tr (ax B en).sort)=bq s:=by rw[m,iY v.ok]
 generalize f:jl B en ys cx n=h;refine cQ 93 [.tmp 6] τok func46 ?_;refine aj ?_;refine aB τok (σ:=Nat×Ctx×Nat) [(0,_),(4,_),(12,_),(13,_)] [(4,_)] (λq=>[(14,vI q.1)]) (λq=>ki B en q.2.1 q.2.2 0) (λq=>q.1<=ys.length/\jl B en (ys.drop q.1) q.2.1 q.2.2=h/\CxOk B q.2.1/\q.2.1.length=cx.length+q.1) (λq=>ys.length-q.1) (0,cx,n) ⟨KV _,f,hcx,rfl⟩ ?_
 clear f
 rintro⟨i,d,n⟩ ⟨S,hr,z,M⟩;simp only at S hr z M;have eC:=aq bdP (d.map aE);have D:=aq aE d;refine aD ?_;refine ae (λg=>?_) (λg=>?_);rotate_left
 ·have g:¬ (i:Int)<((c.args.map rP).length:Int):=g
  rw[JY (by omega)]at hr;subst hr;refine aj ?_;exact dA
 have g:(i:Int)<((c.args.map rP).length:Int):=g;obtain⟨y,N,E⟩:=az (l:=ys) (k:=i);have a:=A i y N;rw[<- M]at a;rw[E]at hr;simp only[jl]at hr;have b:=HJ hI hB (en:=en) z (by omega) a n;refine aD ?_;refine aD ?_;refine aA i (x:=row y) (by rw[hca,JX,N];rfl) ?_;cases F:iy B d y (n:Int)with
 |error e=>
  rw[F]at b hr;have hr:.error e=h:=hr;subst hr;refine aZ id (λk=>k+1) b ?_;exact dA
 |ok q=>
  rw[F]at b hr;have hr:(if gb B.vars B.orders q.1.2 (bq (tr (ax B en).sort))=false then .error 21 else if fV (ax B en).params.length (ax B en).indices.length en y (d.length:Int)=false then .error 20 else jl B en (ys.drop (i+1)) (d++[(y,none)]) q.2)=h:=hr;rw[o]at hr;obtain⟨_,_,I⟩:=jD hB (dj hB GJ) z a (n:=bK n) F;refine aZ id (λk=>k+1) b ?_;have K:=ww v.ok j;have r:=PF v.ok v.len j;rw[<- m]at r;refine af r ?_;refine af (Gy B.vars B.orders q.1.2 (bq s) (by have:=I.hi;omega) K) ?_;refine vk ?_;cases O:gb B.vars B.orders q.1.2 (bq s)with
  |false=>
   rw[KX O]at hr;subst hr;refine ay (wU B en q.2 0 21 (by decide)) ?_;exact dA
  |true=>
   rw[KY (by rw[O];decide)]at hr;have T:=qL (He hS C a (ar:=(((d.map aE).map bdP).length:Int)) (by omega) hnp) (r':=.bool (fV (ax B en).params.length (ax B en).indices.length en y (d.length:Int))) (by rw[eC,D]);refine af T ?_;refine vk ?_;cases u:fV (ax B en).params.length (ax B en).indices.length en y (d.length:Int)with
   |false=>
    rw[KX u]at hr;subst hr;refine ay (wU B en q.2 0 20 (by decide)) ?_;exact dA
   |true=>
    rw[KY (by rw[u];decide)]at hr;refine aZ id (λ_=>0) (AO _) ?_;refine⟨⟨Nat.one_pos,tf _⟩,bg ?_ (hb:=by simp;omega)⟩;refine mN 0 1 89 ?_;refine aj ?_;refine vi ?_;exact au (i+1,d++[(y,none)],q.2) ⟨by simp only;omega,hr,z.snoc a (by simp),by simp;omega⟩ (y':=⟨KG (λl=>some (SE.st 1 91 [.ptr 1 0,.p (.sl l)])) (HI d y none),rfl,trivial⟩)
def PJ(B:ak)(en:Int)(cx:Ctx)(r:Except Int (Unit×Nat)):AV×List (Nat×SE):=match r with
 | .ok q=>(.c (.p (.bool true)),ki B en cx q.2 0)
 | .error e=>(.c (.p (.bool false)),ki B en cx 0 e)
theorem PK(hcx:CxOk B cx){A d go:List Tr}{np:Nat}{c:dy}(h:CtG B en A d go np c)(hcl:cx.length=np+d.length)(n:Nat):VG prog 47 [.c (.ptr 0 0),.c (.p (.agg (bI (ax B en)))),.c (.p (.agg (bA c)))] (ki B en cx n 0) (.ok (PJ B en cx (jm B en go d.length cx go 0 n))):=by
 have P:=h.hnp;have R:=h.hna;have S:=h.hql;have T:=h.hlo;have M:=KG List.length h.hco;rw[KF]at M;have U:=aq rP c.out;generalize i:jm B en go d.length cx go 0 n=b;refine cQ 78 [.tmp 6] τok func47 ?_;refine aj<|aB τok (σ:=Nat×Nat) [(0,_),(4,_),(5,_),(12,_),(13,_)] [(4,_),(5,_)] (λq=>[(14,vI q.1)]) (λq=>ki B en cx q.2 0) (λq=>q.1<=go.length/\jm B en go d.length cx (go.drop q.1) q.1 q.2=b) (λq=>go.length-q.1) (0,n) ⟨KV _,i⟩ ?_
 clear i
 rintro⟨j,n⟩ ⟨N,hr⟩;simp only at N hr;refine aj<|ae (λg=>?_) (λg=>?_);rotate_left
 ·have g:¬ (j:Int)<((c.out.map rP).length:Int):=g
  rw[JY Uo]at hr;subst hr;exact dA
 have g:(j:Int)<((c.out.map rP).length:Int):=g;obtain⟨y,K,C⟩:=az (l:=go) (k:=j);have m:=h.hgo y (JQ K);have O:=m.len;rw[C]at hr;simp only[jm]at hr;refine aA j (x:=row y) (by rw[h.hco,JX,K];rfl) ?_;refine af (tn (row y) Uo en) ?_;cases o:bL (row y) en with
 |true=>
  rw[KX o]at hr;subst hr;refine ay (wU B en n 0 20 UO) ?_;exact dA
 |false=>
 rw[KY (by simp[o]),h.hqM]at hr;have s:=PH h (j:=j) Uo;have D:∀e,iS A go d.length j= .error e ->e≠0:=λe u=>HO u;have E:=λz=>h.made (j:=j) Uo (z:=z);cases f:iS A go d.length j with
 |error e=>
  rw[f]at s hr;have hr:.error e=b:=hr;subst hr;have u:=D e f;refine af s ?_;refine vy (p:=e≠0) ?_ u;refine ay (wU B en n 0 e u) ?_;exact dA
 |ok a=>
  rw[f]at s hr;have hr:(aQ (kZ B cx y a (n:Int)) λ_ n=>jm B en go d.length cx (go.drop (j+1)) (j+1) n)=b:=hr;have r:=E a f;refine af s ?_;refine vn (p:=(0:Int)≠0) ?_ UO;rw[<- hcl]at m r;have v:=PB hI hB hcx Uo m r (n:Int);have F:∀e,kZ B cx y a (n:Int)= .error e ->e≠0:=λe h=>kT (dj hB GJ) h;cases I:kZ B cx y a (n:Int)with
  |error e=>
   rw[I]at v hr;have hr:.error e=b:=hr;subst hr;have L:=pu B en n 0 0 e;rw[KH (F e I)]at L;refine af v ?_;refine ay L ?_;refine vk ?_;exact dA
  |ok q=>
   rw[I]at v hr;have hr:jm B en go d.length cx (go.drop (j+1)) (j+1) q.2=b:=hr;refine af v ?_;refine ay (pu B en n 0 q.2 0) ?_;refine vk ?_;refine vi ?_;exact au (j+1,q.2) ⟨Us,hr⟩
end
theorem HP{B:ak}{e:Int}:∀(l:List Tr) (cx:Ctx) (n:Nat) (q:Ctx×Nat),CxOk B cx ->(∀(i:Nat) y,l[i]?=some y ->Ft (QB B) ((cx.length+i:Nat):Int) y) ->jl B e l cx n= .ok q ->CxOk B q.1
 |[],cx,n,q,hc,hl,h=>by cases h;exact hc
 |a::r,cx,n,q,hc,hl,h=>by
  obtain⟨p,_,h⟩:=bC h;split at h
  ·cases h
  split at h
  ·cases h
  refine HP r _ _ q (hc.snoc (hl 0 a rfl) Ud) (λi y b=>?_) h;have:=hl (i+1) y (by simpa using b)
  rwa [show (cx++[(a,(none:Option Tr))]).length+i=cx.length+(i+1) by simp;omega]
theorem HQ{B:ak}:∀(l:List Tr) (cx:Ctx) (n:Nat) (q:Ctx×Nat),CxOk B cx ->(∀(i:Nat) y,l[i]?=some y ->Ft (QB B) ((cx.length+i:Nat):Int) y) ->gn B l cx n= .ok q ->CxOk B q.1
 |[],cx,n,q,hc,hl,h=>by cases h;exact hc
 |a::r,cx,n,q,hc,hl,h=>by
  obtain⟨p,_,h⟩:=bC h;refine HQ r _ _ q (hc.snoc (hl 0 a rfl) Ud) (λi y b=>?_) h;have:=hl (i+1) y (by simpa using b)
  rwa [show (cx++[(a,(none:Option Tr))]).length+i=cx.length+(i+1) by simp;omega]
def PL(B:ak)(en:Int)(r:Except Int (Unit×Nat)):List PV:=match r with
 | .ok q=>mj B en q.2 0
 | .error e=>mj B en 0 e
section
variable{B:ak}(hI:BoI B)(hS:dh B){en:Int}
include hI hS
theorem PM(hf:jk B en=0){n:Nat}(hn:n<=100000):VP prog 26 65 (mj B en n 0) (PL B en (pk B en n)) [] (.tup []):=by
 obtain⟨hR,hB,h0,h1,L,s,z,O,c⟩:=wF hf;obtain⟨e1,e2,e3⟩:=c.ps_eq L;rw[show ((en.toNat:Nat):Int)=en by omega]at e1 e2 e3;have P:Ft (QB B) 0 s:=c.fs.wk λm hm=>my (Nat.le_of_lt (aL L)) hm;have R:=λ(k:Nat) y=>c.up_p hB L (k:=k) (y:=y);have S:=λ(k:Nat) y=>c.up_i hB L (k:=k) (y:=y);have a':=c.lc;have a2:=c.lp;have a3:=c.li;have lp:=KG List.length c.params;have li:=KG List.length c.indices;rw[KF]at lp li;have eC:=aq bA (ax B en).ctors;have a4:(ax B en).params.length<=16/\(ax B en).indices.length<=16:=Uo
 generalize a:pk B en n=b;unfold pk at a;rw[e3,e1,e2]at a;have M:=Pw hI hB (cx:=[]) (λi q A=>by simp at A) Ud P (n:Int);rw[<- c.sort]at M;have a5:∀e,mc B [] s (n:Int)= .error e ->e≠0:=λe h=>(dj hB GJ).er _ _ _ _ h;refine aX (r:=.ok (_,_)) 91 [] τok func26 ?_;refine aD<|cS en.toNat (iQ h0 h1) ?_;refine vk ?_;refine aD ?_;cases A:mc B [] s (n:Int)with
 |error e=>
  have he:=a5 e A;rw[A]at M a;have a:.error e=b:=a;subst a;have hk:=pu B en n 0 0 e;rw[KH he]at hk;refine af M ?_;refine vk ?_;refine aj<|ay hk ?_;exact eP9
 |ok q=>
 obtain⟨ty,T⟩:=q;rw[A]at M a;have a:(aQ (gn B z [] T) λd n=>aQ (gn B O d n) λ_ n=>j8 B en d (ax B en).ctors n)=b:=a;refine af M ?_;refine vk ?_;refine aD<|Gl 39 ?_;refine aD<|ay (pu B en n 0 T 0) ?_;have N:=HL hI hB (en:=en) (cx:=[]) (ys:=z) (λi q A=>by simp at A) Uk (λi y f=>by simpa using R i y f) T;rw[<- c.params]at N;cases C:gn B z [] T with
 |error e=>
  rw[C]at N a;have a:.error e=b:=a;subst a;refine aZ (λk=>sw 1 0 (sw 0 39 k)) (λk=>1-k) N ?_;exact eP9
 |ok q2=>
 obtain⟨d,n2⟩:=q2;have I:CxOk B d:=HQ z [] T (d,n2) (λi q A=>by simp at A) (λi y f=>by simpa using R i y f) C;have hcl:d.length=z.length:=by
  have:=G0 _ _ _ _ C;simp only[List.nil_append]at this;rw[this];simp
 rw[C]at N a;have a:(aQ (gn B O d n2) λ_ n=>j8 B en d (ax B en).ctors n)=b:=a;refine aZ (λk=>sw 1 0 (sw 0 39 k)) (λk=>1-k) N ?_;have o:=HL hI hB (en:=en) (cx:=d) (ys:=O) I Uo (λi y f=>by rw[hcl];exact S i y f) n2;rw[<- c.indices]at o;refine aD<|aD ?_;cases U:gn B O d n2 with
 |error e=>
  rw[U]at o a;have a:.error e=b:=a;subst a;refine aZ (λk=>sw 1 0 (sw 0 58 k)) (λk=>1-k) o ?_;exact eP9
 |ok q3=>
 obtain⟨cq,n3⟩:=q3;rw[U]at o a;have a:j8 B en d (ax B en).ctors n3=b:=a;refine aZ (λk=>sw 1 0 (sw 0 58 k)) (λk=>1-k) o ?_;refine aj<|aB τok (σ:=Nat×Nat) [(0,_),(2,_),(6,_),(65,_),(66,_)] [(2,_),(39,.st 0 91 [.ptr 0 0,.p (aO (d.map aE))])] (λq=>[(67,vI q.1)]) (λq=>[(0,.st 1 65 ((mj B en q.2 0).map .p))]) (λq=>q.1<=(ax B en).ctors.length/\j8 B en d ((ax B en).ctors.drop q.1) q.2=b) (λq=>(ax B en).ctors.length-q.1) (0,n3) ⟨KV _,a⟩ ?_
 clear a N o M
 rintro⟨k,n⟩ ⟨hk,hr⟩;simp only at hk hr;refine aj<|ae (λg=>?_) (λg=>?_);rotate_left
 ·have g:¬ (k:Int)<(((ax B en).ctors.map bA).length:Int):=g
  rw[JY Uo]at hr;subst hr;exact eP9
 have g:(k:Int)<(((ax B en).ctors.map bA).length:Int):=g;obtain⟨V,W,hd⟩:=az (l:=(ax B en).ctors) (k:=k);rw[hd]at hr;simp only[j8]at hr;obtain⟨x,K,u⟩:=c.ct k V W;have F:∀(i:Nat) y,x[i]?=some y ->Ft (QB B) ((z.length+i:Nat):Int) y:=λi y f=>u.up_a L c.kind f;have X:∀y∈K,Ft (QB B) ((z.length+x.length:Nat):Int) y:=λy f=>u.up_o L c.kind f;have a6:V.args.map tr=x:=qF u.args (λy f=>by
  obtain⟨j,hj⟩:=JH f;exact(u.fa j y hj).ok)
 have a7:V.out.map tr=K:=qF u.out (λy f=>(u.fo y f).ok);have a8:V.args.length=x.length:=by rw[u.args];simp
 have Y:=u.la;have a9:=u.lo;rw[a6,a7,a8]at hr;have hG:CtG B en O x K z.length V:=⟨a2,Y,S,X,a3,a9,c.indices,e2,u.args,u.out⟩
 refine ee k W ?_;have D:=PI hI hS hB (en:=en) (cx:=d) I Y Uo (λi y f=>by rw[hcl];exact F i y f) P c.s2 c.sort ⟨h0,h1⟩ a4 u.args n;cases E:jl B en x d n with
 |error e=>
  rw[E]at D hr;have hr:.error e=b:=hr;subst hr;refine aZ (λk=>sw 1 0 (sw 0 77 k)) (λk=>1-k) D ?_;exact eP9
 |ok q4=>
 obtain⟨v,n4⟩:=q4;have Z:CxOk B v:=HP x d n (v,n4) I (λi y f=>by rw[hcl];exact F i y f) E;have a0:v.length=z.length+x.length:=by
  have:=G1 _ _ _ _ E;simp only at this;rw[this];simp[hcl]
 rw[E]at D hr;have hr:(aQ (jm B en K x.length v K 0 n4) λ_ n=>j8 B en d ((ax B en).ctors.drop (k+1)) n)=b:=hr;refine aZ (λk=>sw 1 0 (sw 0 77 k)) (λk=>1-k) D ?_;have hO:=PK hI hS hB Z hG a0 n4;cases a1:jm B en K x.length v K 0 n4 with
 |error e=>
  rw[a1]at hO hr;have hr:.error e=b:=hr;subst hr;refine aZ (λk=>sw 1 0 (sw 0 77 k)) (λk=>1-k) hO ?_;exact eP9
 |ok q5=>
 rw[a1]at hO hr;have hr:j8 B en d ((ax B en).ctors.drop (k+1)) q5.2=b:=hr;refine aZ (λk=>sw 1 0 (sw 0 77 k)) (λk=>1-k) hO ?_;refine vi ?_;exact au (k+1,q5.2) ⟨Us,hr⟩
theorem BG(en fuel:Int):VC prog 9 [bk B,pI en,pI fuel] (tO (famTop B en fuel)):=by
 generalize a:famTop B en fuel=b;unfold famTop at a;have c:min (max fuel 0) 100000=((bK fuel:Nat):Int):=by unfold bK;omega
 refine vf 33 [.tmp 6,.tmp 7] τok func9 ?_;refine af (Hd hS en) ?_;refine ae (λg=>?_) (λg=>?_)
 ·rw[KX g]at a
  subst a;exact aF
 rw[KY g]at a;have h:=PM hI hS (Decidable.not_not.1 g) (qD fuel);rw[a,<- c]at h;cases b with
 |error e=>
  refine ay h ?_;exact kA9
 |ok q=>
  refine ay h ?_;exact kA9
end
def dw(lim:Int):List (List Nd) ->Int ->Int
 |[],a=>a
 |l::r,a=>if a<lim then dw lim r (a+1+(l.length:Int))else a
def kj(lim:Int):List dy ->Int ->Int
 |[],a=>a
 |c::r,a=>if a<lim then kj lim r (a+1+dw lim c.args 0+dw lim c.out 0)else a
def kk(lim:Int):List cf ->Int ->Int
 |[],a=>a
 |x::r,a=>if a<lim then kk lim r (kj lim x.ctors (a+1+(x.sort.length:Int)+(x.type.length:Int)+(x.body.length:Int)+dw lim x.params 0+dw lim x.indices 0))else a
def oI(B:ak)(lim:Int):Int:=kk lim B.ents ((B.orders.length:Int)+(B.prims.length:Int))
theorem PN{lim a:Int}(h:¬ a<lim):∀(l:List (List Nd)),dw lim l a=a
 |[]=>rfl
 |l::r=>by simp only[dw];rw[KY h]
theorem PO{lim a:Int}(h:¬ a<lim):∀(l:List dy),kj lim l a=a
 |[]=>rfl
 |l::r=>by simp only[kj];rw[KY h]
theorem PP{lim a:Int}(h:¬ a<lim):∀(l:List cf),kk lim l a=a
 |[]=>rfl
 |l::r=>by simp only[kk];rw[KY h]
def HR(lim:Int):CxR ->Int ->Int
 |[],a=>a
 |q::r,a=>if a<lim then HR lim r (a+1+(q.1.length:Int)+(q.2.length:Int))else a
structure wV where
 book:ak
 ctx:CxR
 term:List Nd
 type:List Nd
 fuel:Int
def CaV(C:Mem)(x:wV)(v:Value):Prop:=
 ∃v1 v2 v3 vc vt vy,v= .agg #[.int .i64 x.book.vars,v1,v2,.int .i64 x.book.nat,v3,vc,vt,vy,.int .i64 x.fuel]/\SV rOr C x.book.orders v1/\SV rEn C x.book.ents v2/\SV rPr C x.book.prims v3/\SV rBd C x.ctx vc/\SV rNd C x.term vt/\SV rNd C x.type vy/\I64 x.fuel
def BH(x:wV):Bool:=decide (2500<=oI x.book 2500)||(decide (1500<=HR 1500 x.ctx 0)||(decide (300<x.ctx.length)||(decide (1500<x.term.length+x.type.length)||decide (300<x.fuel))))
def B0:ak:=⟨0,[],[],-1,[]⟩
def r1:List Nd:=[⟨2,1,1⟩,⟨3,0,0⟩]
def r2:List Nd:=[⟨6,0,0⟩,⟨2,0,1⟩,⟨3,0,0⟩,⟨2,1,1⟩,⟨3,0,0⟩]
def x1:Tr:=.mk ⟨2,1,1⟩ [.mk ⟨3,0,0⟩ []]
def x0:Tr:=.mk ⟨2,0,1⟩ [.mk ⟨3,0,0⟩ []]
def x2:Tr:=.mk ⟨6,0,0⟩ [x0,x1]
end Go.Q
namespace Go.Wx
open Go.ChangeShapes Go.WideShapes Go.ChangeAt Go.RowKit
theorem HS{H:Type}{enc:TypeId×Value ->H}{P:Program}(hl:laidOutB P=true){W k:World}(hb:Below W.heap.size W k):
  ∀(e:List TypeId) (vs:List Value) (ds:List (DataW H)) (c:List MemPlace),(e.all λt=>P.readableRec t && Nat.blt t P.types.size)=true ->DataW.TrodAll enc P W 0 (λ_=>true) true e vs ds c ->
   (∀x∈c,x.block<W.heap.size) ->∀f:Nat ->Bool,(∀p∈c,f p.block=true) ->DataW.TrodAll enc P k 0 f true e vs ds c
 |[],vs,ds,c,_,h,_,f,_=>by
  obtain⟨rfl,rfl,rfl⟩:=trodAll_nil h
  rfl
 |t::e,vs,ds,c,a,h,i,f,j=>by
  obtain⟨v,l,d,m,p,q,rfl,rfl,rfl,o,r⟩:=trodAll_cons h;simp only[List.all_cons,Bool.and_eq_true]at a;refine⟨p,q,?_,HS hl hb e _ _ _ a.2 r (λx b=>i x (by simp[b])) f (λx b=>j x (by simp[b])),rfl⟩;exact WideElems.Trod_stays hl a.1.1 (by simpa[Nat.blt_eq]using a.1.2) o (λx b=>hb.same (i x (by simp[b]))) (λx b=>j x (by simp[b]))
theorem PQ{H:Type}{enc:TypeId×Value ->H}{P:Program}{f:Func}{s:ChangeSpec}{a d b:Bool}{W v:World}{args:Array Value}{ds gs:List (DataW H)}{c:List MemPlace}{y:TypeId}
  (hl:laidOutB P=true) (o:(f.params.toList.all λt=>P.readableRec t && Nat.blt t P.types.size)=true) (r:f.resultTypes= #[y]) (hb:P.underlying y=some .bool)
  (hW:DataW.Whole enc P f.params.toList s.vars a W args.toList ds gs c) (z:s.vars=[]) (j:(s.fn H ds).results=[.lit (.bool true)]) (e:(s.fn H ds).args=ds) (i:(s.fn H ds).vars=[])
  (C:Kp [] W v):s.post enc P f a d b false W args (.bool true) v:=by
 have k:=hW;obtain⟨p,q,D,A,rfl,E,F⟩:=hW;rw[z]at A;obtain⟨rfl,rfl⟩:=trodVars_none A;have l:=C.below;have m:∀x∈p,x.block<W.heap.size:=λx u=>k.lt x (by simp[u]);refine⟨ds,[],p++[],[],p,[],k,?_,?_,?_,?_,λh=>by cases h⟩
 ·rw[JD,j,r]
  exact trodAll_mk1 (shut_bool hb true)
 ·rw[JD,e]
  exact HS hl l _ _ _ _ o D m _ λx u=>by simpa using m x u
 ·rw[JD,i,z]
  rfl
 ·exact l.frame _
end Go.Wx
namespace Go.Q
open Go.ChangeShapes Go.WideShapes Go.ChangeAt Go.RowKit
theorem PR{H:Type}(d:DataW H):1<=Rows.uptoBulk d:=by
 cases d with
 |lit l=>cases l<;>simp[Rows.uptoBulk]
 |nil=>simp[Rows.uptoBulk]
 |ptr d=>simp[Rows.uptoBulk]
 |slice b spare=>simp[Rows.uptoBulk]
 |agg parts=>simp[Rows.uptoBulk]
 |iface t d=>simp[Rows.uptoBulk]
 |map a=>simp[Rows.uptoBulk]
 |held h=>simp[Rows.uptoBulk]
theorem BI{H:Type}{d:DataW H}{l:List (DataW H)}(h:d∈l):Rows.uptoBulk d<=Rows.uptoBulkAll l:=by
 induction l with
 |nil=>cases h
 |cons x r a=>
  simp only[Rows.uptoBulkAll];cases List.mem_cons.1 h with
  |inl e=>subst e;omega
  |inr e=>have:=a e;omega
theorem PS{H:Type}(l:List (DataW H)):l.length<=Rows.uptoBulkAll l:=by
 induction l with
 |nil=>simp[Rows.uptoBulkAll]
 |cons x r a=>have:=PR x;simp only[Rows.uptoBulkAll,JV];omega
theorem PT{H:Type}{l:List (DataW H)}(a:Rows.uptoSmall H l=true):Rows.uptoBulkAll l<=1048576:=of_decide_eq_true a
theorem PU{H:Type}(l r:List (DataW H)):Rows.uptoBulkAll (l++r)=Rows.uptoBulkAll l+Rows.uptoBulkAll r:=by
 induction l with
 |nil=>simp[Rows.uptoBulkAll]
 |cons x l a=>simp only[List.cons_append,Rows.uptoBulkAll,a];omega
theorem k9{H:Type}{xs:List (DataW H×List MemPlace)}{x:DataW H×List MemPlace}(a:x∈xs)(hB:Rows.uptoBulk (.agg (xs.map (·.1)))<=1048576):Rows.uptoBulk x.1<=1048576:=by
 have:=BI (QD (f:=(·.1)) a);simp only[Rows.uptoBulk]at hB;omega
section
variable{H:Type}{enc:TypeId×Value ->H}{w:World}{spare:Nat ->Bool}{held:Bool}
theorem PW{a:Addr}{v:Value}(h:w.cell? a=some v):∃b o,a=⟨b,o,none⟩:=by
 obtain⟨b,o,s⟩:=a;unfold World.cell? at h;split at h
 ·rename_i c T d e
  cases s with
  |none=>exact⟨b,o,rfl⟩
  |some _=>simp at h
 ·cases h
theorem PX{α:Type} [Inhabited α]{t e:TypeId}(R:Rd α)(hk:0<R.sz)(ht:prog.underlying t=some (.slice e))(hc:prog.cellsOf e=R.sz)(ok:DataW H ->Prop)
  (one:∀(cs:List Value) (n:Nat) (y:DataW H×List MemPlace),cs.length=R.sz ->DataW.trod enc prog w 0 spare held n e cs=some y ->ok y.1 ->∃x:α,R.den (Old w) cs x)
  {fuel:Nat} {v:Value} {x:DataW H×List MemPlace} (h:DataW.trod enc prog w 0 spare held fuel t [v]=some x) (F:∀es I,x.1= .slice es I ->∀d∈es,ok d):
  ∃(a:Option Addr) (l:List α) (cap:Nat),v= .slice a l.length cap/\(l.length<=1099511627776 ->Sl R (Old w) a l)/\(l.length=0 \/∃es I,x.1= .slice es I/\es.length=l.length):=by
 rcases Go.Deep.open_slice ht h with ⟨k,rfl⟩|⟨a,len,cap,m,n,D,Pl,k,hb,hl,hm,K,rfl,E⟩
 ·simp only[List.cons.injEq,and_true]at k
  subst k;exact⟨none,[],0,rfl,λ_=>Sl.nil _ _ _,.inl rfl⟩
 simp only[List.cons.injEq,and_true]at k;subst k;have W:len<=m:=by rw[K];split<;>omega
 rw[hc]at E;have r:∀i,i<len ->∃q:α×List Value,R.den (Old w) q.2 q.1/\∀j u,q.2[j]?=some u ->w.cell? (a.add (i*R.sz+j))=some u:=by
  intro i c;obtain⟨s,k,X⟩:=E i Uo;obtain⟨_,f,p⟩:=World.cells?_some k;obtain⟨x,E⟩:=one s n _ f X (F _ _ rfl _ (List.mem_map.2 ⟨i,by simpa using c,rfl⟩));refine⟨(x,s),E,λj u T=>?_⟩;have L:j<R.sz:=by rw[<- f];exact aL T
  rw[<- Go.Deep.add_add,p j L];exact T
 obtain⟨q,U⟩:=Go.Deep.choose_lt r;refine⟨some a,(List.range len).map λi=>(q i).1,cap,Ud,λz=>⟨z,?_⟩,.inr ⟨_,_,rfl,Ud⟩⟩
 by_cases Y:len=0
 ·exact .inl (by simp[Y])
 obtain⟨M,Z⟩:=U 0 Uo;have a0:=R.len M;obtain⟨V,N⟩:∃u,(q 0).2[0]?=some u:=⟨(q 0).2[0]' Uo,Ud⟩
 have A:=Z 0 V N;rw[Nat.zero_mul,Nat.add_zero]at A;have O:w.cell? a=some V:=by simpa[Addr.add]using A
 obtain⟨b,o,rfl⟩:=PW O;refine .inr ⟨b,o,rfl,λi x c=>?_⟩;rw[JX]at c;have C:i<len:=by
  rcases Nat.lt_or_ge i len with h|h
  ·exact h
  ·rw[QF (by simpa using h)]at c;cases c
 rw[List.getElem?_range C]at c;have c:=JB c;subst c;obtain⟨P,S⟩:=U i C;refine⟨(q i).2,P,λj u L=>Cl.of ?_⟩;have:=S j u L;rw[pA]at this;rw[Nat.add_assoc];exact this
theorem PY{α:Type} [Inhabited α]{t e:TypeId}(R:Rd α)(i:0<R.sz)(ht:prog.underlying t=some (.slice e))(hc:prog.cellsOf e=R.sz)
  (one:∀(cs:List Value) (n:Nat) (y:DataW H×List MemPlace),cs.length=R.sz ->DataW.trod enc prog w 0 spare held n e cs=some y ->Rows.uptoBulk y.1<=1048576 ->∃x:α,R.den (Old w) cs x)
  {fuel:Nat} {v:Value} {x:DataW H×List MemPlace} (h:DataW.trod enc prog w 0 spare held fuel t [v]=some x) (hB:Rows.uptoBulk x.1<=1048576):∃l,(tZ R).den (Old w) [v] l:=by
 obtain⟨a,l,b,j,k,c⟩:=PX R i ht hc (λd=>Rows.uptoBulk d<=1048576) one h (λf m e d o=>by
  rw[e]at hB;have:=BI o;simp only[Rows.uptoBulk]at hB;omega)
 refine⟨l,a,b,by rw[j],k ?_⟩;rcases c with c|⟨f,m,e,p⟩
 ·omega
 ·rw[e]at hB
  have:=PS f;simp only[Rows.uptoBulk]at hB;omega
end
end Go.Q
namespace Go.Q
instance:Inhabited Nd:=⟨⟨0,0,0⟩⟩
instance:Inhabited aV:=⟨⟨0,0,0⟩⟩
instance:Inhabited ak:=⟨⟨0,[],[],-1,[]⟩⟩
section
variable{H:Type}{enc:TypeId×Value ->H}{w:World}{spare:Nat ->Bool}{held:Bool}
theorem PZ{z:Int}(h:(Lit.int .i64 z).wf=true):I64 z:=by
 simpa[I64,Lit.wf,IntKind.min,IntKind.max,IntKind.signed,IntKind.bits]using h
theorem qV{α:Type} [Inhabited α]{t e:TypeId}(R:Rd α)(d:0<R.sz)(ht:prog.underlying t=some (.slice e))(hc:prog.cellsOf e=R.sz)
  (one:∀(cs:List Value) (n:Nat) (y:DataW H×List MemPlace),cs.length=R.sz ->DataW.trod enc prog w 0 spare held n e cs=some y ->Rows.uptoBulk y.1<=1048576 ->∃x:α,R.den (Old w) cs x)
  {fuel:Nat} {v:Value} {x:DataW H×List MemPlace} (h:DataW.trod enc prog w 0 spare held fuel t [v]=some x) (hB:Rows.uptoBulk x.1<=1048576):∃l,SV R (Old w) l v:=by
 obtain⟨l,a,c,e,f⟩:=PY R d ht hc one h hB;have e:v= .slice a l.length c:=by simpa using e
 refine⟨l,a,c,e,f,?_⟩;rcases Go.Deep.open_slice ht h with ⟨b,rfl⟩|⟨p,len,i,m,k,D,q,b,r,s,_⟩
 ·rw[e]at b
  have b:=(List.cons.inj b).1;injection b with q1 j o
  omega
 ·rw[e]at b
  have b:=(List.cons.inj b).1;injection b with q1 j o
  omega
theorem lh{n:Nat}{cs:List Value}{y:DataW H×List MemPlace}(a:DataW.trod enc prog w 0 spare held n 3 cs=some y):∃z,cs=[.int .i64 z]/\I64 z:=by
 obtain⟨z,rfl,rfl,b⟩:=DataW.trod_int underlying3 a;exact⟨z,rfl,PZ b⟩
theorem P0{n:Nat}{cs:List Value}{y:DataW H×List MemPlace}(hl:cs.length=3)(j:DataW.trod enc prog w 0 spare held n 47 cs=some y):∃x,rNd.den (Old w) cs x:=by
 obtain⟨k,m,rfl,rfl,_,a,b⟩:=DataW.trod_struct underlying47 j
 match cs,hl,k,a with
 |[u,v,z],_,[x0,x1,x2],_=>
  have c:=b 0 _ rfl;have d:=b 1 _ rfl;have e:=b 2 _ rfl;simp[show prog.cellsOf 3=1 by kernel_rfl]at c d e;obtain⟨l,f,o⟩:=lh c;obtain⟨p,h,q⟩:=lh d;obtain⟨r,i,s⟩:=lh e;simp at f h i;subst f h i;exact⟨⟨l,p,r⟩,rfl,o,q,s⟩
theorem P1{n:Nat}{cs:List Value}{y:DataW H×List MemPlace}(hl:cs.length=3)(j:DataW.trod enc prog w 0 spare held n 73 cs=some y):∃x,rOr.den (Old w) cs x:=by
 obtain⟨k,m,rfl,rfl,_,a,b⟩:=DataW.trod_struct underlying73 j
 match cs,hl,k,a with
 |[u,v,z],_,[x0,x1,x2],_=>
  have c:=b 0 _ rfl;have d:=b 1 _ rfl;have e:=b 2 _ rfl;simp[show prog.cellsOf 3=1 by kernel_rfl]at c d e;obtain⟨l,f,o⟩:=lh c;obtain⟨p,h,q⟩:=lh d;obtain⟨r,i,s⟩:=lh e;simp at f h i;subst f h i;exact⟨⟨l,p,r⟩,rfl,o,q,s⟩
theorem P2{n:Nat}{cs:List Value}{y:DataW H×List MemPlace}(hl:cs.length=2)(h:DataW.trod enc prog w 0 spare held n 76 cs=some y):∃x,rPr.den (Old w) cs x:=by
 obtain⟨i,m,rfl,rfl,_,a,b⟩:=DataW.trod_struct underlying76 h
 match cs,hl,i,a with
 |[p,q],_,[x0,x1],_=>
  have c:=b 0 _ rfl;have d:=b 1 _ rfl;simp[show prog.cellsOf 3=1 by kernel_rfl]at c d;obtain⟨j,e,k⟩:=lh c;obtain⟨l,f,o⟩:=lh d;simp at e f;subst e f;exact⟨(j,l),rfl,k,o⟩
theorem wW{n:Nat}{v:Value}{y:DataW H×List MemPlace}(a:DataW.trod enc prog w 0 spare held n 39 [v]=some y)(hB:Rows.uptoBulk y.1<=1048576):∃l,SV rNd (Old w) l v:=
 qV rNd UO underlying39 UD (λc n y b a d=>P0 b a) a hB
theorem wX{n:Nat}{v:Value}{y:DataW H×List MemPlace}(d:DataW.trod enc prog w 0 spare held n 40 [v]=some y)(hB:Rows.uptoBulk y.1<=1048576):∃l,SV (gJ rNd) (Old w) l v:=
 qV (gJ rNd) Nat.one_pos underlying40 UD (λe n y f d h=>by
  match e,f with
  |[c],_=>
   obtain⟨l,a,i,rfl,j,b⟩:=wW d h;exact⟨l,a,i,rfl,b,j⟩) d hB
theorem P3{n:Nat}{cs:List Value}{y:DataW H×List MemPlace}(hl:cs.length=2)(e:DataW.trod enc prog w 0 spare held n 49 cs=some y)(hB:Rows.uptoBulk y.1<=1048576):∃x,rCt.den (Old w) cs x:=by
 obtain⟨f,m,rfl,rfl,_,a,b⟩:=DataW.trod_struct underlying49 e
 match cs,hl,f,a with
 |[l,o],_,[x0,x1],_=>
  have c:=b 0 _ rfl;have d:=b 1 _ rfl;simp[show prog.cellsOf 40=1 by kernel_rfl]at c d;obtain⟨h,i⟩:=wX c (k9 (x:=x0) Ud hB);obtain⟨j,k⟩:=wX d (k9 (x:=x1) Ud hB);exact⟨⟨h,j⟩,_,_,rfl,i,k⟩
theorem P4{n:Nat}{cs:List Value}{y:DataW H×List MemPlace}(hl:cs.length=7)(b:DataW.trod enc prog w 0 spare held n 43 cs=some y)(hB:Rows.uptoBulk y.1<=1048576):∃x,rEn.den (Old w) cs x:=by
 obtain⟨o,m,rfl,rfl,_,c,a⟩:=DataW.trod_struct underlying43 b
 match cs,hl,o,c with
 |[R,S,T,U,V,W,X],_,[x0,x1,x2,p,q,r,s],_=>
  have d:=a 0 _ rfl;have e:=a 1 _ rfl;have f:=a 2 _ rfl;have h:=a 3 _ rfl;have i:=a 4 _ rfl;have j:=a 5 _ rfl;have k:=a 6 _ rfl;simp[show prog.cellsOf 3=1 by kernel_rfl,show prog.cellsOf 40=1 by kernel_rfl,show prog.cellsOf 39=1 by kernel_rfl,show prog.cellsOf 41=1 by kernel_rfl]at d e f h i j k;obtain⟨u,l,v⟩:=lh d;obtain⟨z,A⟩:=wW e (k9 (x:=x1) Ud hB);obtain⟨C,D⟩:=wX f (k9 (x:=x2) Ud hB);obtain⟨E,F⟩:=wX h (k9 (x:=p) Ud hB);obtain⟨I,K⟩:=qV rCt UO underlying41 UD (λcs n y hl b L=>P3 hl b L) i (k9 (x:=q) Ud hB);obtain⟨M,N⟩:=wW j (k9 (x:=r) Ud hB);obtain⟨O,P⟩:=wW k (k9 (x:=s) Ud hB);simp at l;subst l;exact⟨⟨u,z,C,E,I,M,O⟩,_,_,_,_,_,_,rfl,v,A,D,F,K,N,P⟩
theorem P5{n:Nat}{cs:List Value}{y:DataW H×List MemPlace}(hl:cs.length=5)(a:DataW.trod enc prog w 0 spare held n 26 cs=some y)(hB:Rows.uptoBulk y.1<=1048576):∃x,rBo.den (Old w) cs x:=by
 obtain⟨o,m,rfl,rfl,_,c,b⟩:=DataW.trod_struct underlying26 a
 match cs,hl,o,c with
 |[F,I,K,L,M],_,[x0,x1,x2,N,p],_=>
  have e:=b 0 _ rfl;have f:=b 1 _ rfl;have h:=b 2 _ rfl;have i:=b 3 _ rfl;have j:=b 4 _ rfl;simp[show prog.cellsOf 3=1 by kernel_rfl,show prog.cellsOf 22=1 by kernel_rfl,show prog.cellsOf 23=1 by kernel_rfl,show prog.cellsOf 24=1 by kernel_rfl]at e f h i j;obtain⟨q,k,r⟩:=lh e;obtain⟨s,u⟩:=qV rOr UO underlying22 UD (λcs n y hl a d=>P1 hl a) f (k9 (x:=x1) Ud hB);obtain⟨v,z⟩:=qV rEn UO underlying23 UD (λcs n y hl a d=>P4 hl a d) h (k9 (x:=x2) Ud hB);obtain⟨A,l,C⟩:=lh i;obtain⟨D,E⟩:=qV rPr UO underlying24 UD (λcs n y hl a d=>P2 hl a) j (k9 (x:=p) Ud hB);simp at k l;subst k l;exact⟨⟨q,s,v,A,D⟩,_,_,_,rfl,r,C,u,z,E⟩
end
theorem qW{lim:Int}:∀(l:List (List Nd)) (a:Int),a<=dw lim l a/\(dw lim l a<lim ->(l.length:Int)+a<=dw lim l a/\∀t∈l,(t.length:Int)+a<=dw lim l a)
 |[],a=>by simp[dw]
 |t::r,a=>by
  by_cases h:a<lim
  ·simp only[dw]
   rw[KX h];obtain⟨h1,h2⟩:=qW (lim:=lim) r (a+1+(t.length:Int));refine⟨Uo,λg=>?_⟩;obtain⟨d,c⟩:=h2 g;refine⟨by simp only[JV];omega,λu b=>?_⟩;rcases List.mem_cons.1 b with rfl|b
   ·omega
   ·have:=c u b
    omega
  ·rw[PN h]
   exact⟨Int.le_refl _,λg=>absurd g h⟩
theorem wY{lim:Int}(b:lim<=100000){l:List (List Nd)}(h:dw lim l 0<lim):lI l:=by
 obtain⟨c,a⟩:=(qW l 0).2 h;exact⟨Uo,λt ht=>by have:=a t ht;omega⟩
theorem HT{lim:Int}(b:lim<=100000):∀(l:List dy) (a:Int),a<=kj lim l a/\(0<=a ->kj lim l a<lim ->(l.length:Int)+a<=kj lim l a/\∀c∈l,lI c.args/\lI c.out)
 |[],a=>by simp[kj]
 |c::r,a=>by
  by_cases h:a<lim
  ·simp only[kj]
   rw[KX h];have i:=(qW (lim:=lim) c.args 0).1;have j:=(qW (lim:=lim) c.out 0).1;obtain⟨k,e⟩:=HT (lim:=lim) b r (a+1+dw lim c.args 0+dw lim c.out 0);refine⟨Uo,λm g=>?_⟩;obtain⟨o,f⟩:=e Uo g;refine⟨by simp only[JV];omega,λu d=>?_⟩;rcases List.mem_cons.1 d with rfl|d
   ·exact⟨wY b Uo,wY b Uo⟩
   ·exact f u d
  ·rw[PO h]
   exact⟨Int.le_refl _,λ_ g=>absurd g h⟩
theorem HU{lim:Int}(b:lim<=100000):∀(l:List cf) (a:Int),a<=kk lim l a/\(0<=a ->kk lim l a<lim ->(l.length:Int)+a<=kk lim l a/\∀x∈l,qe x)
 |[],a=>by simp[kk]
 |x::r,a=>by
  by_cases h:a<lim
  ·simp only[kk]
   rw[KX h];have j:=(qW (lim:=lim) x.params 0).1;have k:=(qW (lim:=lim) x.indices 0).1;have d:=HT b x.ctors (a+1+(x.sort.length:Int)+(x.type.length:Int)+(x.body.length:Int)+dw lim x.params 0+dw lim x.indices 0);obtain⟨m,e⟩:=HU (lim:=lim) b r (kj lim x.ctors (a+1+(x.sort.length:Int)+(x.type.length:Int)+(x.body.length:Int)+dw lim x.params 0+dw lim x.indices 0));refine⟨Uo,λo g=>?_⟩;obtain⟨p,f⟩:=e Uo g;obtain⟨q,i⟩:=d.2 Uo Uo;refine⟨by simp only[JV];omega,λu c=>?_⟩;rcases List.mem_cons.1 c with rfl|c
   ·exact⟨Uo,Uo,Uo,wY b Uo,wY b Uo,Uo,i⟩
   ·exact f u c
  ·rw[PP h]
   exact⟨Int.le_refl _,λ_ g=>absurd g h⟩
def Lm{α:Type}(l:List α):Prop:=l.length<=1099511627776
def qX(l:List (List Nd)):Prop:=Lm l/\∀t∈l,Lm t
theorem wZ{d:List (List Nd)}{lid:Int}(hl:qX d)(D:0<=lid/\lid<=100000):VC prog 15 [bG d,.int .i64 lid] (.int .i64 (dw lid d 0))/\0<=dw lid d 0/\dw lid d 0<=1200000000000:=by
 obtain⟨o,e⟩:=hl;unfold Lm at o;have v:∀(l:List (List Nd)) (a:Int),(∀t∈l,Lm t) ->0<=a ->a<=1200000000000 ->0<=dw lid l a/\dw lid l a<=1200000000000:=by
  intro l
  induction l with
  |nil=>intro a _ f b;exact⟨f,b⟩
  |cons t r x=>
   intro a ht f b;simp only[dw];split
   ·have:=ht t Ud
    unfold Lm at this;exact x _ (λt h=>ht t (by simp[h])) Uo Uo
   ·exact⟨f,b⟩
 refine⟨?_,v d 0 e (Int.le_refl _) UO⟩;refine sq 27 [.tmp 4] τok func15 rfl rfl rfl (QX rfl) UO<|zd τok (σ:=Nat×Int) (λq=>⟨[(0,.c (.p (bG d))),(1,.c (.p (.int .i64 lid))),(5,.c (.p (.int .i64 q.2))),(6,.c (.p (.int .i64 (q.1:Int))))],[]⟩) (λq=>q.1<=d.length/\dw lid (d.drop q.1) q.2=dw lid d 0/\0<=q.2/\q.2<=1200000000000) (λq=>d.length-q.1) (0,0) id (iG ⟨rfl,rfl,rfl,rfl,trivial⟩ trivial rfl) ⟨KV _,rfl,Ud,Ud⟩ ?_;rintro⟨i,m⟩ ⟨f,b,y,z⟩;simp only at f b y z;refine ae (λg=>?_) (λg=>?_)
 ·rw[KF]at g
  obtain⟨t,j,A⟩:=az (l:=d) (k:=i);have s:=e t (JQ j);unfold Lm at s;rw[A]at b;simp only[dw]at b;refine ae (λu=>?_) (λu=>?_)
  ·rw[KX u]at b
   refine gw Uo Uo<|oR i [ah t] rfl (by rw[JX,j];rfl) rfl ?_;have C:(t.map ndP).length=t.length:=KF _;refine gw Uo Uo<|gw Uo Uo<|⟨(i+1,m+1+((t.map ndP).length:Nat)),id,Us,⟨Us,by simp only[C];exact b,Us,Us⟩,iG ⟨rfl,rfl,rfl,rfl,trivial⟩ trivial rfl⟩
  ·rw[KY u]at b
   exact⟨_,_,rfl,rfl,KG (PV.int .i64) b⟩
 ·rw[KF]at g
  rw[JY Uo]at b;exact⟨_,_,rfl,rfl,KG (PV.int .i64) b⟩
structure P6(x:cf):Prop where
 s:Lm x.sort
 t:Lm x.type
 b:Lm x.body
 p:qX x.params
 i:qX x.indices
 c:Lm x.ctors
 a:∀c∈x.ctors,qX c.args/\qX c.out
structure BJ(B:ak):Prop where
 o:Lm B.orders
 p:Lm B.prims
 e:Lm B.ents
 x:∀x∈B.ents,P6 x
theorem HV{B:ak}(hB:BJ B){lid:Int}(r:0<=lid/\lid<=100000):VC prog 6 [bk B,.int .i64 lid] (.int .i64 (oI B lid)):=by
 have D:=hB.o;have E:=hB.p;have F:=hB.e;unfold Lm at D E F;have I:=aq orP B.orders;have K:=aq prP B.prims;have l3:=aq bI B.ents;refine sq 90 [.tmp 4] τok func6 rfl rfl rfl (QX rfl) UO<|gw Uo Uo<|zd τok (σ:=Nat×Int) (λq=>⟨[(1,.c (.p (.int .i64 lid))),(2,.c (.ptr 2 0)),(5,.c (.p (.int .i64 q.2))),(6,.c (.p (.int .i64 (q.1:Int))))],[(2,.st 0 26 ((o8 B).map .p))]⟩) (λq=>q.1<=B.ents.length/\kk lid (B.ents.drop q.1) q.2=oI B lid/\0<=q.2/\q.2<=10000000000000) (λq=>B.ents.length-q.1) (0,((B.orders.map orP).length:Int)+((B.prims.map prP).length:Int)) id (iG ⟨rfl,rfl,rfl,rfl,trivial⟩ ⟨rfl,trivial⟩ rfl) ⟨KV _,by simp only[I,K];rfl,Us,Us⟩ ?_;rintro⟨i,m⟩ ⟨L,b,M,N⟩;simp only at L b M N;refine ae (λg=>?_) (λg=>?_)
 ·obtain⟨x,f,O⟩:=az (l:=B.ents) (k:=i)
  have e:=hB.x x (JQ f);have q1:=e.s;have P:=e.t;have R:=e.b;have S:=e.c;unfold Lm at q1 P R S;rw[O]at b;simp only[kk]at b;refine ae (λs=>?_) (λs=>?_)
  ·rw[KX s]at b
   refine oR i (bI x) rfl (by rw[JX,f];rfl) rfl ?_;have T:=aq ndP x.sort;have U:=aq ndP x.type;have V:=aq ndP x.body;have e4:=aq bA x.ctors;obtain⟨W,b1,c1⟩:=wZ e.p r;obtain⟨X,b2,c2⟩:=wZ e.i r;refine gw Uo Uo<|gw Uo Uo<|gw Uo Uo<|gw Uo Uo<|af W ?_;refine gw Uo Uo<|af X ?_;refine gw Uo Uo<|iF UD<|zd τok (σ:=Nat×Int) (λq=>⟨[(1,.c (.p (.int .i64 lid))),(2,.c (.ptr 2 0)),(5,.c (.p (.int .i64 q.2))),(6,.c (.p (.int .i64 (i:Int)))),(7,.c (.ptr 7 0)),(8,.c (.p (.int .i64 (q.1:Int))))],[(2,.st 0 26 ((o8 B).map .p)),(7,.st 0 43 ((bI x).map .p))]⟩) (λq=>q.1<=x.ctors.length/\kk lid (B.ents.drop (i+1)) (kj lid (x.ctors.drop q.1) q.2)=oI B lid/\0<=q.2/\q.2<=10000000000000) (λq=>x.ctors.length-q.1) (0,_) id (iG ⟨rfl,rfl,rfl,rfl,rfl,rfl,trivial⟩ ⟨rfl,rfl,trivial⟩ rfl) ⟨KV _,by simp only[T,U,V];exact b,Us,Us⟩ ?_;rintro⟨j,a⟩ ⟨Y,d,u,v⟩;simp only at Y d u v;refine ae (λZ=>?_) (λZ=>?_)
   ·obtain⟨c,h,y⟩:=az (l:=x.ctors) (k:=j)
    obtain⟨z,A⟩:=e.a c (JQ h);rw[y]at d;simp only[kj]at d;refine ae (λC=>?_) (λC=>?_)
    ·rw[KX C]at d
     obtain⟨v3,b3,c3⟩:=wZ z r;obtain⟨v4,b4,c4⟩:=wZ A r;have o:(x.ctors.map bA)[j]?=some (bA c):=by rw[JX,h];rfl
     refine gw Uo Uo<|oR j (bA c) rfl o rfl<|af v3 ?_;refine gw Uo Uo<|oR j (bA c) rfl o rfl<|af v4 ?_;exact gw Uo Uo<|iF UD<|gw Uo Uo<|⟨(j+1,_),id,Us,⟨Us,d,Us,Us⟩,iG ⟨rfl,rfl,rfl,rfl,rfl,rfl,trivial⟩ ⟨rfl,rfl,trivial⟩ rfl⟩
    ·rw[KY C]at d
     exact gw Uo Uo<|⟨(i+1,a),id,Us,⟨Us,d,u,v⟩,iG ⟨rfl,rfl,rfl,rfl,trivial⟩ ⟨rfl,trivial⟩ rfl⟩
   ·have e5:x.ctors.drop j=[]:=JY Uo
    rw[e5]at d;exact gw Uo Uo<|⟨(i+1,a),id,Us,⟨Us,d,u,v⟩,iG ⟨rfl,rfl,rfl,rfl,trivial⟩ ⟨rfl,trivial⟩ rfl⟩
  ·rw[KY s]at b
   exact⟨_,_,rfl,rfl,KG (PV.int .i64) b⟩
 ·rw[JY Uo]at b
  exact⟨_,_,rfl,rfl,KG (PV.int .i64) b⟩
def caP(x:wV):PV:=.agg (o8 x.book++[aO x.ctx,ah x.term,ah x.type,pI x.fuel])
structure LmX(x:wV):Prop where
 b:BJ x.book
 c:Lm x.ctx
 q:∀q∈x.ctx,Lm q.1/\Lm q.2
 t:Lm x.term
 y:Lm x.type
theorem xa{l:List (List Nd)}(h:GL (GL mP) l):qX l:=⟨h.1,λt ht=>(h.2 t ht).1⟩
theorem BoI.lm{B:ak}(h:BoI B):BJ B:=⟨h.1.1,h.2.2.1,h.2.1.1,λx j=>by
 obtain⟨_,a,b,c,d,e,f⟩:=h.2.1.2 x j;exact⟨a.1,e.1,f.1,xa b,xa c,d.1,λq i=>⟨xa (d.2 q i).1,xa (d.2 q i).2⟩⟩⟩
def rT:List Nd:=[⟨2,1,1⟩,⟨3,0,0⟩]
def rI:List Nd:=[⟨9,0,0⟩]
def rX:List Nd:=[⟨4,0,0⟩,⟨9,0,0⟩,⟨9,0,0⟩]
def jJ(r:List Nd):cf:={kind:=1,sort:=rT,params:=[],indices:=[],ctors:=[⟨[],[]⟩,⟨[r],[]⟩],type:=[],body:=[] }
def BN(r:List Nd)(nat:Int):ak:=⟨0,[],[jJ r],nat,[]⟩
theorem wq':famTop (BN rI 0) 0 9= .ok ((),9):=UD
theorem yF':famTop (BN rX (-1)) 0 9= .error 20:=UD
theorem yG':ka (BN rX (-1)) 0=(false,0):=UD
theorem HW{r:List Nd}(h:r.length<=1000000)(nat:Int):dh (BN r nat):=⟨by simp[BN],by simp[BN],by simp[BN],λx b=>by
 obtain rfl:x=jJ r:=by simpa[BN]using b
 refine⟨by simp[jJ,rT],by simp[jJ],by simp[jJ],⟨by simp[jJ],by simp[jJ]⟩,⟨by simp[jJ],by simp[jJ]⟩,by simp[jJ],λc a=>?_⟩;have a:c=⟨[],[]⟩ \/c=⟨[r],[]⟩:=by simpa[jJ]using a
 rcases a with rfl|rfl
 ·exact⟨⟨Ud,Ud⟩,⟨Ud,Ud⟩⟩
 ·exact⟨⟨Ud,by simpa using h⟩,⟨Ud,Ud⟩⟩⟩
theorem HX{C:Mem}{a b:Int}{v:Value}(h:RV C (.tup [pI a,pI b]) v):v= .tuple #[.int .i64 a,.int .i64 b]:=by
 cases h with
 |tup _ c d h=>
  match c,d with
  |[x,y],_=>rw[fK (h 0 _ x rfl rfl),fK (h 1 _ y rfl rfl)]
theorem HY{C:Mem}{w:World}{r:List Nd}{nat:Int}(hS:Sub C w){vb:Value}(a:BoV C (BN r nat) vb)(hr:r.length<=1000000):
  CC 9 #[vb,.int .i64 0,.int .i64 9] w (λe w'=>(match famTop (BN r nat) 0 9 with
   | .ok q=>e= .returned (.tuple #[.int .i64 (q.2:Int),.int .i64 0])
   | .error er=>e= .returned (.tuple #[.int .i64 0,.int .i64 er]))/\Kp [] w w'):=by
 have h:=BG a.boi (HW hr nat) 0 9;refine⟨h.run.1,(h.run.2 w C [vb,.int .i64 0,.int .i64 9] hS (dF a.rv (dF (.int _ _) (dF (.int _ _) mg)))).mono λe w' ⟨u,d,b,hr,c⟩=>⟨?_,c.kp⟩⟩;subst b
 revert hr
 cases famTop (BN r nat) 0 9 with
 |ok q=>exact λhr=>KG _ (HX hr)
 |error e=>exact λhr=>KG _ (HX hr)
theorem P7{C:Mem}{w:World}{r:List Nd}{nat:Int}(hS:Sub C w){vb:Value}(a:BoV C (BN r nat) vb)(hr:r.length<=1000000):
  CC 7 #[vb,.int .i64 0] w (λe w'=>e= .returned (.tuple #[.bool (ka (BN r nat) 0).1,.int .i64 (ka (BN r nat) 0).2])/\Kp [] w w'):=by
 have h:=A7 (HW hr nat) 0;refine⟨h.run.1,(h.run.2 w C [vb,.int .i64 0] hS (dF a.rv (dF (.int _ _) mg))).mono λe w' ⟨u,j,b,hr,c⟩=>⟨?_,c.kp⟩⟩;subst b;cases hr with
 |tup _ d f h=>
  match d,f with
  |[x,y],_=>
   rw[fK (h 1 _ y rfl rfl)];have i:=h 0 _ x rfl rfl;cases i
   rfl
section
variable{w:World}
theorem BK{α:Type}{R:Rd α}{b T:Nat}{x:α}{cs:List Value}(hb:Bk w.heap b cs T)(c:R.den (Im [] w) cs x):SV R (Im [] w) [x] (.slice (some ⟨b,0,none⟩) 1 1):=by
 refine⟨_,_,rfl,⟨Ud,.inr ⟨b,0,rfl,λi y a=>?_⟩⟩,Ud⟩
 match i,a with
 |0,a=>
  obtain rfl:x=y:=by simpa using a
  refine⟨cs,c,λj v d=>⟨?_,Ud⟩⟩;rw[Nat.zero_mul,Nat.add_zero,KW];exact hb.cl d
 |i+1,a=>simp at a
theorem HZ{α:Type}{R:Rd α}{b T:Nat}{x y:α}{cs ds:List Value}(hb:Bk w.heap b (cs++ds) T)(d:R.den (Im [] w) cs x)(he:R.den (Im [] w) ds y):SV R (Im [] w) [x,y] (.slice (some ⟨b,0,none⟩) 2 2):=by
 have e:=R.len d;refine⟨_,_,rfl,⟨Ud,.inr ⟨b,0,rfl,λi z a=>?_⟩⟩,Ud⟩
 match i,a with
 |0,a=>
  obtain rfl:x=z:=by simpa using a
  refine⟨cs,d,λj v c=>⟨?_,Ud⟩⟩;rw[Nat.zero_mul,Nat.add_zero,KW];exact hb.cl (by rw[QH (aL c)];exact c)
 |1,a=>
  obtain rfl:y=z:=by simpa using a
  refine⟨ds,he,λj v c=>⟨?_,Ud⟩⟩;rw[Nat.one_mul,KW];exact hb.cl (by rw[QU Uo,e,Nat.add_sub_cancel_left];exact c)
 |i+2,a=>simp at a
theorem P8{b:Nat}(d:Bk w.heap b [.int .i64 4,.int .i64 0,.int .i64 0,.int .i64 9,.int .i64 0,.int .i64 0,.int .i64 9,.int .i64 0,.int .i64 0] 47):SV rNd (Im [] w) rX (.slice (some ⟨b,0,none⟩) 3 3):=by
 refine⟨_,_,rfl,⟨by simp[rX],.inr ⟨b,0,rfl,λi m c=>?_⟩⟩,KJ _⟩;have e:i<3:=aL c;obtain rfl|rfl|rfl:i=0 \/i=1 \/i=2:=Uo
 all_goals
  obtain rfl:=JB c;exact⟨_,⟨rfl,⟨Ud,Ud⟩,⟨Ud,Ud⟩,⟨Ud,Ud⟩⟩,λj u a=>⟨d.cl (by
   match j,a with
   |0,a=>exact a
   |1,a=>exact a
   |2,a=>exact a
   |j+3,a=>simp at a),Ud⟩⟩
def BL(w:World)(b3 b7 b9 b11:Nat)(vr:Value):Prop:=
 Bk w.heap b3 [.int .i64 2,.int .i64 1,.int .i64 1,.int .i64 3,.int .i64 0,.int .i64 0] 47/\Bk w.heap b7 [vr] 39/\Bk w.heap b9 [.slice none 0 0,.slice none 0 0,.slice (some ⟨b7,0,none⟩) 1 1,.slice none 0 0] 49/\
  Bk w.heap b11 [.int .i64 1,.slice (some ⟨b3,0,none⟩) 2 2,.slice none 0 0,.slice none 0 0,.slice (some ⟨b9,0,none⟩) 2 2,.slice none 0 0,.slice none 0 0] 43
theorem BM{a:Nat}(h:Bk w.heap a [.int .i64 2,.int .i64 1,.int .i64 1,.int .i64 3,.int .i64 0,.int .i64 0] 47):SV rNd (Im [] w) rT (.slice (some ⟨a,0,none⟩) 2 2):=
 HZ (cs:=[.int .i64 2,.int .i64 1,.int .i64 1]) (ds:=[.int .i64 3,.int .i64 0,.int .i64 0]) h ⟨rfl,⟨Ud,Ud⟩,⟨Ud,Ud⟩,⟨Ud,Ud⟩⟩ ⟨rfl,⟨Ud,Ud⟩,⟨Ud,Ud⟩,⟨Ud,Ud⟩⟩
theorem H0{j b k a:Nat}{i:Value}{r:List Nd}{nat:Int}(h:BL w j b k a i)(hr:SV rNd (Im [] w) r i):BoV (Im [] w) (BN r nat) (.agg #[.int .i64 0,.slice none 0 0,.slice (some ⟨a,0,none⟩) 1 1,.int .i64 nat,.slice none 0 0]):=by
 obtain⟨l,m,o,c⟩:=h;refine⟨_,_,_,rfl,SV.nil _ _,BK c ?_,SV.nil _ _⟩;obtain⟨p,q,rfl,d,e⟩:=hr;have f:SV (gJ rNd) (Im [] w) [r] (.slice (some ⟨b,0,none⟩) 1 1):=BK m ⟨_,_,rfl,e,d⟩;refine⟨_,_,_,_,_,_,rfl,⟨by simp[jJ],by simp[jJ]⟩,BM l,SV.nil _ _,SV.nil _ _,?_,SV.nil _ _,SV.nil _ _⟩;exact HZ (cs:=[.slice none 0 0,.slice none 0 0]) (ds:=[.slice (some ⟨b,0,none⟩) 1 1,.slice none 0 0]) o ⟨_,_,rfl,SV.nil _ _,SV.nil _ _⟩ ⟨_,_,rfl,f,SV.nil _ _⟩
theorem H1(w:World):
  CC 14 #[] w (λe w'=>(∃d c f h a,e= .returned (.agg #[.int .i64 0,.slice none 0 0,.slice (some ⟨a,0,none⟩) 1 1,.int .i64 0,.slice none 0 0])/\BL w' d f h a (.slice (some ⟨c,0,none⟩) 1 1)/\Bk w'.heap c [.int .i64 9,.int .i64 0,.int .i64 0] 47/\w.heap.size<=d/\d<c/\c<f/\f<h/\h<a)/\Kp [] w w'):=by
 refine oF func14 ?_;refine cO (args:=[]) 13 [.cell 0 26] τok func14 ?_;refine fD λY Z p D E q=>?_;refine fill [.int .i64 2,.int .i64 1,.int .i64 1,.int .i64 3,.int .i64 0,.int .i64 0] rfl<|fD λd w1 F I K r=>?_;refine fill [.int .i64 9,.int .i64 0,.int .i64 0] rfl<|fD λc w2 L M N s=>?_;refine fill [.slice (some ⟨c,0,none⟩) 1 1] rfl<|fD λf w3 O P R u=>?_;refine fill [.slice none 0 0,.slice none 0 0,.slice (some ⟨f,0,none⟩) 1 1,.slice none 0 0] rfl<|fD λh w4 S T U x=>?_;refine fill [.int .i64 1,.slice (some ⟨d,0,none⟩) 2 2,.slice none 0 0,.slice none 0 0,.slice (some ⟨h,0,none⟩) 2 2,.slice none 0 0,.slice none 0 0] rfl<|fD λa w5 C y V z=>?_;have i:=z;have k:=x.tr i;have l:=u.tr k;have m:=s.tr l;have o:=r.tr m;refine stN (vs:=[.int .i64 0,.slice none 0 0,.slice (some ⟨a,0,none⟩) 1 1,.int .i64 0,.slice none 0 0]) (D.kp o Ud) rfl (by simp[Value.oneCell']) λw6 A W b=>?_;refine rh τok rfl [_,_,_,_,_] rfl (λj v X=>A.cl X)<|⟨⟨d,c,f,h,a,rfl,⟨(I.kp m Ud).kp b Uk,(P.kp k Ud).kp b Uk,(T.kp i Ud).kp b Uk,y.kp b Uk⟩,(M.kp l Ud).kp b Uk,Uo,Uo,Uo,Uo,Uo⟩,(q.tr o).newSt p b⟩
theorem P9(w:World):
  CC 5 #[] w (λe w'=>e= .returned (.bool true)/\Kp [] w w'):=by
 refine oF func5 ?_;refine cO (args:=[]) 56 [.tmp 0] τok func5 ?_;refine fZ (H1 w) ?_;rintro e R ⟨⟨b3,U,b7,b9,V,rfl,D,W,_⟩,r⟩;have E:SV rNd (Im [] R) rI (.slice (some ⟨U,0,none⟩) 1 1):=BK W ⟨rfl,⟨Ud,Ud⟩,⟨Ud,Ud⟩,⟨Ud,Ud⟩⟩;refine fZ (HY (Im.sub [] R) (H0 (nat:=0) D E) UO) ?_;rintro e X ⟨l,s⟩;rw[wq']at l;have l:e= .returned (.tuple #[.int .i64 9,.int .i64 0]):=l;subst l;refine fZ (H1 X) ?_;rintro e S ⟨⟨Y,c6,z,Z,f,rfl,D,g6,q1,q2,q3,q4,q5⟩,F⟩;refine fD λI w4 K h a0 L=>?_;refine stN (vs:=[.int .i64 0,.slice none 0 0,.slice (some ⟨f,0,none⟩) 1 1,.int .i64 0,.slice none 0 0]) h rfl (by simp[Value.oneCell']) λw5 h a1 M=>?_;have i:=L.newSt K M;obtain⟨N,m,A,j⟩:=D;have N:=N.kp i Ud;have m:=m.kp i Ud;have A:=A.kp i Ud;have T:=j.lt;have j:=j.kp i Ud;refine lb h ?_;refine ix 0 rfl Uo<|lb j ?_;refine ix 1 rfl Uo<|lb A ?_;refine fill [.int .i64 4,.int .i64 0,.int .i64 0,.int .i64 9,.int .i64 0,.int .i64 0,.int .i64 9,.int .i64 0,.int .i64 0] rfl<|fD λO w6 a2 k a3 a=>?_;refine ix 0 rfl Uo<|st (b:=z) (o:=0) (m.kp a Ud) Ud rfl λw7 m a4 c=>?_;have m:Bk w7.heap z [.slice (some ⟨O,0,none⟩) 3 3] 39:=m;refine st (b:=I) (o:=3) ((h.kp a Ud).kp c Uk) Ud rfl λp h a5 d=>?_;have h:Bk p.heap I [.int .i64 0,.slice none 0 0,.slice (some ⟨f,0,none⟩) 1 1,.int .i64 (-1),.slice none 0 0] 26:=h;have hL:BL p Y z Z f (.slice (some ⟨O,0,none⟩) 3 3):=⟨((N.kp a Ud).kp c Uk).kp d Uk,m.kp d Uk,((A.kp a Ud).kp c Uk).kp d Uk,((j.kp a Ud).kp c Uk).kp d Uk⟩
 have k:=(k.kp c Uk).kp d Uk;have P:SV rNd (Im [] p) rX (.slice (some ⟨O,0,none⟩) 3 3):=P8 k;have u:=H0 (nat:=-1) hL P;refine jL [.int .i64 0,.slice none 0 0,.slice (some ⟨f,0,none⟩) 1 1,.int .i64 (-1),.slice none 0 0] rfl (bZ h)<|fZ (HY (Im.sub [] p) u UO) ?_;rintro e w9 ⟨l,q⟩;rw[yF']at l;have l:e= .returned (.tuple #[.int .i64 0,.int .i64 20]):=l;subst l;have h:=h.kp q Ud;refine jL [.int .i64 0,.slice none 0 0,.slice (some ⟨f,0,none⟩) 1 1,.int .i64 (-1),.slice none 0 0] rfl (bZ h)<|fZ (P7 (C:=Im [] p) ((Im.sub [] p).tr q) u UO) ?_;rintro e a6 ⟨rfl,v⟩;rw[yG'];refine⟨rfl,?_⟩;have y:Kp [] w S:=(r.tr s).tr F;have k8:Kp [z,I] S p:=((((i.tr a).weak Ud).trans c λx k _=>by simp at k;simp[k])).trans d λx k _=>by simp at k;simp[k]
 have a7:=y.size;have s2:=(r.tr s).size;exact((y.trans k8 λx k hl=>by simp at k;omega).tr q).tr v
end
theorem xb{n:Nat}(h:n<=100000):bK (n:Int)=n:=by unfold bK;omega
theorem nr{α β:Type}{m m':Except Int (α×Nat)}{k a:α ->Nat ->Except Int (β×Nat)}(hm:m=m')(h:∀q,m'= .ok q ->k q.1 q.2=a q.1 q.2):aQ m k=aQ m' a:=by
 subst hm;cases m with
 |error e=>rfl
 |ok q=>exact h q rfl
def kn(B:ak):List Tr ->Ctx ->Nat ->RS Ctx
 |[],cx,n=>.ok (cx,n)
 |x::r,cx,n=>aJ (sortS B (inferS B GJ) cx x n) λ_ n=>kn B r (cx++[(x,none)]) n
def nt(B:ak)(e:Int):List Tr ->Ctx ->Nat ->RS Ctx
 |[],cx,n=>.ok (cx,n)
 |a::r,cx,n=>aJ (sortS B (inferS B GJ) cx a n) λl n=>if gb B.vars B.orders l.2 (bq (tr (ax B e).sort))=false then .error (21,n)
   else if fV (ax B e).params.length (ax B e).indices.length e a (cx.length:Int)=false then .error (20,n)else nt B e r (cx++[(a,none)]) n
def ml(B:ak)(e:Int)(go:List Tr)(na:Nat)(cx:Ctx):List Tr ->Nat ->Nat ->RS Unit
 |[],_,n=>.ok ((),n)
 |o::r,j,n=>if bL (row o) e=true then .error (20,n)else aJ (du (iS (fq B e) go na j) n) λwant n=>aJ (checkS B (inferS B GJ) cx o want n) λ_ n=>ml B e go na cx r (j+1) n
def ig(B:ak)(e:Int)(cp:Ctx):List dy ->Nat ->RS Unit
 |[],n=>.ok ((),n)
 |c::r,n=>aJ (nt B e (c.args.map tr) cp n) λcx n=>aJ (ml B e (c.out.map tr) c.args.length cx (c.out.map tr) 0 n) λ_ n=>ig B e cp r n
def pv(B:ak)(e:Int)(n:Nat):RS Unit:=
 aJ (inferS B GJ [] (tr (ax B e).sort) n) λ_ n=>aJ (kn B (gh B e) [] n) λcp n=>aJ (kn B (fq B e) cp n) λ_ n=>ig B e cp (ax B e).ctors n
section
variable{B:ak}(hB:GoodB B)
include hB
theorem mw':∀(l:List Tr) (cx:Ctx) (n:Nat),n<=100000 ->dq (kn B l cx n)=gn B l cx n/\∀q,gn B l cx n= .ok q ->q.2<=n
 |[],cx,n,h=>⟨rfl,λq e=>by cases e;exact KJ _⟩
 |x::r,cx,n,h=>by
  simp only[kn,gn,iT,gp (bS' GJ)];have e:iy B cx x (n:Int)=dD B (eu B GJ) cx x n:=by unfold iy;rw[xb h]
  refine⟨nr e.symm λq a=>?_,λq a=>?_⟩
  ·rw[e]at a
   have:=(fA hB (dj hB GJ) a).2.1;exact(mw' r _ _ Uo).1
  ·obtain⟨p,b,c⟩:=bC a
   rw[e]at b;have:=(fA hB (dj hB GJ) b).2.1;have:=(mw' r _ _ Uo).2 q c;omega
theorem BO(en:Int):∀(l:List Tr) (cx:Ctx) (n:Nat),n<=100000 ->dq (nt B en l cx n)=jl B en l cx n/\∀q,jl B en l cx n= .ok q ->q.2<=n
 |[],cx,n,h=>⟨rfl,λq e=>by cases e;exact KJ _⟩
 |x::r,cx,n,h=>by
  simp only[nt,jl,iT,gp (bS' GJ),mi,oE];have e:iy B cx x (n:Int)=dD B (eu B GJ) cx x n:=by unfold iy;rw[xb h]
  refine⟨nr e.symm λq b=>?_,λq b=>?_⟩
  ·rw[e]at b
   have:=(fA hB (dj hB GJ) b).2.1;rw[(BO en r _ _ Uo).1]
  ·obtain⟨p,c,a⟩:=bC b
   rw[e]at c;have:=(fA hB (dj hB GJ) c).2.1;split at a
   ·cases a
   split at a
   ·cases a
   have:=(BO en r _ _ Uo).2 q a;omega
theorem BP(en:Int)(go:List Tr)(a:Nat)(cx:Ctx):∀(l:List Tr) (j n:Nat),n<=100000 ->dq (ml B en go a cx l j n)=jm B en go a cx l j n/\∀q,jm B en go a cx l j n= .ok q ->q.2<=n
 |[],j,n,h=>⟨rfl,λq e=>by cases e;exact KJ _⟩
 |x::r,j,n,h=>by
  have e:∀(w:Tr) (m:Nat),m<=100000 ->kZ B cx x w (m:Int)=dU B (eu B GJ) cx x w m:=λw m h=>by unfold kZ;rw[xb h]
  have d:∀{q:Tr×Nat},cU (iS (fq B en) go a j) n= .ok q ->q.2=n:=λ{q} h=>by
   cases f:iS (fq B en) go a j with
   |error e=>rw[f]at h;cases h
   |ok z=>rw[f]at h;cases h;rfl
  simp only[ml,jm,iT,tH,kg (bS' GJ),mi,oE];constructor
  ·split
   ·rfl
   refine nr rfl λq b=>?_;have:=d b;refine nr (e _ _ Uo).symm λq1 c=>?_;rw[e _ _ Uo]at c;have:=(jC (dj hB GJ) c).2;exact(BP en go a cx r _ _ Uo).1
  ·intro q b
   split at b
   ·cases b
   obtain⟨p,k,o⟩:=bC b;have:=d k;obtain⟨u,i,s⟩:=bC o;rw[e _ _ Uo]at i;have:=(jC (dj hB GJ) i).2;have:=(BP en go a cx r _ _ Uo).2 q s;omega
theorem H2(en:Int)(a:Ctx):∀(l:List dy) (n:Nat),n<=100000 ->dq (ig B en a l n)=j8 B en a l n
 |[],n,h=>rfl
 |c::r,n,h=>by
  simp only[ig,j8,iT];obtain⟨d,e⟩:=BO hB en (c.args.map tr) a n h;refine nr d λq f=>?_;have:=e q f;obtain⟨i,j⟩:=BP hB en (c.out.map tr) c.args.length q.1 (c.out.map tr) 0 q.2 Uo;refine nr i λq1 b=>?_;have:=j q1 b;exact H2 en a r _ Uo
theorem Qa(en:Int){n:Nat}(h:n<=100000):dq (pv B en n)=pk B en n:=by
 unfold pv pk;simp only[iT,bS' GJ _ _ _];have e:mc B [] (tr (ax B en).sort) (n:Int)=eu B GJ [] (tr (ax B en).sort) n:=by unfold mc;rw[xb h]
 refine nr e.symm λq c=>?_;rw[e]at c;have:=(dj hB GJ).le _ _ _ _ c;obtain⟨d,f⟩:=mw' hB (gh B en) [] q.2 Uo;refine nr d λq1 a=>?_;have:=f q1 a;obtain⟨i,j⟩:=mw' hB (fq B en) q1.1 q1.2 Uo;refine nr i λk b=>?_;have:=j k b;exact H2 hB en _ _ _ Uo
end
end Go.Q
