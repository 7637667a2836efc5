import Derived.Test.YtjnjbghlemiklaaGreatMq14
import Derived.Test.YtjnjbghlemiklaaGreatRows
import Derived.ProofKit
import Derived.OpenShut
import Derived.Deep.Slices
import Derived.JoinedCond
set_option linter.unusedVariables false
set_option linter.unusedSimpArgs false
set_option linter.unusedSectionVars false
set_option maxRecDepth 100000
set_option maxHeartbeats 4000000
open Go.Proofs.Tryz
namespace Go.Proofs.YtjnjbghlemiklaaGreat
open Go.Wx Cd Tm Lv
abbrev CxR:=List (List Nd×List Nd)
def gv(B:aq)(c:CxR)(t:List Nd)(fuel:Int):Except Int (Tr×Nat):=if dO B c t≠0 then .error (dO B c t)else jr B (dW c) (tr t) fuel
def zg(B:aq)(c:CxR)(t ty:List Nd)(fuel:Int):Except Int (Unit×Nat):=if dO B c t≠0 then .error (dO B c t)else if dO B c ty≠0 then .error (dO B c ty)else Ly B (dW c) (tr t) (tr ty) fuel
def px(B:aq)(c:CxR)(t:List Nd)(fuel:Int):Except Int ((Int×List Atom)×Nat):=if dO B c t≠0 then .error (dO B c t)else pg B (dW c) (tr t) fuel
def E7(B:aq)(c:CxR)(t:List Nd)(fuel:Int):Except Int (Tr×Nat):=if dO B c t≠0 then .error (dO B c t)else dC B (dW c) (tr t) fuel
theorem iq(c:CxR):(dW c).length=c.length:=by simp[dW]
section
variable{B:aq}{cx:Ctx}{t:Tr}{n g:Nat}{rs:RcS}{rc:RcJ}
variable(hS:dc B)(hR:cZ B=0)(hB:GoodB B)
section
variable(hcx:CxOk B cx)(hcl:cx.length<=260)(ht:Ft (QB B) (cx.length:Int) t)(hfg:Fg rs rc)(hr:cv B rc)
include hS hR hB hcx hcl ht hfg hr
theorem Mp(a:t.n.op=11)(d:n<=100000)(b:pv B rs g)(f:t.n.a.toNat*5000+4096<=g)(h:∀i,i<(kidsT t).length ->∀n,n<=100000 ->dQ B rs cx (kidD t i) n):dX B cx t n (smatch B rs cx t.n (kidsT t) n):=by
 unfold dX;have j:=Mn hS hR hB hcx hcl ht hfg hr a d b f h;have c:=aB ht;refine aX (r:=.ok (_,_)) 379 [.tmp 6] τok func29 ?_;refine aj τok<|vn (p:=(0:Int)≠0) ?_ OO;refine vm (p:=ndP) 0 (aJ c) ?_;refine af (iI c) ?_;refine vn (p:=t.n.op=1) ?_;refine vn (p:=t.n.op=2) ?_;refine vn (p:=t.n.op=4) ?_;refine vn (p:=t.n.op=5) ?_;refine vn (p:=t.n.op=6) ?_;refine vn (p:=t.n.op=7) ?_;refine vn (p:=t.n.op=8) ?_;refine vn (p:=t.n.op=9) ?_;refine vn (p:=t.n.op=10) ?_;refine vy (p:=t.n.op=11) ?_ a;refine ax j ?_;cases smatch B rs cx t.n (kidsT t) n with
 |ok q=>exact eP9
 |error e=>exact eP9
end
include hS hR hB
theorem Mq(hfg:Fg rs rc)(hr:cv B rc)(c:pv B rs g):pv B (po B rs) (g+1):=λcx k t n hcx hcl ht p F b=>by
 have l:=aB ht;have a:∀i,i<(kidsT t).length ->Mt k (kidD t i)/\k*5000+(row (kidD t i)).length<=g:=λi e=>by
  have:=p.kid (JQ (cj l e).1);exact⟨this.1,Oo⟩
 show dX B cx t n (po B rs cx t n);unfold po;refine Do t ht.ok (λh=>?_) (λh=>?_) (λh=>?_) (λh=>?_) (λh=>?_) (λh=>?_) (λh=>?_) (λh=>?_) (λh=>?_) (λh=>?_) (λh=>?_)
 ·rw[if_pos h]
  exact L9 hB hcx hcl ht h
 ·rw[if_neg Oo,if_pos h]
  exact Ma hB hcx hcl ht h
 ·rw[if_neg Oo,if_neg Oo,if_pos h]
  exact Mb hB hcx hcl ht h
 ·rw[if_neg Oo,if_neg Oo,if_neg Oo,if_pos h]
  exact Mc hS hR hB hcx hcl ht h
 ·rw[if_neg Oo,if_neg Oo,if_neg Oo,if_neg Oo,if_pos h]
  exact Me hS hR hB hcx hcl ht h
 ·rw[if_neg Oo,if_neg Oo,if_neg Oo,if_neg Oo,if_neg Oo,if_pos h]
  obtain⟨m,d,f⟩:=dU ht (.inl h);exact Mf hS hR hB hcx hcl ht hfg hr h b (λn b=>c _ k _ _ hcx hcl d (a 0 Oo).1 (a 0 Oo).2 b) λo n b=>c _ k _ _ (hcx.snoc d λx j=>by cases j) (by rw[bL];omega) (by rw[bL];exact f.mono Oo) (a 1 Oo).1 (a 1 Oo).2 b
 ·rw[if_neg Oo,if_neg Oo,if_neg Oo,if_neg Oo,if_neg Oo,if_neg Oo,if_pos h]
  obtain⟨m,d,f⟩:=dU ht (.inr h);exact Mg hS hR hB hcx hcl ht hfg hr h b (λn b=>c _ k _ _ hcx hcl d (a 0 Oo).1 (a 0 Oo).2 b) λo n b=>c _ k _ _ (hcx.snoc d λx j=>by cases j) (by rw[bL];omega) (by rw[bL];exact f.mono Oo) (a 1 Oo).1 (a 1 Oo).2 b
 ·rw[if_neg Oo,if_neg Oo,if_neg Oo,if_neg Oo,if_neg Oo,if_neg Oo,if_neg Oo,if_pos h]
  obtain⟨m,d,f⟩:=qA ht h;exact Mh hS hR hB hcx hcl ht hfg hr h b (λn b=>c _ k _ _ hcx hcl d (a 0 Oo).1 (a 0 Oo).2 b) λn b=>c _ k _ _ hcx hcl f (a 1 Oo).1 (a 1 Oo).2 b
 ·rw[if_neg Oo,if_neg Oo,if_neg Oo,if_neg Oo,if_neg Oo,if_neg Oo,if_neg Oo,if_neg Oo,if_pos h]
  obtain⟨m,d,f,r⟩:=nM ht h;exact Mi hS hR hB hcx hcl ht hfg hr h b (λn b=>c _ k _ _ hcx hcl d (a 0 Oo).1 (a 0 Oo).2 b) (λn b=>c _ k _ _ hcx hcl f (a 1 Oo).1 (a 1 Oo).2 b) λo n b=>c _ k _ _ (hcx.snoc d λx j=>by injection j with j;rw[<- j];exact f) (by rw[bL];omega) (by rw[bL];exact r.mono Oo) (a 2 Oo).1 (a 2 Oo).2 b
 ·rw[if_neg Oo,if_neg Oo,if_neg Oo,if_neg Oo,if_neg Oo,if_neg Oo,if_neg Oo,if_neg Oo,if_neg Oo,if_pos h]
  obtain⟨u,v,y,z⟩:=qD ht h;have C:=(jS hB (jK ht.node' (.inr h))).1;have D:t.n.a<(k:Int):=p t.n (JQ (aJ l)) h;have:=aS t;exact Mp hS hR hB hcx hcl ht hfg hr h b c Oo λi e n b=>c _ k _ _ hcx hcl (z _ (JQ (cj l e).1)) (a i e).1 (a i e).2 b
 ·rw[if_neg Oo,if_neg Oo,if_neg Oo,if_neg Oo,if_neg Oo,if_neg Oo,if_neg Oo,if_neg Oo,if_neg Oo,if_neg Oo]
  obtain⟨u,v,y,_⟩:=dM ht.ok h;have E:=fK ht.ok h;have q:(cx++bi t).length=cx.length+t.n.b.toNat:=by rw[JK,oU]
  exact Ml hS hR hB hcx hcl ht hfg hr h b (λi e n b=>c _ k _ _ hcx hcl (ib ht h e).2.2.1 (a _ Oo).1 (a _ Oo).2 b) λo i e n b=>c _ k _ _ (nO hcx Oo ht h) Oo ((ib ht h e).2.2.2.mono Oo) (a _ Oo).1 (a _ Oo).2 b
theorem typV:∀g,pv B (rA B g) g
 |0=>λcx k t n _ _ _ _ h _=>by
  have:=aS t;omega
 |g+1=>Mq hS hR hB (hA' g) (kH hB g) (typV g)
end
theorem Mr(n:Int):min (max n 0) 100000=((bE n:Nat):Int):=by
 unfold bE;omega
theorem zh{B:aq}(n:Int):VN prog 28 [aW B,pI n] 93 (cH B (bE n:Nat) 0):=by
 have a:=LB n;rw[Mr]at a;refine G1 10 [.tmp 4] τok func28 ?_;refine aj τok ?_;refine af a ?_;refine vk ?_;exact⟨_,_,rfl,rfl,rfl⟩
def tZ(r:Except Int (Tr×Nat)):PV:=match r with
 | .ok q=>.tup [ah (row q.1),pI q.2,pI 0]
 | .error e=>.tup [.sl [],pI 0,pI e]
theorem Ms{B:aq}(hS:dc B){c:CxR}(hc:rn c){t:List Nd}(ht:t.length<=1000000)(fuel:Int):VC prog 9 [aW B,aG c,ah t,pI fuel] (tZ (gv B c t fuel)):=by
 have r:=LR hS hc ht;generalize a:gv B c t fuel=f;unfold gv at a;refine vf 39 [.tmp 8,.tmp 9,.tmp 10] τok func9 ?_;refine af r ?_;refine ae (λj=>?_) (λj=>?_)
 ·rw[if_pos j]at a
  subst a;exact eA9
 rw[if_neg j]at a;obtain⟨hB,hR,u,k,hcx,l,b⟩:=mQ (Decidable.not_not.1 j);refine Gl (zh fuel) ?_;have d:=typV hS hR hB GJ (dW c) 64 (tr t) (bE fuel) hcx (by rw[iq];omega) (by rw[iq];exact b) (rh hB b) (by have:=oX';have:=b.len;omega) (ri _);have hfg:=hA' (B:=B) GJ (dW c) (tr t) (bE fuel);unfold dQ at d;rw[<- l,<- k]at d;unfold jr at a;rw[<- hfg]at a;have m:∀x,rA B GJ (dW c) (tr t) (bE fuel)= .error x ->x.1≠0:=λx h=>(kH hB GJ).er _ _ _ _ (nc (hA' GJ) h);cases hr:rA B GJ (dW c) (tr t) (bE fuel)with
 |error e=>
  have o:=m e hr;rw[hr]at d a;have a:.error e.1=f:=a;subst a;refine ax d ?_;have i:=leftV (B:=B) e.2 e.1;rw[if_neg o]at i;refine ax i ?_;refine vy (p:=e.1≠0) ?_ o;exact eA9
 |ok q=>
  rw[hr]at d a;have a:.ok q=f:=a;subst a;refine ax d ?_;have i:=leftV (B:=B) q.2 0;rw[if_pos rfl]at i;refine ax i ?_;refine vn (p:=(0:Int)≠0) ?_ OO;exact eA9
theorem qR':VD prog 82 .returning [0,1] [] []:=by
 refine xr ⟨_,func82,rfl,OO⟩ λj d w=>?_;obtain⟨k,l,rfl⟩:=xi d;refine callsD_of_wpS func82 rfl λa m b=>?_;apply wpS_seq;apply wpS_region;simp[wpOpsS,go_sem,recoverD,b,Exit.thenS,Instr.typeAssert,underlying129,Tryz.zeroValue129];refine wpS_of_wp (Go.wp_mono (kY τok (n:=12) _ ⟨[(3,.bool false)],[]⟩ _ (λe s c=>e= .normal/\s.d=[]/\Kp [] w c) ?_ _ (nI Od rfl Od)) ?_)
 ·exact⟨rfl,rfl,Kp.alloc _ _⟩
 rintro e o c ⟨s,f,rfl,h,i⟩;exact sK f h rfl b ⟨⟨_,rfl⟩,rfl,i⟩
def zi(x y:PV):List (Nat×SE):=[(0,.st 1 3 [.p x]),(1,.st 2 34 [.p y])]
theorem E8(er:Int){x y:PV}:VD prog 82 (.panicking (ew er)) [0,1] (zi x y) (zi (pI 0) (pI er)):=by
 refine⟨⟨_,func82,rfl,OO⟩,λw X C ρ hR=>?_⟩;refine callsD_of_wpS func82 rfl λb j c=>?_;apply wpS_seq;apply wpS_region;simp[wpOpsS,go_sem,recoverD,c,Exit.thenS,Instr.typeAssert,underlying129,Tryz.zeroValue129];refine wpS_of_wp (Go.wp_mono (xt (n:=12) (m2:=zi (pI 0) (pI er)) (q:=2) (p:=3) (k:=2) hR (aj τok ?_) (nI Od rfl (by simp[ini]))) ?_)
 ·refine vk ?_
  exact⟨rfl,rfl,rfl,trivial⟩
 rintro e l m ⟨rfl,s,d,f,h,a,i⟩;exact wH d f rfl ⟨⟨_,rfl⟩,rfl,h,a,i⟩
section
variable{B:aq}{cx:Ctx}(hI:BoI B)(hB:GoodB B)(hcx:CxOk B cx)(hcl:cx.length<=260)
include hI hB hcx hcl
def n9(g:Nat)(cx:Ctx)(t:Tr)(y:PV):List (Nat×SE):=[(100,.st g 27 [.p (aG (cx.map aA))]),(101,.st (g+1) 29 [.p (ah (row t))]),(102,.st (g+2) 29 [.p y])]
theorem Mu{t:Tr}(ht:Ft (QB B) (cx.length:Int) t){n:Nat}(d:n<=100000){y:PV}:match dD B GJ cx t n with
  | .ok q=>VG prog 45 [.c (.ptr 0 0),.c (.ptr 100 0),.c (.ptr 101 0),.c (.ptr 102 0)] ((0,.st 1 132 ((dm B n).map .p))::n9 2 cx t y) (.ok (.c (.p (.tup [])),(0,.st 1 132 ((dm B q.2).map .p))::n9 2 cx t (ah (row q.1))))
  | .error e=>VG prog 45 [.c (.ptr 0 0),.c (.ptr 100 0),.c (.ptr 101 0),.c (.ptr 102 0)] ((0,.st 1 132 ((dm B n).map .p))::(n9 2 cx t y).take 2) (.error (ew e)):=by
 have h:=ht.len;have f:=oX';have a:=jgG hI hB GJ cx 64 t n hcx hcl ht (rh hB ht) Oo d;unfold bG at a;cases hr:dD B GJ cx t n with
 |error e=>
  refine cI 10 [] τok func45 ?_;refine aj τok ?_;rw[hr]at a;refine cD a ?_;exact rfl
 |ok q=>
  refine cI 10 [] τok func45 ?_;refine aj τok ?_;rw[hr]at a;have b:=(kH hB GJ).ft _ _ _ _ hcx hcl ht hr;refine ax a ?_;refine af (oP (aS q.1) (by have:=b.len;omega)).vc ?_;exact .inl ⟨_,_,_,id,rfl,rfl,rfl,rfl,⟨rfl,rfl,rfl,rfl,trivial⟩,rfl⟩
theorem E9{t:Tr}(ht:Ft (QB B) (cx.length:Int) t)(fuel:Int){y:PV}:VG prog 44 [.c (.p (aW B)),.c (.p (pI fuel)),.c (.fn 45 [100,101,102])] (n9 1 cx t y) (.ok (match jr B cx t fuel with
  | .ok q=>(.c (.p (.tup [pI q.2,pI 0])),n9 1 cx t (ah (row q.1)))
  | .error e=>(.c (.p (.tup [pI 0,pI e])),[(102,.st 3 29 [.p y])]))):=by
 have b:min (max fuel 0) 100000=((bE fuel:Nat):Int):=by unfold bE;omega
 have a:=Mu hI hB hcx hcl ht (ri fuel) (y:=y);unfold jr
 generalize dD B GJ cx t (bE fuel)=r at a ⊢
 rcases r with e|q
 all_goals
  refine oL 23 [.cell 6 3,.cell 7 34] τok func44 ?_;refine aj τok<|⟨⟨rfl,rfl,rfl⟩,rfl,λd=>?_⟩;refine aj τok ?_
  first
   |refine mh (λk=>sw 0 15 k) a ?_ (he:=by rw[b];repeat first|exact True.intro|refine And.intro rfl ?_)
    refine jP (λk=>k+6) (λ_=>0) (E8 e) ?_;exact .inl ⟨_,_,_,id,rfl,rfl,rfl,rfl,⟨rfl,trivial⟩,rfl⟩
   |refine bv (λk=>sw 0 15 k) (λk=>k-99) a ?_ (he:=by rw[b];repeat first|exact True.intro|refine And.intro rfl ?_)
    refine jP (λk=>k+6) (λ_=>0) qR' ?_;exact .inl ⟨_,_,_,id,rfl,rfl,rfl,rfl,⟨rfl,rfl,rfl,trivial⟩,rfl⟩
theorem Mv{t:Tr}(ht:Ft (QB B) (cx.length:Int) t)(fuel:Int):VC prog 26 [aW B,aG (cx.map aA),ah (row t),pI fuel] (tZ (jr B cx t fuel)):=by
 have a:=E9 hI hB hcx hcl ht fuel (y:=.raw (.slice none 0 0))
 generalize jr B cx t fuel=r at a ⊢
 rcases r with e|q
 all_goals
  refine vf 24 [.tmp 8,.tmp 9,.tmp 10] τok func26 ?_;refine bv (λk=>sw 100 5 (sw 101 6 (sw 102 11 k))) (λ_=>0) a ?_;exact eA9
end
def de(lim:Int):List (List Nd) ->Int ->Int
 |[],a=>a
 |l::r,a=>if a<lim then de lim r (a+1+(l.length:Int))else a
def jw(lim:Int):List iv ->Int ->Int
 |[],a=>a
 |c::r,a=>if a<lim then jw lim r (a+1+de lim c.args 0+de lim c.out 0)else a
def jx(lim:Int):List bX ->Int ->Int
 |[],a=>a
 |x::r,a=>if a<lim then jx lim r (jw lim x.ctors (a+1+(x.sort.length:Int)+(x.type.length:Int)+(x.body.length:Int)+de lim x.params 0+de lim x.indices 0))else a
def rF(B:aq)(lim:Int):Int:=jx lim B.ents ((B.orders.length:Int)+(B.prims.length:Int))
theorem Mw{lim a:Int}(h:¬ a<lim):∀(l:List (List Nd)),de lim l a=a
 |[]=>rfl
 |l::r=>by simp only[de];rw[if_neg h]
theorem Mx{lim a:Int}(h:¬ a<lim):∀(l:List iv),jw lim l a=a
 |[]=>rfl
 |l::r=>by simp only[jw];rw[if_neg h]
theorem My{lim a:Int}(h:¬ a<lim):∀(l:List bX),jx lim l a=a
 |[]=>rfl
 |l::r=>by simp only[jx];rw[if_neg h]
def i5(lim:Int):CxR ->Int ->Int
 |[],a=>a
 |q::r,a=>if a<lim then i5 lim r (a+1+(q.1.length:Int)+(q.2.length:Int))else a
theorem Fa{lim a:Int}(h:¬ a<lim):∀(l:CxR),i5 lim l a=a
 |[]=>rfl
 |l::r=>by simp only[i5];rw[if_neg h]
structure kU where
 book:aq
 ctx:CxR
 term:List Nd
 type:List Nd
 fuel:Int
def CaV(C:Mem)(x:kU)(v:Value):Prop:=
 ∃v1 v2 v3 vc vt vy,v= .agg #[.int .i64 x.book.vars,v1,v2,.int .i64 x.book.nat,v3,vc,vt,vy,.int .i64 x.fuel]/\SV rOr C x.book.orders v1/\SV rEn C x.book.ents v2/\SV rPr C x.book.prims v3/\SV rBd C x.ctx vc/\SV rNd C x.term vt/\SV rNd C x.type vy/\I64 x.fuel
def lW(x:kU):Bool:=decide (2500<=rF x.book 2500)||(decide (1500<=i5 1500 x.ctx 0)||(decide (300<x.ctx.length)||(decide (1500<x.term.length+x.type.length)||decide (300<x.fuel))))
def B0:aq:=⟨0,[],[],-1,[]⟩
def r1:List Nd:=[⟨2,1,1⟩,⟨3,0,0⟩]
def r2:List Nd:=[⟨6,0,0⟩,⟨2,0,1⟩,⟨3,0,0⟩,⟨2,1,1⟩,⟨3,0,0⟩]
def x1:Tr:=.mk ⟨2,1,1⟩ [.mk ⟨3,0,0⟩ []]
def x0:Tr:=.mk ⟨2,0,1⟩ [.mk ⟨3,0,0⟩ []]
def x2:Tr:=.mk ⟨6,0,0⟩ [x0,x1]
theorem Ev':Ok .tm x1:=by
 refine⟨⟨rfl,⟨rfl,trivial⟩,trivial⟩,rfl⟩
theorem Ew':Ok .tm x2:=by
 refine⟨⟨rfl,⟨rfl,⟨rfl,trivial⟩,trivial⟩,⟨rfl,⟨rfl,trivial⟩,trivial⟩,trivial⟩,rfl⟩
theorem yu':row x1=r1:=rfl
theorem yv':row x2=r2:=rfl
theorem yw':cZ B0=0:=by rfl
theorem GE':Ft (QB B0) 0 x1:=⟨Ev',OO,λq b=>by simp[x1,varsT,varsK]at b,λm a=>by
 rw[yu']at a;simp only[r1,JJ,JZ,or_false]at a;rcases a with rfl|rfl<;>rfl⟩
theorem GF':Ft (QB B0) 0 x2:=⟨Ew',OO,λq b=>by simp[x2,x0,x1,varsT,varsK]at b,λm a=>by
 rw[yv']at a;simp only[r2,JJ,JZ,or_false]at a;rcases a with rfl|rfl|rfl|rfl|rfl<;>rfl⟩
theorem GG':dO B0 [] r1=0:=by
 have:=Du yw' (c:=[]) (λi q a=>by simp at a) Od (x:=x1) (by simpa using GE')
 rwa [yu']at this
theorem GH':dO B0 [] r2=0:=by
 have:=Du yw' (c:=[]) (λi q a=>by simp at a) Od (x:=x2) (by simpa using GF')
 rwa [yv']at this
theorem Mz{B:aq}{cx:Ctx}{x:Tr}{f:Int}(b:cg x=none)(hr:cf B cx x=false):dC B cx x f= .ok (x,bE f):=by
 have c:=CS';obtain⟨g,a⟩:∃g,GW=g+1:=⟨GW-1,Oo⟩
 unfold dC;rw[a];simp only[bY,gY,b,gZ];rw[if_neg (by rw[hr];simp)]
theorem GI':gv B0 [] r1 3= .ok (.mk ⟨2,1,1⟩ [.mk ⟨3,0,1⟩ []],3):=by
 unfold gv;rw[if_neg (by rw[GG'];simp)];have ht:tr r1=x1:=gW Ev';rw[ht];have b:=oX';obtain⟨g,a⟩:∃g,GJ=g+1:=⟨GJ-1,Oo⟩
 unfold jr;rw[a];simp only[dD];unfold ig;rw[if_neg OO,if_pos OO]
 rfl
theorem GJ':gv B0 [] r2 3= .error 12:=by
 unfold gv;rw[if_neg (by rw[GH'];simp)];have ht:tr r2=x2:=gW Ew';rw[ht];have d:=oX';obtain⟨g,a⟩:∃g,GJ=g+1+1:=⟨GJ-2,Oo⟩
 unfold jr;rw[a];simp only[dD];unfold ig;rw[if_neg OO,if_neg OO,if_neg OO,if_neg OO,if_neg OO,if_neg OO,if_neg OO,if_pos OO];unfold lH;have b:dD B0 (g+1) (dW []) (kidD x2 0) (bE 3)= .ok (.mk ⟨2,1,1⟩ [.mk ⟨3,0,1⟩ []],3):=by
  simp only[dD];unfold ig;rw[if_neg OO,if_pos OO]
  rfl
 have c:dH B0 (dW []) (.mk ⟨2,1,1⟩ [.mk ⟨3,0,1⟩ []]) 3= .ok (.mk ⟨2,1,1⟩ [.mk ⟨3,0,1⟩ []],3):=by
  unfold dH;rw[if_neg OO,Mz (by rfl) (by rfl)]
  rfl
 show bg (dD B0 (g+1) (dW []) (kidD x2 0) (bE 3)) _=_;rw[b,kO,c,kO]
 rfl
def Fb{α:Type}(F:Nat ->Except Int (α×Nat)):Prop:=∀n a n',n<=100000 ->F n= .ok (a,n') ->n'<=n/\∀m,m<=100000 ->(n-n'<=m ->F m= .ok (a,m-(n-n')))/\(m<n-n' ->F m= .error 10)
section
variable{B:aq}
abbrev MA(rc:RcC):Prop:=∀cx x y u,Fb (rc cx x y u)
abbrev zj(rc:RcJ):Prop:=∀cx t,Fb (rc cx t)
variable{rc:RcJ}(hr:zj rc)
include hr
end
end Go.Proofs.YtjnjbghlemiklaaGreat
namespace Go.Wx
open Go.ChangeShapes Go.WideShapes Go.ChangeAt Go.RowKit
theorem Fc{H:Type}{enc:TypeId×Value ->H}{P:Program}(hl:laidOutB P=true){W k:World}(hb:Below W.heap.size W k):
  ∀(e:List TypeId) (vs:List Value) (ds:List (DataW H)) (c:List MemPlace),(e.all λt=>P.readableRec t && Nat.blt t P.types.size)=true ->DataW.TrodAll enc P W 0 (λ_=>true) true e vs ds c ->
   (∀x∈c,x.block<W.heap.size) ->∀f:Nat ->Bool,(∀p∈c,f p.block=true) ->DataW.TrodAll enc P k 0 f true e vs ds c
 |[],vs,ds,c,_,h,_,f,_=>by
  obtain⟨rfl,rfl,rfl⟩:=trodAll_nil h
  rfl
 |t::e,vs,ds,c,a,h,i,f,j=>by
  obtain⟨v,l,d,m,p,q,rfl,rfl,rfl,o,r⟩:=trodAll_cons h;simp only[List.all_cons,Bool.and_eq_true]at a;refine⟨p,q,?_,Fc hl hb e _ _ _ a.2 r (λx b=>i x (by simp[b])) f (λx b=>j x (by simp[b])),rfl⟩;exact WideElems.Trod_stays hl a.1.1 (by simpa[Nat.blt_eq]using a.1.2) o (λx b=>hb.same (i x (by simp[b]))) (λx b=>j x (by simp[b]))
theorem MC{H:Type}{enc:TypeId×Value ->H}{P:Program}{f:Func}{s:ChangeSpec}{a d b:Bool}{W v:World}{args:Array Value}{ds gs:List (DataW H)}{c:List MemPlace}{y:TypeId}
  (hl:laidOutB P=true) (o:(f.params.toList.all λt=>P.readableRec t && Nat.blt t P.types.size)=true) (r:f.resultTypes= #[y]) (hb:P.underlying y=some .bool)
  (hW:DataW.Whole enc P f.params.toList s.vars a W args.toList ds gs c) (z:s.vars=[]) (j:(s.fn H ds).results=[.lit (.bool true)]) (e:(s.fn H ds).args=ds) (i:(s.fn H ds).vars=[])
  (D:Kp [] W v):s.post enc P f a d b false W args (.bool true) v:=by
 have k:=hW;obtain⟨p,q,E,C,rfl,F,I⟩:=hW;rw[z]at C;obtain⟨rfl,rfl⟩:=trodVars_none C;have l:=D.below;have m:∀x∈p,x.block<W.heap.size:=λx u=>k.lt x (by simp[u]);refine⟨ds,[],p++[],[],p,[],k,?_,?_,?_,?_,λh=>by cases h⟩
 ·rw[JD,j,r]
  exact trodAll_mk1 (shut_bool hb true)
 ·rw[JD,e]
  exact Fc hl l _ _ _ _ o E m _ λx u=>by simpa using m x u
 ·rw[JD,i,z]
  rfl
 ·exact l.frame _
end Go.Wx
namespace Go.Proofs.YtjnjbghlemiklaaGreat
open Go.Wx Go.ChangeShapes Go.WideShapes Go.ChangeAt Go.RowKit
theorem MD{H:Type}(d:DataW H):1<=Rows.uptoBulk d:=by
 cases d with
 |lit l=>cases l<;>simp[Rows.uptoBulk]
 |nil=>simp[Rows.uptoBulk]
 |ptr d=>simp[Rows.uptoBulk]
 |slice b spare=>simp[Rows.uptoBulk]
 |agg c=>simp[Rows.uptoBulk]
 |iface t d=>simp[Rows.uptoBulk]
 |map a=>simp[Rows.uptoBulk]
 |held h=>simp[Rows.uptoBulk]
theorem zk{H:Type}{d:DataW H}{l:List (DataW H)}(h:d∈l):Rows.uptoBulk d<=Rows.uptoBulkAll l:=by
 induction l with
 |nil=>cases h
 |cons x r a=>
  simp only[Rows.uptoBulkAll];cases List.mem_cons.1 h with
  |inl e=>subst e;omega
  |inr e=>have:=a e;omega
theorem ME{H:Type}(l:List (DataW H)):l.length<=Rows.uptoBulkAll l:=by
 induction l with
 |nil=>simp[Rows.uptoBulkAll]
 |cons x r a=>have:=MD x;simp only[Rows.uptoBulkAll,JV];omega
theorem MF{H:Type}{l:List (DataW H)}(a:Rows.uptoSmall H l=true):Rows.uptoBulkAll l<=1048576:=of_decide_eq_true a
theorem MG{H:Type}(l r:List (DataW H)):Rows.uptoBulkAll (l++r)=Rows.uptoBulkAll l+Rows.uptoBulkAll r:=by
 induction l with
 |nil=>simp[Rows.uptoBulkAll]
 |cons x l a=>simp only[List.cons_append,Rows.uptoBulkAll,a];omega
theorem gw{H:Type}{xs:List (DataW H×List MemPlace)}{x:DataW H×List MemPlace}(a:x∈xs)(hB:Rows.uptoBulk (.agg (xs.map (·.1)))<=1048576):Rows.uptoBulk x.1<=1048576:=by
 have:=zk (List.mem_map_of_mem (f:=(·.1)) a);simp only[Rows.uptoBulk]at hB;omega
section
variable{H:Type}{enc:TypeId×Value ->H}{w:World}{spare:Nat ->Bool}{held:Bool}
theorem MH{a:Addr}{v:Value}(h:w.cell? a=some v):∃b o,a=⟨b,o,none⟩:=by
 obtain⟨b,o,s⟩:=a;unfold World.cell? at h;split at h
 ·rename_i c T d e
  cases s with
  |none=>exact⟨b,o,rfl⟩
  |some _=>simp at h
 ·cases h
theorem MI{α:Type} [Inhabited α]{t e:TypeId}(R:Rd α)(hk:0<R.sz)(ht:prog.underlying t=some (.slice e))(hc:prog.cellsOf e=R.sz)(ok:DataW H ->Prop)
  (one:∀(cs:List Value) (n:Nat) (y:DataW H×List MemPlace),cs.length=R.sz ->DataW.trod enc prog w 0 spare held n e cs=some y ->ok y.1 ->∃x:α,R.den (Old w) cs x)
  {fuel:Nat} {v:Value} {x:DataW H×List MemPlace} (h:DataW.trod enc prog w 0 spare held fuel t [v]=some x) (L:∀es M,x.1= .slice es M ->∀d∈es,ok d):
  ∃(a:Option Addr) (l:List α) (cap:Nat),v= .slice a l.length cap/\(l.length<=1099511627776 ->Sl R (Old w) a l)/\(l.length=0 \/∃es M,x.1= .slice es M/\es.length=l.length):=by
 rcases Go.Deep.open_slice ht h with ⟨k,rfl⟩|⟨a,len,cap,m,n,D,Pl,k,hb,hl,hm,N,rfl,I⟩
 ·simp only[List.cons.injEq,and_true]at k
  subst k;exact⟨none,[],0,rfl,λ_=>Sl.nil _ _ _,.inl rfl⟩
 simp only[List.cons.injEq,and_true]at k;subst k;have Z:len<=m:=by rw[N];split<;>omega
 rw[hc]at I;have r:∀i,i<len ->∃q:α×List Value,R.den (Old w) q.2 q.1/\∀j u,q.2[j]?=some u ->w.cell? (a.add (i*R.sz+j))=some u:=by
  intro i c;obtain⟨z,k,h2⟩:=I i Oo;obtain⟨_,f,p⟩:=World.cells?_some k;obtain⟨x,I⟩:=one z n _ f h2 (L _ _ rfl _ (List.mem_map.2 ⟨i,by simpa using c,rfl⟩));refine⟨(x,z),I,λj u W=>?_⟩;have O:j<R.sz:=by rw[<- f];exact aI W
  rw[<- Go.Deep.add_add,p j O];exact W
 obtain⟨q,X⟩:=Go.Deep.choose_lt r;refine⟨some a,(List.range len).map λi=>(q i).1,cap,Od,λC=>⟨C,?_⟩,.inr ⟨_,_,rfl,Od⟩⟩
 by_cases h0:len=0
 ·exact .inl (by simp[h0])
 obtain⟨Q,hz⟩:=X 0 Oo;have a0:=R.len Q;obtain⟨Y,S⟩:∃u,(q 0).2[0]?=some u:=⟨(q 0).2[0]' Oo,Od⟩
 have E:=hz 0 Y S;rw[Nat.zero_mul,Nat.add_zero]at E;have T:w.cell? a=some Y:=by simpa[Addr.add]using E
 obtain⟨b,o,rfl⟩:=MH T;refine .inr ⟨b,o,rfl,λi x c=>?_⟩;rw[JX]at c;have F:i<len:=by
  rcases Nat.lt_or_ge i len with h|h
  ·exact h
  ·rw[List.getElem?_eq_none (by simpa using h)]at c;cases c
 rw[List.getElem?_range F]at c;have c:=JB c;subst c;obtain⟨U,V⟩:=X i F;refine⟨(q i).2,U,λj u O=>Cl.of ?_⟩;have:=V j u O;rw[lX]at this;rw[Nat.add_assoc];exact this
theorem MJ{α:Type} [Inhabited α]{t e:TypeId}(R:Rd α)(i:0<R.sz)(ht:prog.underlying t=some (.slice e))(hc:prog.cellsOf e=R.sz)
  (one:∀(cs:List Value) (n:Nat) (y:DataW H×List MemPlace),cs.length=R.sz ->DataW.trod enc prog w 0 spare held n e cs=some y ->Rows.uptoBulk y.1<=1048576 ->∃x:α,R.den (Old w) cs x)
  {fuel:Nat} {v:Value} {x:DataW H×List MemPlace} (h:DataW.trod enc prog w 0 spare held fuel t [v]=some x) (hB:Rows.uptoBulk x.1<=1048576):∃l,(rO R).den (Old w) [v] l:=by
 obtain⟨a,l,b,j,k,c⟩:=MI R i ht hc (λd=>Rows.uptoBulk d<=1048576) one h (λf m e d o=>by
  rw[e]at hB;have:=zk o;simp only[Rows.uptoBulk]at hB;omega)
 refine⟨l,a,b,by rw[j],k ?_⟩;rcases c with c|⟨f,m,e,p⟩
 ·omega
 ·rw[e]at hB
  have:=ME f;simp only[Rows.uptoBulk]at hB;omega
end
open Cd Tm Lv
instance:Inhabited Nd:=⟨⟨0,0,0⟩⟩
instance:Inhabited aO:=⟨⟨0,0,0⟩⟩
instance:Inhabited aq:=⟨⟨0,[],[],-1,[]⟩⟩
section
variable{H:Type}{enc:TypeId×Value ->H}{w:World}{spare:Nat ->Bool}{held:Bool}
theorem MK{z:Int}(h:(Lit.int .i64 z).wf=true):I64 z:=by
 simpa[I64,Lit.wf,IntKind.min,IntKind.max,IntKind.signed,IntKind.bits]using h
theorem oa{α:Type} [Inhabited α]{t e:TypeId}(R:Rd α)(d:0<R.sz)(ht:prog.underlying t=some (.slice e))(hc:prog.cellsOf e=R.sz)
  (one:∀(cs:List Value) (n:Nat) (y:DataW H×List MemPlace),cs.length=R.sz ->DataW.trod enc prog w 0 spare held n e cs=some y ->Rows.uptoBulk y.1<=1048576 ->∃x:α,R.den (Old w) cs x)
  {fuel:Nat} {v:Value} {x:DataW H×List MemPlace} (h:DataW.trod enc prog w 0 spare held fuel t [v]=some x) (hB:Rows.uptoBulk x.1<=1048576):∃l,SV R (Old w) l v:=by
 obtain⟨l,a,c,e,f⟩:=MJ R d ht hc one h hB;have e:v= .slice a l.length c:=by simpa using e
 refine⟨l,a,c,e,f,?_⟩;rcases Go.Deep.open_slice ht h with ⟨b,rfl⟩|⟨p,len,i,m,k,D,q,b,r,u,_⟩
 ·rw[e]at b
  have b:=(List.cons.inj b).1;injection b with q1 j o
  omega
 ·rw[e]at b
  have b:=(List.cons.inj b).1;injection b with q1 j o
  omega
theorem jy{n:Nat}{cs:List Value}{y:DataW H×List MemPlace}(a:DataW.trod enc prog w 0 spare held n 3 cs=some y):∃z,cs=[.int .i64 z]/\I64 z:=by
 obtain⟨z,rfl,rfl,b⟩:=DataW.trod_int underlying3 a;exact⟨z,rfl,MK b⟩
theorem ML{n:Nat}{cs:List Value}{y:DataW H×List MemPlace}(hl:cs.length=3)(j:DataW.trod enc prog w 0 spare held n 42 cs=some y):∃x,rNd.den (Old w) cs x:=by
 obtain⟨k,m,rfl,rfl,_,a,b⟩:=DataW.trod_struct underlying42 j
 match cs,hl,k,a with
 |[v,z,C],_,[x0,x1,x2],_=>
  have c:=b 0 _ rfl;have d:=b 1 _ rfl;have e:=b 2 _ rfl;simp[show prog.cellsOf 3=1 by kernel_rfl]at c d e;obtain⟨l,f,o⟩:=jy c;obtain⟨p,h,q⟩:=jy d;obtain⟨r,i,u⟩:=jy e;simp at f h i;subst f h i;exact⟨⟨l,p,r⟩,rfl,o,q,u⟩
theorem MM{n:Nat}{cs:List Value}{y:DataW H×List MemPlace}(hl:cs.length=3)(j:DataW.trod enc prog w 0 spare held n 74 cs=some y):∃x,rOr.den (Old w) cs x:=by
 obtain⟨k,m,rfl,rfl,_,a,b⟩:=DataW.trod_struct underlying74 j
 match cs,hl,k,a with
 |[v,z,C],_,[x0,x1,x2],_=>
  have c:=b 0 _ rfl;have d:=b 1 _ rfl;have e:=b 2 _ rfl;simp[show prog.cellsOf 3=1 by kernel_rfl]at c d e;obtain⟨l,f,o⟩:=jy c;obtain⟨p,h,q⟩:=jy d;obtain⟨r,i,u⟩:=jy e;simp at f h i;subst f h i;exact⟨⟨l,p,r⟩,rfl,o,q,u⟩
theorem MN{n:Nat}{cs:List Value}{y:DataW H×List MemPlace}(hl:cs.length=2)(h:DataW.trod enc prog w 0 spare held n 77 cs=some y):∃x,rPr.den (Old w) cs x:=by
 obtain⟨i,m,rfl,rfl,_,a,b⟩:=DataW.trod_struct underlying77 h
 match cs,hl,i,a with
 |[p,q],_,[x0,x1],_=>
  have c:=b 0 _ rfl;have d:=b 1 _ rfl;simp[show prog.cellsOf 3=1 by kernel_rfl]at c d;obtain⟨j,e,k⟩:=jy c;obtain⟨l,f,o⟩:=jy d;simp at e f;subst e f;exact⟨(j,l),rfl,k,o⟩
theorem nh{n:Nat}{v:Value}{y:DataW H×List MemPlace}(a:DataW.trod enc prog w 0 spare held n 29 [v]=some y)(hB:Rows.uptoBulk y.1<=1048576):∃l,SV rNd (Old w) l v:=
 oa rNd OO underlying29 OD (λc n y b a d=>ML b a) a hB
theorem t6{n:Nat}{v:Value}{y:DataW H×List MemPlace}(d:DataW.trod enc prog w 0 spare held n 64 [v]=some y)(hB:Rows.uptoBulk y.1<=1048576):∃l,SV (gz rNd) (Old w) l v:=
 oa (gz rNd) Nat.one_pos underlying64 OD (λe n y f d h=>by
  match e,f with
  |[c],_=>
   obtain⟨l,a,i,rfl,j,b⟩:=nh d h;exact⟨l,a,i,rfl,b,j⟩) d hB
theorem MO{n:Nat}{cs:List Value}{y:DataW H×List MemPlace}(hl:cs.length=2)(e:DataW.trod enc prog w 0 spare held n 70 cs=some y)(hB:Rows.uptoBulk y.1<=1048576):∃x,rCt.den (Old w) cs x:=by
 obtain⟨f,m,rfl,rfl,_,a,b⟩:=DataW.trod_struct underlying70 e
 match cs,hl,f,a with
 |[l,o],_,[x0,x1],_=>
  have c:=b 0 _ rfl;have d:=b 1 _ rfl;simp[show prog.cellsOf 64=1 by kernel_rfl]at c d;obtain⟨h,i⟩:=t6 c (gw (x:=x0) Od hB);obtain⟨j,k⟩:=t6 d (gw (x:=x1) Od hB);exact⟨⟨h,j⟩,_,_,rfl,i,k⟩
theorem MP{n:Nat}{cs:List Value}{y:DataW H×List MemPlace}(hl:cs.length=7)(b:DataW.trod enc prog w 0 spare held n 67 cs=some y)(hB:Rows.uptoBulk y.1<=1048576):∃x,rEn.den (Old w) cs x:=by
 obtain⟨o,m,rfl,rfl,_,c,a⟩:=DataW.trod_struct underlying67 b
 match cs,hl,o,c with
 |[U,V,W,X,Y,Z,c6],_,[x0,x1,x2,p,q,r,u],_=>
  have d:=a 0 _ rfl;have e:=a 1 _ rfl;have f:=a 2 _ rfl;have h:=a 3 _ rfl;have i:=a 4 _ rfl;have j:=a 5 _ rfl;have k:=a 6 _ rfl;simp[show prog.cellsOf 3=1 by kernel_rfl,show prog.cellsOf 64=1 by kernel_rfl,show prog.cellsOf 29=1 by kernel_rfl,show prog.cellsOf 65=1 by kernel_rfl]at d e f h i j k;obtain⟨v,l,z⟩:=jy d;obtain⟨C,D⟩:=nh e (gw (x:=x1) Od hB);obtain⟨E,F⟩:=t6 f (gw (x:=x2) Od hB);obtain⟨I,L⟩:=t6 h (gw (x:=p) Od hB);obtain⟨M,N⟩:=oa rCt OO underlying65 OD (λcs n y hl b O=>MO hl b O) i (gw (x:=q) Od hB);obtain⟨Q,R⟩:=nh j (gw (x:=r) Od hB);obtain⟨S,T⟩:=nh k (gw (x:=u) Od hB);simp at l;subst l;exact⟨⟨v,C,E,I,M,Q,S⟩,_,_,_,_,_,_,rfl,z,D,F,L,N,R,T⟩
theorem MQ{n:Nat}{cs:List Value}{y:DataW H×List MemPlace}(hl:cs.length=5)(a:DataW.trod enc prog w 0 spare held n 26 cs=some y)(hB:Rows.uptoBulk y.1<=1048576):∃x,rBo.den (Old w) cs x:=by
 obtain⟨o,m,rfl,rfl,_,c,b⟩:=DataW.trod_struct underlying26 a
 match cs,hl,o,c with
 |[L,M,N,O,Q],_,[x0,x1,x2,R,p],_=>
  have e:=b 0 _ rfl;have f:=b 1 _ rfl;have h:=b 2 _ rfl;have i:=b 3 _ rfl;have j:=b 4 _ rfl;simp[show prog.cellsOf 3=1 by kernel_rfl,show prog.cellsOf 22=1 by kernel_rfl,show prog.cellsOf 23=1 by kernel_rfl,show prog.cellsOf 24=1 by kernel_rfl]at e f h i j;obtain⟨q,k,r⟩:=jy e;obtain⟨u,v⟩:=oa rOr OO underlying22 OD (λcs n y hl a d=>MM hl a) f (gw (x:=x1) Od hB);obtain⟨z,C⟩:=oa rEn OO underlying23 OD (λcs n y hl a d=>MP hl a d) h (gw (x:=x2) Od hB);obtain⟨D,l,E⟩:=jy i;obtain⟨F,I⟩:=oa rPr OO underlying24 OD (λcs n y hl a d=>MN hl a) j (gw (x:=p) Od hB);simp at k l;subst k l;exact⟨⟨q,u,z,D,F⟩,_,_,_,rfl,r,E,v,C,I⟩
end
section
variable{H:Type}{enc:TypeId×Value ->H}{w:World}{spare:Nat ->Bool}{held:Bool}
theorem MR{n:Nat}{cs:List Value}{y:DataW H×List MemPlace}(hl:cs.length=2)(e:DataW.trod enc prog w 0 spare held n 72 cs=some y)(hB:Rows.uptoBulk y.1<=1048576):∃x,rBd.den (Old w) cs x:=by
 obtain⟨f,m,rfl,rfl,_,a,b⟩:=DataW.trod_struct underlying72 e
 match cs,hl,f,a with
 |[l,o],_,[x0,x1],_=>
  have c:=b 0 _ rfl;have d:=b 1 _ rfl;simp[show prog.cellsOf 29=1 by kernel_rfl]at c d;obtain⟨h,i⟩:=nh c (gw (x:=x0) Od hB);obtain⟨j,k⟩:=nh d (gw (x:=x1) Od hB);exact⟨(h,j),_,_,rfl,i,k⟩
theorem CaV.mono{C D:Mem}{x:kU}{v:Value}(h:CaV C x v)(hc:∀b o v,C b o v ->D b o v):CaV D x v:=by
 obtain⟨a,c,d,f,vt,vy,e,i,j,k,l,m,p,q⟩:=h;exact⟨a,c,d,f,vt,vy,e,i.mono hc,j.mono hc,k.mono hc,l.mono hc,m.mono hc,p.mono hc,q⟩
theorem MS{r:Reach}{L:Nat}{v:Value}{d:DataW H}{M:List MemPlace}(a:Value.okWide prog w r L 31 v)(h:DataW.Trod enc prog w 0 spare held 31 v d M)(hB:Rows.uptoBulk d<=1048576):
  ∃x,CaV (Im [] w) x v:=by
 obtain⟨c,rfl,N⟩:=okWide_struct underlying31 a;obtain⟨k,f⟩:=h;obtain⟨O,m,rfl,Q,l,i,e⟩:=DataW.trod_struct underlying31 f;have j:c.size=9:=by rw[N];kernel_rfl
 obtain⟨c⟩:=c
 match c,j,O,i with
 |[c0,c1,c2,c3,c4,c5,c6,c7,c8],_,[x0,x1,x2,p,R],_=>
  have S:d= .agg ([x0,x1,x2,p,R].map (·.1)):=(Prod.mk.injEq .. ▸Q).1;rw[S]at hB;have q:=e 0 _ rfl;have u:=e 1 _ rfl;have z:=e 2 _ rfl;have D:=e 3 _ rfl;have E:=e 4 _ rfl;simp[Value.cells,show prog.cellsOf 26=5 by kernel_rfl,show prog.cellsOf 27=1 by kernel_rfl,show prog.cellsOf 29=1 by kernel_rfl,show prog.cellsOf 3=1 by kernel_rfl]at q u z D E;obtain⟨T,w1,w2,w3,F,i0,i1,U,V,W⟩:=MQ rfl q (gw (x:=x0) Od hB);obtain⟨X,Y⟩:=oa rBd OO underlying27 OD (λc n y l Z hb=>MR l Z hb) u (gw (x:=x1) Od hB);obtain⟨l2,k2⟩:=nh z (gw (x:=x2) Od hB);obtain⟨l3,k3⟩:=nh D (gw (x:=p) Od hB);obtain⟨z4,I,i4⟩:=jy E;simp at F I;obtain⟨rfl,rfl,rfl,rfl,rfl⟩:=F;subst I;exact⟨⟨T,X,l2,l3,z4⟩,CaV.mono (C:=Old w) ⟨_,_,_,_,_,_,rfl,U,V,W,Y,k2,k3,i4⟩ λb o v h=>⟨Old.sub w _ _ _ h,Od⟩⟩
end
theorem py{lim:Int}:∀(l:List (List Nd)) (a:Int),a<=de lim l a/\(de lim l a<lim ->(l.length:Int)+a<=de lim l a/\∀t∈l,(t.length:Int)+a<=de lim l a)
 |[],a=>by simp[de]
 |t::r,a=>by
  by_cases h:a<lim
  ·simp only[de]
   rw[if_pos h];obtain⟨h1,h2⟩:=py (lim:=lim) r (a+1+(t.length:Int));refine⟨Oo,λg=>?_⟩;obtain⟨d,c⟩:=h2 g;refine⟨by simp only[JV];omega,λu b=>?_⟩;rcases List.mem_cons.1 b with rfl|b
   ·omega
   ·have:=c u b
    omega
  ·rw[Mw h]
   exact⟨Int.le_refl _,λg=>absurd g h⟩
theorem t7{lim:Int}(b:lim<=100000){l:List (List Nd)}(h:de lim l 0<lim):ko l:=by
 obtain⟨c,a⟩:=(py l 0).2 h;exact⟨Oo,λt ht=>by have:=a t ht;omega⟩
theorem Fe{lim:Int}(b:lim<=100000):∀(l:List iv) (a:Int),a<=jw lim l a/\(0<=a ->jw lim l a<lim ->(l.length:Int)+a<=jw lim l a/\∀c∈l,ko c.args/\ko c.out)
 |[],a=>by simp[jw]
 |c::r,a=>by
  by_cases h:a<lim
  ·simp only[jw]
   rw[if_pos h];have i:=(py (lim:=lim) c.args 0).1;have j:=(py (lim:=lim) c.out 0).1;obtain⟨k,e⟩:=Fe (lim:=lim) b r (a+1+de lim c.args 0+de lim c.out 0);refine⟨Oo,λm g=>?_⟩;obtain⟨o,f⟩:=e Oo g;refine⟨by simp only[JV];omega,λu d=>?_⟩;rcases List.mem_cons.1 d with rfl|d
   ·exact⟨t7 b Oo,t7 b Oo⟩
   ·exact f u d
  ·rw[Mx h]
   exact⟨Int.le_refl _,λ_ g=>absurd g h⟩
theorem Ff{lim:Int}(b:lim<=100000):∀(l:List bX) (a:Int),a<=jx lim l a/\(0<=a ->jx lim l a<lim ->(l.length:Int)+a<=jx lim l a/\∀x∈l,oI x)
 |[],a=>by simp[jx]
 |x::r,a=>by
  by_cases h:a<lim
  ·simp only[jx]
   rw[if_pos h];have j:=(py (lim:=lim) x.params 0).1;have k:=(py (lim:=lim) x.indices 0).1;have d:=Fe b x.ctors (a+1+(x.sort.length:Int)+(x.type.length:Int)+(x.body.length:Int)+de lim x.params 0+de lim x.indices 0);obtain⟨m,e⟩:=Ff (lim:=lim) b r (jw lim x.ctors (a+1+(x.sort.length:Int)+(x.type.length:Int)+(x.body.length:Int)+de lim x.params 0+de lim x.indices 0));refine⟨Oo,λo g=>?_⟩;obtain⟨p,f⟩:=e Oo g;obtain⟨q,i⟩:=d.2 Oo Oo;refine⟨by simp only[JV];omega,λu c=>?_⟩;rcases List.mem_cons.1 c with rfl|c
   ·exact⟨Oo,Oo,Oo,t7 b Oo,t7 b Oo,Oo,i⟩
   ·exact f u c
  ·rw[My h]
   exact⟨Int.le_refl _,λ_ g=>absurd g h⟩
theorem Fh{lim:Int}(c:lim<=100000):∀(l:CxR) (a:Int),a<=i5 lim l a/\(0<=a ->i5 lim l a<lim ->∀q∈l,q.1.length<=1000000/\q.2.length<=1000000)
 |[],a=>by simp[i5]
 |q::r,a=>by
  by_cases h:a<lim
  ·simp only[i5]
   rw[if_pos h];obtain⟨h1,h2⟩:=Fh (lim:=lim) c r (a+1+(q.1.length:Int)+(q.2.length:Int));refine⟨Oo,λd g u b=>?_⟩;rcases List.mem_cons.1 b with rfl|b
   ·omega
   ·exact h2 Oo g u b
  ·rw[Fa h]
   exact⟨Int.le_refl _,λ_ g=>absurd g h⟩
theorem MT{x:kU}(h:lW x=false):dc x.book/\rn x.ctx/\x.term.length<=1500/\x.type.length<=1500:=by
 unfold lW at h;simp only[Bool.or_eq_false_iff,decide_eq_false_iff_not]at h;obtain⟨a,e,f,i,j⟩:=h;have b:=Ff (lim:=2500) Oo x.book.ents ((x.book.orders.length:Int)+(x.book.prims.length:Int));have c:=Fh (lim:=1500) Oo x.ctx 0;unfold rF at a;obtain⟨k,d⟩:=b.2 Oo Oo;exact⟨⟨Oo,Oo,Oo,d⟩,⟨Oo,c.2 Oo Oo⟩,Oo,Oo⟩
def Lm{α:Type}(l:List α):Prop:=l.length<=1099511627776
def pz(l:List (List Nd)):Prop:=Lm l/\∀t∈l,Lm t
theorem t8{d:List (List Nd)}{lid:Int}(hl:pz d)(F:0<=lid/\lid<=100000):VC prog 42 [bw d,.int .i64 lid] (.int .i64 (de lid d 0))/\0<=de lid d 0/\de lid d 0<=1200000000000:=by
 obtain⟨o,e⟩:=hl;unfold Lm at o;have x:∀(l:List (List Nd)) (a:Int),(∀t∈l,Lm t) ->0<=a ->a<=1200000000000 ->0<=de lid l a/\de lid l a<=1200000000000:=by
  intro l
  induction l with
  |nil=>intro a _ f b;exact⟨f,b⟩
  |cons t r y=>
   intro a ht f b;simp only[de];split
   ·have:=ht t Od
    unfold Lm at this;exact y _ (λt h=>ht t (by simp[h])) Oo Oo
   ·exact⟨f,b⟩
 refine⟨?_,x d 0 e (Int.le_refl _) OO⟩;refine qm 27 [.tmp 4] τok func42 rfl rfl rfl (Nat.le_of_ble_eq_true rfl) OO<|vU τok (σ:=Nat×Int) (λq=>⟨[(0,.c (.p (bw d))),(1,.c (.p (.int .i64 lid))),(5,.c (.p (.int .i64 q.2))),(6,.c (.p (.int .i64 (q.1:Int))))],[]⟩) (λq=>q.1<=d.length/\de lid (d.drop q.1) q.2=de lid d 0/\0<=q.2/\q.2<=1200000000000) (λq=>d.length-q.1) (0,0) id (gR ⟨rfl,rfl,rfl,rfl,trivial⟩ trivial rfl) ⟨KV _,rfl,Od,Od⟩ ?_;rintro⟨i,m⟩ ⟨f,b,z,C⟩;simp only at f b z C;refine ae (λg=>?_) (λg=>?_)
 ·rw[List.length_map]at g
  obtain⟨t,j,D⟩:=ay (l:=d) (k:=i);have u:=e t (JQ j);unfold Lm at u;rw[D]at b;simp only[de]at b;refine ae (λv=>?_) (λv=>?_)
  ·rw[if_pos v]at b
   refine fH Oo Oo<|nm i [ah t] rfl (by rw[JX,j];rfl) rfl ?_;have E:(t.map ndP).length=t.length:=List.length_map _;refine fH Oo Oo<|fH Oo Oo<|⟨(i+1,m+1+((t.map ndP).length:Nat)),id,OS,⟨OS,by simp only[E];exact b,OS,OS⟩,gR ⟨rfl,rfl,rfl,rfl,trivial⟩ trivial rfl⟩
  ·rw[if_neg v]at b
   exact⟨_,_,rfl,rfl,congrArg (PV.int .i64) b⟩
 ·rw[List.length_map]at g
  rw[JY Oo]at b;exact⟨_,_,rfl,rfl,congrArg (PV.int .i64) b⟩
structure MU(x:bX):Prop where
 s:Lm x.sort
 t:Lm x.type
 b:Lm x.body
 p:pz x.params
 i:pz x.indices
 c:Lm x.ctors
 a:∀c∈x.ctors,pz c.args/\pz c.out
structure zl(B:aq):Prop where
 o:Lm B.orders
 p:Lm B.prims
 e:Lm B.ents
 x:∀x∈B.ents,MU x
theorem MW{B:aq}(hB:zl B){lid:Int}(r:0<=lid/\lid<=100000):VC prog 23 [aW B,.int .i64 lid] (.int .i64 (rF B lid)):=by
 have F:=hB.o;have I:=hB.p;have L:=hB.e;unfold Lm at F I L;have M:=ak orP B.orders;have N:=ak prP B.prims;have l3:=ak aQ B.ents;refine qm 90 [.tmp 4] τok func23 rfl rfl rfl (Nat.le_of_ble_eq_true rfl) OO<|fH Oo Oo<|vU τok (σ:=Nat×Int) (λq=>⟨[(1,.c (.p (.int .i64 lid))),(2,.c (.ptr 2 0)),(5,.c (.p (.int .i64 q.2))),(6,.c (.p (.int .i64 (q.1:Int))))],[(2,.st 0 26 ((jM B).map .p))]⟩) (λq=>q.1<=B.ents.length/\jx lid (B.ents.drop q.1) q.2=rF B lid/\0<=q.2/\q.2<=10000000000000) (λq=>B.ents.length-q.1) (0,((B.orders.map orP).length:Int)+((B.prims.map prP).length:Int)) id (gR ⟨rfl,rfl,rfl,rfl,trivial⟩ ⟨rfl,trivial⟩ rfl) ⟨KV _,by simp only[M,N];rfl,OS,OS⟩ ?_;rintro⟨i,m⟩ ⟨O,b,Q,R⟩;simp only at O b Q R;refine ae (λg=>?_) (λg=>?_)
 ·obtain⟨x,f,S⟩:=ay (l:=B.ents) (k:=i)
  have e:=hB.x x (JQ f);have q1:=e.s;have T:=e.t;have U:=e.b;have V:=e.c;unfold Lm at q1 T U V;rw[S]at b;simp only[jx]at b;refine ae (λu=>?_) (λu=>?_)
  ·rw[if_pos u]at b
   refine nm i (aQ x) rfl (by rw[JX,f];rfl) rfl ?_;have W:=ak ndP x.sort;have X:=ak ndP x.type;have Y:=ak ndP x.body;have e4:=ak aZ x.ctors;obtain⟨Z,b1,c1⟩:=t8 e.p r;obtain⟨v2,b2,c2⟩:=t8 e.i r;refine fH Oo Oo<|fH Oo Oo<|fH Oo Oo<|fH Oo Oo<|af Z ?_;refine fH Oo Oo<|af v2 ?_;refine fH Oo Oo<|gQ OD<|vU τok (σ:=Nat×Int) (λq=>⟨[(1,.c (.p (.int .i64 lid))),(2,.c (.ptr 2 0)),(5,.c (.p (.int .i64 q.2))),(6,.c (.p (.int .i64 (i:Int)))),(7,.c (.ptr 7 0)),(8,.c (.p (.int .i64 (q.1:Int))))],[(2,.st 0 26 ((jM B).map .p)),(7,.st 0 67 ((aQ x).map .p))]⟩) (λq=>q.1<=x.ctors.length/\jx lid (B.ents.drop (i+1)) (jw lid (x.ctors.drop q.1) q.2)=rF B lid/\0<=q.2/\q.2<=10000000000000) (λq=>x.ctors.length-q.1) (0,_) id (gR ⟨rfl,rfl,rfl,rfl,rfl,rfl,trivial⟩ ⟨rfl,rfl,trivial⟩ rfl) ⟨KV _,by simp only[W,X,Y];exact b,OS,OS⟩ ?_;rintro⟨j,a⟩ ⟨k1,d,v,y⟩;simp only at k1 d v y;refine ae (λg3=>?_) (λg3=>?_)
   ·obtain⟨c,h,z⟩:=ay (l:=x.ctors) (k:=j)
    obtain⟨C,D⟩:=e.a c (JQ h);rw[z]at d;simp only[jw]at d;refine ae (λE=>?_) (λE=>?_)
    ·rw[if_pos E]at d
     obtain⟨v3,b3,c3⟩:=t8 C r;obtain⟨v4,b4,c4⟩:=t8 D r;have o:(x.ctors.map aZ)[j]?=some (aZ c):=by rw[JX,h];rfl
     refine fH Oo Oo<|nm j (aZ c) rfl o rfl<|af v3 ?_;refine fH Oo Oo<|nm j (aZ c) rfl o rfl<|af v4 ?_;exact fH Oo Oo<|gQ OD<|fH Oo Oo<|⟨(j+1,_),id,OS,⟨OS,d,OS,OS⟩,gR ⟨rfl,rfl,rfl,rfl,rfl,rfl,trivial⟩ ⟨rfl,rfl,trivial⟩ rfl⟩
    ·rw[if_neg E]at d
     exact fH Oo Oo<|⟨(i+1,a),id,OS,⟨OS,d,v,y⟩,gR ⟨rfl,rfl,rfl,rfl,trivial⟩ ⟨rfl,trivial⟩ rfl⟩
   ·have e5:x.ctors.drop j=[]:=JY Oo
    rw[e5]at d;exact fH Oo Oo<|⟨(i+1,a),id,OS,⟨OS,d,v,y⟩,gR ⟨rfl,rfl,rfl,rfl,trivial⟩ ⟨rfl,trivial⟩ rfl⟩
  ·rw[if_neg u]at b
   exact⟨_,_,rfl,rfl,congrArg (PV.int .i64) b⟩
 ·rw[JY Oo]at b
  exact⟨_,_,rfl,rfl,congrArg (PV.int .i64) b⟩
theorem MX{B:aq}(hI:BoI B)(hB:GoodB B){cx:Ctx}(hcx:CxOk B cx)(hcl:cx.length<=260){t:Tr}(ht:Ft (QB B) (cx.length:Int) t)(fuel:Int):VC prog 26 [aW B,aG (cx.map aA),ah (row t),pI fuel] (tZ (jr B cx t fuel)):=Mv hI hB hcx hcl ht fuel
theorem zm{B:aq}(hI:BoI B)(hB:dc B){c:CxR}(hc:c.length<=1000000)(i:∀q∈c,q.1.length<=1000000000/\q.2.length<=1000000000){t:List Nd}(ht:t.length<=1000000000)(fuel:Int):VC prog 8 [aW B,aG c,ah t,pI fuel] (tZ (gv B c t fuel)):=by
 generalize a:gv B c t fuel=b;unfold gv at a;refine vf 27 [.tmp 8,.tmp 9,.tmp 10] τok func8 ?_;refine af (qT hB hc i ht) ?_;refine ae (λg=>?_) (λg=>?_)
 ·rw[if_pos g]at a
  subst a;exact eA9
 rw[if_neg g]at a;obtain⟨j,hr,k,d,hcx,e,f⟩:=mQ (Decidable.not_not.1 g);have h:=MX hI j hcx (by rw[iq];omega) (by rw[iq];exact f) fuel;rw[<- d,<- e,a]at h;cases b with
 |error l=>
  refine af h ?_;exact eA9
 |ok q=>
  refine af h ?_;exact eA9
theorem zn{c:CxR}(hc:Lm c)(o:∀q∈c,Lm q.1/\Lm q.2){lim:Int}(z:0<=lim/\lim<=100000):VC prog 24 [aG c,pI lim] (pI (i5 lim c 0)):=by
 have eC:=ak bdP c;unfold Lm at hc;generalize b:i5 lim c 0=d;refine vf 35 [.tmp 4] τok func24 ?_;refine vl τok (σ:=Nat×Int) [(0,_),(1,_)] (λq=>[(5,vI q.2),(6,vI q.1)]) (λq=>q.1<=c.length/\0<=q.2/\q.2<=4000000000000/\i5 lim (c.drop q.1) q.2=d) (λq=>c.length-q.1) (0,0) ⟨KV _,Int.le_refl _,OO,b⟩ ?_
 clear b
 rintro⟨i,a⟩ ⟨r,f,j,hr⟩;simp only at r f j hr;have fin:i5 lim (c.drop i) a=a ->gz' [PV.nz (pI a)]=pI d:=λh=>by rw[<- hr,h];rfl
 refine ae (λg=>?_) (λg=>?_);rotate_left
 ·exact⟨_,_,rfl,rfl,fin (by rw[JY (by have g:¬ (i:Int)<((c.map bdP).length:Int):=g;omega)];rfl)⟩
 have g:(i:Int)<((c.map bdP).length:Int):=g;refine ae (λe=>?_) (λe=>?_);rotate_left
 ·exact⟨_,_,rfl,rfl,fin (Fa e _)⟩
 have e:a<lim:=e;obtain⟨q,m,u⟩:=ay (l:=c) (k:=i);obtain⟨q1,v⟩:=o q (JQ m);unfold Lm at q1 v;have x:=ak ndP q.1;have y:=ak ndP q.2;rw[u]at hr;simp only[i5]at hr;rw[if_pos e]at hr;refine vi ?_;refine vm (p:=bdP) i m ?_;refine vi ?_;refine vm (p:=bdP) i m ?_;refine vi ?_;refine vk ?_;refine vi ?_;exact au (i+1,a+1+((q.1.map ndP).length:Int)+((q.2.map ndP).length:Int)) ⟨by show i+1<=_;omega,OS,OS,by simp only[x,y];exact hr⟩
def zp(x:kU):PV:=.agg (jM x.book++[aG x.ctx,ah x.term,ah x.type,pI x.fuel])
structure zq(x:kU):Prop where
 b:zl x.book
 c:Lm x.ctx
 q:∀q∈x.ctx,Lm q.1/\Lm q.2
 t:Lm x.term
 y:Lm x.type
theorem MY{x:kU}(a:zq x):VC prog 7 [zp x] (.bool (lW x)):=by
 have i:=ak bdP x.ctx;have j:=ak ndP x.term;have k:=ak ndP x.type;have b:=a.t;have c:=a.y;unfold Lm at b c;refine vf 34 [.tmp 2] τok func7 ?_;refine af (MW a.b (lid:=2500) Oo) ?_;refine ae (λg=>?_) (λg=>?_)
 ·exact⟨_,_,rfl,rfl,cy (by simp[lW];omega)⟩
 refine af (zn a.c a.q (lim:=1500) Oo) ?_;refine ae (λd=>?_) (λd=>?_)
 ·exact⟨_,_,rfl,rfl,cy (by simp[lW];omega)⟩
 refine ae (λe=>?_) (λe=>?_)
 ·exact⟨_,_,rfl,rfl,cy (by simp[lW];omega)⟩
 refine vi ?_;refine ae (λf=>?_) (λf=>?_)
 ·exact⟨_,_,rfl,rfl,cy (by simp[lW];omega)⟩
 refine ae (λh=>?_) (λh=>?_)
 ·exact⟨_,_,rfl,rfl,cy (by simp[lW];omega)⟩
 ·exact⟨_,_,rfl,rfl,cy (by simp[lW];omega)⟩
theorem sm0:dc B0:=⟨by simp[B0],by simp[B0],by simp[B0],λx a=>by cases a⟩
theorem boi0:BoI B0:=⟨⟨by simp[B0],λx a=>by cases a⟩,⟨by simp[B0],λx a=>by cases a⟩,⟨by simp[B0],λx a=>by cases a⟩⟩
theorem Ez':VC prog 6 [] (.bool true):=by
 have d:=zm boi0 sm0 (c:=[]) Od Od (t:=r1) OO 3;have e:=zm boi0 sm0 (c:=[]) Od Od (t:=r2) OO 3;rw[GI']at d;rw[GJ']at e;have f:=jX (a:=[⟨2,1,1⟩,⟨3,0,1⟩]) (b:=[⟨2,1,1⟩,⟨3,0,1⟩]) OO OO;refine vf 45 [.tmp 0] τok func6 ?_;refine af d ?_;refine af e ?_;refine vy ?_ OO;refine vy ?_ OO;refine af f ?_;refine vy ?_ OO;exact eA9
theorem uc{l:List (List Nd)}(h:GL (GL jN) l):pz l:=⟨h.1,λt ht=>(h.2 t ht).1⟩
theorem BoI.lm{B:aq}(h:BoI B):zl B:=⟨h.1.1,h.2.2.1,h.2.1.1,λx j=>by
 obtain⟨_,a,b,c,d,e,f⟩:=h.2.1.2 x j;exact⟨a.1,e.1,f.1,uc b,uc c,d.1,λq i=>⟨uc (d.2 q i).1,uc (d.2 q i).2⟩⟩⟩
theorem CaV.lm{C:Mem}{x:kU}{v:Value}(i:CaV C x v):BoI x.book/\zq x/\RV C (zp x) v:=by
 obtain⟨j,k,l,m,vt,vy,rfl,b,c,hP,d,e,f,o⟩:=i;have hI:BoI x.book:=BoV.boi ⟨j,k,l,rfl,b,c,hP⟩;have a:=br_bd.gl d;exact⟨hI,⟨hI.lm,a.1,λq h=>⟨(a.2 q h).1.1,(a.2 q h).2.1⟩,(br_nd.gl e).1,(br_nd.gl f).1⟩,nV (dj (.int _ _) (dj (b.rv Cs') (dj (c.rv Cv') (dj (.int _ _) (dj (hP.rv Ct') (dj (d.rv Cw') (dj (e.rv eP') (dj (f.rv eP') (dj (.int _ _) mW)))))))))⟩
def MZ(B:aq)(a:Int)(fuel:Int):Except Int (Bool×Nat):=jk B (dD B GJ) a (bE fuel)
def GM'(B:aq)(a:Int)(fuel:Int):Except Int (Bool×Nat):=if cZ B≠0 then .error (cZ B)else if bI B B.ents.length a=true then MZ B a fuel else .error 1
def chP(r:Except Int (Unit×Nat)):PV:=match r with
 | .ok q=>.tup [pI q.2,pI 0]
 | .error e=>.tup [pI 0,pI e]
def srP(r:Except Int ((Int×List Atom)×Nat)):PV:=match r with
 | .ok q=>.tup [pI q.1.1,cr q.1.2,pI q.2,pI 0]
 | .error e=>.tup [pI 0,.sl [],pI 0,pI e]
def siP(r:Except Int (Bool×Nat)):PV:=match r with
 | .ok q=>.tup [.bool q.1,pI q.2,pI 0]
 | .error e=>.tup [.bool false,pI 0,pI e]
def chC(g:Nat)(cx:Ctx)(t ty:Tr):List (Nat×SE):=[(100,.st g 27 [.p (aG (cx.map aA))]),(101,.st (g+1) 29 [.p (ah (row t))]),(102,.st (g+2) 29 [.p (ah (row ty))])]
def od(g:Nat)(cx:Ctx)(t:Tr)(y z:PV):List (Nat×SE):=[(100,.st g 27 [.p (aG (cx.map aA))]),(101,.st (g+1) 29 [.p (ah (row t))]),(102,.st (g+2) 3 [.p y]),(103,.st (g+3) 44 [.p z])]
def siC(g:Nat)(a:Int)(y:PV):List (Nat×SE):=[(100,.st g 3 [.p (pI a)]),(101,.st (g+1) 4 [.p y])]
section
variable{B:aq}(hI:BoI B)(hB:GoodB B)
include hI hB
variable{cx:Ctx}(hcx:CxOk B cx)(hcl:cx.length<=260)
include hcx hcl
theorem M0{t:Tr}(ht:Ft (QB B) (cx.length:Int) t){n:Nat}(b:n<=100000){y z:PV}:match dd B (dD B GJ) cx t n with
  | .ok q=>VG prog 67 [.c (.ptr 0 0),.c (.ptr 100 0),.c (.ptr 101 0),.c (.ptr 102 0),.c (.ptr 103 0)] ((0,.st 1 132 ((dm B n).map .p))::od 2 cx t y z) (.ok (.c (.p (.tup [])),(0,.st 1 132 ((dm B q.2).map .p))::od 2 cx t (pI q.1.1) (cr q.1.2)))
  | .error e=>VG prog 67 [.c (.ptr 0 0),.c (.ptr 100 0),.c (.ptr 101 0),.c (.ptr 102 0),.c (.ptr 103 0)] ((0,.st 1 132 ((dm B n).map .p))::(od 2 cx t y z).take 2) (.error (ew e)):=by
 have f:=ht.len;have d:=oX';have a:=nX hI hB hcx hcl (kH hB GJ) ht (jgG hI hB GJ cx 64 t n hcx hcl ht (rh hB ht) Oo b);cases hr:dd B (dD B GJ) cx t n with
 |error e=>
  rw[hr]at a;refine cI 13 [] τok func67 ?_;refine aj τok<|cD a ?_;exact rfl
 |ok q=>
  rw[hr]at a;refine cI 13 [] τok func67 ?_;refine aj τok<|ax a ?_;exact .inl ⟨_,_,_,id,rfl,rfl,rfl,rfl,⟨rfl,rfl,rfl,rfl,rfl,trivial⟩,rfl⟩
theorem M1{t:Tr}(ht:Ft (QB B) (cx.length:Int) t)(fuel:Int){y z:PV}:VG prog 44 [.c (.p (aW B)),.c (.p (pI fuel)),.c (.fn 67 [100,101,102,103])] (od 1 cx t y z) (.ok (match pg B cx t fuel with
  | .ok q=>(.c (.p (.tup [pI q.2,pI 0])),od 1 cx t (pI q.1.1) (cr q.1.2))
  | .error e=>(.c (.p (.tup [pI 0,pI e])),[(102,.st 3 3 [.p y]),(103,.st 4 44 [.p z])]))):=by
 have b:min (max fuel 0) 100000=((bE fuel:Nat):Int):=by unfold bE;omega
 have a:=M0 hI hB hcx hcl ht (ri fuel) (y:=y) (z:=z);unfold pg
 generalize dd B (dD B GJ) cx t (bE fuel)=r at a ⊢
 rcases r with e|q
 all_goals
  refine oL 23 [.cell 6 3,.cell 7 34] τok func44 ?_;refine aj τok<|⟨⟨rfl,rfl,rfl⟩,rfl,λd=>?_⟩;refine aj τok ?_
  first
   |refine mh (λk=>sw 0 15 k) a ?_ (he:=by rw[b];repeat first|exact True.intro|refine And.intro rfl ?_)
    refine jP (λk=>k+6) (λ_=>0) (E8 e) ?_;exact .inl ⟨_,_,_,id,rfl,rfl,rfl,rfl,⟨rfl,rfl,trivial⟩,rfl⟩
   |refine bv (λk=>sw 0 15 k) (λk=>k-99) a ?_ (he:=by rw[b];repeat first|exact True.intro|refine And.intro rfl ?_)
    refine jP (λk=>k+6) (λ_=>0) qR' ?_;exact .inl ⟨_,_,_,id,rfl,rfl,rfl,rfl,⟨rfl,rfl,rfl,rfl,trivial⟩,rfl⟩
end
def Fi(g:Nat)(cx:Ctx)(t:Tr)(y:Tr):List (Nat×SE):=[(100,.st g 27 [.p (aG (cx.map aA))]),(101,.st (g+1) 29 [.p (ah (row t))]),(102,.st (g+2) 29 [.row 103]),(103,.rw 42 3 ((row y).map ndP))]
section
variable{B:aq}{cx:Ctx}(hI:BoI B)(hB:GoodB B)(hcx:CxOk B cx)(hcl:cx.length<=260)
include hI hB hcx hcl
theorem M3{t:Tr}(ht:Ft (QB B) (cx.length:Int) t){n:Nat}(d:n<=100000){y:PV}{q:Tr×Nat}(hr:dD B GJ cx t n= .ok q):
  VG prog 45 [.c (.ptr 0 0),.c (.ptr 100 0),.c (.ptr 101 0),.c (.ptr 102 0)] ((0,.st 1 132 ((dm B n).map .p))::n9 2 cx t y) (.ok (.c (.p (.tup [])),(0,.st 1 132 ((dm B q.2).map .p))::Fi 2 cx t q.1)):=by
 have f:=ht.len;have e:=oX';have a:=jgG hI hB GJ cx 64 t n hcx hcl ht (rh hB ht) Oo d;unfold bG at a;refine cI 10 [] τok func45 ?_;refine aj τok ?_;rw[hr]at a;have b:=(kH hB GJ).ft _ _ _ _ hcx hcl ht hr;refine ax a ?_;refine eV (oP (aS q.1) (by have:=b.len;omega)) ?_;exact .inl ⟨_,_,_,λk=>sw 103 9 k,rfl,rfl,rfl,rfl,⟨rfl,rfl,rfl,rfl,rfl,trivial⟩,rfl⟩
theorem M4{t:Tr}(ht:Ft (QB B) (cx.length:Int) t)(fuel:Int){y:PV}{q:Tr×Nat}(hr:jr B cx t fuel= .ok q):VG prog 44 [.c (.p (aW B)),.c (.p (pI fuel)),.c (.fn 45 [100,101,102])] (n9 1 cx t y) (.ok (.c (.p (.tup [pI q.2,pI 0])),Fi 1 cx t q.1)):=by
 have a:min (max fuel 0) 100000=((bE fuel:Nat):Int):=by unfold bE;omega
 have b:=M3 hI hB hcx hcl ht (ri fuel) (y:=y) (q:=q) hr;refine oL 23 [.cell 6 3,.cell 7 34] τok func44 ?_;refine aj τok<|⟨⟨rfl,rfl,rfl⟩,rfl,λd=>?_⟩;refine aj τok<|bv (λk=>sw 0 15 k) (λk=>k-99) b ?_ (he:=by rw[a];repeat first|exact True.intro|refine And.intro rfl ?_);refine jP (λk=>k+6) (λ_=>0) qR' ?_;exact .inl ⟨_,_,_,id,rfl,rfl,rfl,rfl,⟨rfl,rfl,rfl,rfl,trivial⟩,rfl⟩
theorem M5{t:Tr}(ht:Ft (QB B) (cx.length:Int) t)(fuel:Int){q:Tr×Nat}(hr:jr B cx t fuel= .ok q):VG prog 26 (vals [aW B,aG (cx.map aA),ah (row t),pI fuel]) [] (.ok (.tp [.row 0,.p (pI q.2),.p (pI 0)],[(0,.rw 42 3 ((row q.1).map ndP))])):=by
 have a:=M4 hI hB hcx hcl ht fuel (y:=.raw (.slice none 0 0)) hr;refine cI 24 [.tmp 8,.tmp 9,.tmp 10] τok func26 ?_;refine aj τok<|bv (λk=>sw 100 5 (sw 101 6 (sw 102 11 k))) (λ_=>0) a ?_;exact .inr ⟨_,λ_=>103,rfl,rfl,⟨rfl,trivial⟩,rfl⟩
end
theorem M6{B:aq}(hI:BoI B)(hB:dc B){c:CxR}(hc:c.length<=1000000)(e:∀q∈c,q.1.length<=1000000000/\q.2.length<=1000000000){t:List Nd}(ht:t.length<=1000000000)(fuel:Int){r:Tr×Nat}(hr:gv B c t fuel= .ok r):
  VG prog 8 (vals [aW B,aG c,ah t,pI fuel]) [] (.ok (.tp [.row 0,.p (pI r.2),.p (pI 0)],[(0,.rw 42 3 ((row r.1).map ndP))])):=by
 unfold gv at hr;split at hr
 ·cases hr
 rename_i g;obtain⟨f,i,j,a,hcx,b,d⟩:=mQ (Decidable.not_not.1 g);have h:=M5 hI f hcx (by rw[iq];omega) (by rw[iq];exact d) fuel hr;rw[<- a,<- b]at h;refine cI 27 [.tmp 8,.tmp 9,.tmp 10] τok func8 ?_;refine aj τok<|af (qT hB hc e ht) ?_;refine vn ?_ g;refine bv (λ_=>23) (λ_=>0) h ?_;exact .inr ⟨_,λ_=>23,rfl,rfl,⟨rfl,trivial⟩,rfl⟩
theorem M7{x:Tr}(e:Ok .tm x)(d:(row x).length<=4096)(h2:x.n.op=2):VO prog 86 [ah (row x)] 48 2 ((bK x).map atP):=by
 have hr:=iA e;have a:kidsT x=[]:=by unfold kidsT;cases x;exact if_pos h2
 have f:atmsT x=x.ks.map (·.n):=by unfold atmsT;rw[if_pos h2]
 rw[a,f]at hr;simp only[cd,JD]at hr;have b:=congrArg List.length hr;simp only[JV,List.length_map]at b;have m:=ak ndP (row x);have h:(((row x).map ndP).take (row x).length).drop 1=(x.ks.map (·.n)).map ndP:=by
  rw[JG Oo,hr]
  rfl
 have o:=ak ndP (x.ks.map (·.n));have q:=ak (λk:Tr=>k.n) x.ks;refine lu 23 [.tmp 2] τok func86 ?_;refine aj τok<|bC 1 (row x).length ?_ (λy i=>by
  obtain⟨_,_,rfl⟩:=List.mem_map.1 i
  rfl)
 rw[h];refine cV 3 1000 48 2 rfl rfl<|az τok (σ:=Nat) [(7,_),(8,_)] [] (λj=>[(3,.c (.row 1000)),(9,vI j)]) (λj=>[(1000,.rw 48 2 (((bK x).take j).map atP))]) (λj=>j<=x.ks.length) (λj=>x.ks.length-j) 0 (KV _) ?_;intro j r;refine aj τok<|ae (λg=>?_) (λg=>?_)
 ·have g:(j:Int)<(((x.ks.map (·.n)).map ndP).length:Int):=g
  obtain⟨k,a,_⟩:=ay (l:=x.ks) (k:=j);refine vm (p:=ndP) j (x:=k.n) (by rw[JX,a];rfl) ?_;refine aV ?_ (hb:=OK);refine vi ?_;exact au (j+1) (by show j+1<=_;omega) (sw 1000 20) (y':=⟨congrArg (λl=>some (SE.rw _ _ l)) (by
   rw[List.take_add_one,List.map_append];unfold bK;rw[JX,a]
   rfl),trivial⟩)
 ·have g:¬ (j:Int)<(((x.ks.map (·.n)).map ndP).length:Int):=g
  rw[JG (by simp[bK];omega)];exact⟨1000,rfl,rfl⟩
def Fj(g:Nat)(cx:Ctx)(t:Tr)(k:Int)(l:List Atom):List (Nat×SE):=[(100,.st g 27 [.p (aG (cx.map aA))]),(101,.st (g+1) 29 [.p (ah (row t))]),(102,.st (g+2) 3 [.p (pI k)]),(103,.st (g+3) 44 [.row 104]),(104,.rw 48 2 (l.map atP))]
section
variable{B:aq}{cx:Ctx}(hI:BoI B)(hB:GoodB B)(hcx:CxOk B cx)(hcl:cx.length<=260)
include hI hB hcx hcl
theorem M8{t:Tr}(ht:Ft (QB B) (cx.length:Int) t){n:Nat}(b:bG B cx t n (dD B GJ cx t n)){r:(Int×List Atom)×Nat}(hR:dd B (dD B GJ) cx t n= .ok r):
  VG prog 68 (.c (.ptr 0 0)::vals [aG (cx.map aA),ah (row t)]) [(0,.st 1 132 ((dm B n).map .p))] (.ok (.tp [.p (pI r.1.1),.row 1],[(0,.st 1 132 ((dm B r.2).map .p)),(1,.rw 48 2 (r.1.2.map atP))])):=by
 unfold dd at hR;unfold bG at b;refine cI 37 [.tmp 6,.tmp 7] τok func68 ?_;refine aj τok ?_;obtain⟨⟨y,m⟩,d,hR⟩:=bF hR;have e:=(kH hB GJ).ft _ _ _ _ hcx hcl ht d;rw[d]at b;obtain⟨⟨z,j⟩,f,hR⟩:=bF hR;have h:=re hI hB hcx hcl e m;obtain⟨_,_,l⟩:=iG hB hcx e f;have a:=aB l.head;have u:=ak (λt=>[ah t]) ((argsT z).map row);have v:=ak row (argsT z);rw[show dH B cx y m= .ok (z,j)from f]at h;split at hR
 ·cases hR
 rename_i g;cases hR;have i:(headT z).n.op=2:=by
  have g:¬ ((headT z).n.op≠2 \/0<(argsT z).length):=g;omega
 have o:¬ ((((argsT z).map row).map λt=>[ah t]).length:Int)>0:=by
  have g:¬ ((headT z).n.op≠2 \/0<(argsT z).length):=g;omega
 refine ax b ?_;refine ax h ?_;refine vm (p:=ndP) 0 (aJ a) ?_;refine vn (p:=(headT z).n.op≠2) ?_ (λq=>q i);refine vn (p:=((((argsT z).map row).map λt=>[ah t]).length:Int)>0) ?_ o;refine vm (p:=ndP) 0 (aJ a) ?_;refine eV (M7 a.ok a.len i) ?_;refine vk ?_;exact .inr ⟨_,λk=>sw 1 36 k,rfl,rfl,⟨rfl,rfl,trivial⟩,rfl⟩
theorem M9{t:Tr}(ht:Ft (QB B) (cx.length:Int) t){n:Nat}(a:n<=100000){y z:PV}{q:(Int×List Atom)×Nat}(hr:dd B (dD B GJ) cx t n= .ok q):
  VG prog 67 [.c (.ptr 0 0),.c (.ptr 100 0),.c (.ptr 101 0),.c (.ptr 102 0),.c (.ptr 103 0)] ((0,.st 1 132 ((dm B n).map .p))::od 2 cx t y z) (.ok (.c (.p (.tup [])),(0,.st 1 132 ((dm B q.2).map .p))::Fj 2 cx t q.1.1 q.1.2)):=by
 have e:=ht.len;have b:=oX';have d:=M8 hI hB hcx hcl ht (jgG hI hB GJ cx 64 t n hcx hcl ht (rh hB ht) Oo a) hr;refine cI 13 [] τok func67 ?_;refine aj τok<|bv (λk=>sw 1 10 k) (λk=>k+1) d ?_;exact .inl ⟨_,_,_,λk=>sw 104 10 k,rfl,rfl,rfl,rfl,⟨rfl,rfl,rfl,rfl,rfl,rfl,trivial⟩,rfl⟩
theorem Na{t:Tr}(ht:Ft (QB B) (cx.length:Int) t)(fuel:Int){y z:PV}{q:(Int×List Atom)×Nat}(hr:pg B cx t fuel= .ok q):VG prog 44 [.c (.p (aW B)),.c (.p (pI fuel)),.c (.fn 67 [100,101,102,103])] (od 1 cx t y z) (.ok (.c (.p (.tup [pI q.2,pI 0])),Fj 1 cx t q.1.1 q.1.2)):=by
 have a:min (max fuel 0) 100000=((bE fuel:Nat):Int):=by unfold bE;omega
 have b:=M9 hI hB hcx hcl ht (ri fuel) (y:=y) (z:=z) hr;refine oL 23 [.cell 6 3,.cell 7 34] τok func44 ?_;refine aj τok<|⟨⟨rfl,rfl,rfl⟩,rfl,λd=>?_⟩;refine aj τok<|bv (λk=>sw 0 15 k) (λk=>k-99) b ?_ (he:=by rw[a];repeat first|exact True.intro|refine And.intro rfl ?_);refine jP (λk=>k+6) (λ_=>0) qR' ?_;exact .inl ⟨_,_,_,id,rfl,rfl,rfl,rfl,⟨rfl,rfl,rfl,rfl,rfl,trivial⟩,rfl⟩
theorem Nb{t:Tr}(ht:Ft (QB B) (cx.length:Int) t)(fuel:Int){q:(Int×List Atom)×Nat}(hr:pg B cx t fuel= .ok q):VG prog 32 (vals [aW B,aG (cx.map aA),ah (row t),pI fuel]) [] (.ok (.tp [.p (pI q.1.1),.row 0,.p (pI q.2),.p (pI 0)],[(0,.rw 48 2 (q.1.2.map atP))])):=by
 have a:=Na hI hB hcx hcl ht fuel (y:=pI 0) (z:=.raw (.slice none 0 0)) hr;refine cI 23 [.cell 8 3,.cell 9 44,.tmp 10,.tmp 11] τok func32 ?_;refine aj τok<|bv (λk=>sw 100 5 (sw 101 6 (sw 102 8 (sw 103 9 k)))) (λ_=>0) a ?_;refine vk ?_;exact .inr ⟨_,λ_=>104,rfl,rfl,⟨rfl,trivial⟩,rfl⟩
end
theorem Nc{B:aq}(hI:BoI B)(hB:dc B){c:CxR}(hc:c.length<=1000000)(e:∀q∈c,q.1.length<=1000000000/\q.2.length<=1000000000){t:List Nd}(ht:t.length<=1000000000)(fuel:Int){q:(Int×List Atom)×Nat}(hr:px B c t fuel= .ok q):
  VG prog 14 (vals [aW B,aG c,ah t,pI fuel]) [] (.ok (.tp [.p (pI q.1.1),.row 0,.p (pI q.2),.p (pI 0)],[(0,.rw 48 2 (q.1.2.map atP))])):=by
 unfold px at hr;split at hr
 ·cases hr
 rename_i g;obtain⟨f,i,j,a,hcx,b,d⟩:=mQ (Decidable.not_not.1 g);have h:=Nb hI f hcx (by rw[iq];omega) (by rw[iq];exact d) fuel hr;rw[<- a,<- b]at h;refine cI 29 [.tmp 8,.tmp 9,.tmp 10,.tmp 11] τok func14 ?_;refine aj τok<|af (qT hB hc e ht) ?_;refine vn ?_ g;refine bv (λ_=>24) (λ_=>0) h ?_;exact .inr ⟨_,λ_=>24,rfl,rfl,⟨rfl,trivial⟩,rfl⟩
theorem ud{l:List (List Nd)}(h:ko l):VC prog 31 [bw l] (bw l):=by
 have a:=ak (λt:List Nd=>[ah t]) l;have b:=h.1;refine cA 20 [.tmp 2] τok func31 ?_;refine aj τok<|cV 3 1000 29 1 rfl rfl<|az τok (σ:=Nat) [(0,_)] [] (λi=>[(3,.c (.row 1000)),(4,vI i)]) (λi=>[(1000,.rw 29 1 ((l.take i).map rP))]) (λi=>i<=l.length) (λi=>l.length-i) 0 (KV _) ?_;rintro i d;refine aj τok<|ae (λg=>?_) (λg=>?_)
 ·obtain⟨t,ht,e⟩:=ay (l:=l) (k:=i)
  refine vm (p:=rP) i ht ?_;refine af (o3 (h.2 t (JQ ht))) ?_;refine aV ?_ (hb:=OK);refine vi ?_;exact au (i+1) (by show i+1<=_;omega) (sw 1000 18) (y':=⟨congrArg (λl=>some (SE.rw _ _ l)) (by rw[List.take_add_one,ht];simp[cQ];rfl),trivial⟩)
 ·rw[JG Oo]
  exact eA9
theorem ue{l:List (List Nd)}(h:ko l):VC prog 69 [bw l,bw l] (.bool true):=by
 have d:=ak (λt:List Nd=>[ah t]) l;have e:=h.1;refine vf 27 [.tmp 4] τok func69 ?_;refine vn ?_ (λq=>q rfl);refine vl τok (σ:=Nat) [(0,_),(1,_)] (λi=>[(5,vI i)]) (λi=>i<=l.length) (λi=>l.length-i) 0 (KV _) ?_;rintro i f;refine ae (λg=>?_) (λg=>?_)
 ·obtain⟨t,ht,j⟩:=ay (l:=l) (k:=i)
  have c:=jX (a:=t) (b:=t) (by have:=h.2 t (JQ ht);omega) (by have:=h.2 t (JQ ht);omega);rw[decide_eq_true rfl]at c;refine vm (p:=rP) i ht ?_;refine vm (p:=rP) i ht ?_;refine af c ?_;refine vk ?_;refine vi ?_;exact au (i+1) (by show i+1<=_;omega)
 ·exact eA9
theorem Nf{c:List (List Nd×List Nd)}(h:rn c):VC prog 12 [aG c] (aG c):=by
 have b:=ak bdP c;have d:=h.1;refine cA 28 [.tmp 2] τok func12 ?_;refine aj τok<|cV 3 1000 72 2 rfl rfl<|az τok (σ:=Nat) [(0,_)] [] (λi=>[(3,.c (.row 1000)),(4,vI i)]) (λi=>[(1000,.rw 72 2 ((c.take i).map bdP))]) (λi=>i<=c.length) (λi=>c.length-i) 0 (KV _) ?_;rintro i e;refine aj τok<|ae (λg=>?_) (λg=>?_)
 ·obtain⟨t,ht,f⟩:=ay (l:=c) (k:=i)
  have a:=h.2 t (JQ ht);refine vm (p:=bdP) i ht ?_;refine af (o3 a.1) ?_;refine vm (p:=bdP) i ht ?_;refine af (o3 a.2) ?_;refine aV ?_ (hb:=OK);refine vk ?_;refine vi ?_;exact au (i+1) (by show i+1<=_;omega) (sw 1000 26) (y':=⟨congrArg (λl=>some (SE.rw _ _ l)) (by rw[List.take_add_one,ht];simp[cQ];rfl),trivial⟩)
 ·rw[JG Oo]
  exact eA9
theorem Ng{c:List (List Nd×List Nd)}(h:rn c):VC prog 16 [aG c,aG c] (.bool true):=by
 have f:=ak bdP c;have j:=h.1;refine vf 43 [.tmp 4] τok func16 ?_;refine vn ?_ (λq=>q rfl);refine vl τok (σ:=Nat) [(0,_),(1,_)] (λi=>[(5,vI i)]) (λi=>i<=c.length) (λi=>c.length-i) 0 (KV _) ?_;rintro i m;refine ae (λg=>?_) (λg=>?_)
 ·obtain⟨t,ht,o⟩:=ay (l:=c) (k:=i)
  have r:=h.2 t (JQ ht);have d:=jX (a:=t.1) (b:=t.1) Oo Oo;have e:=jX (a:=t.2) (b:=t.2) Oo Oo;rw[decide_eq_true rfl]at d e;refine vm (p:=bdP) i ht ?_;refine vm (p:=bdP) i ht ?_;refine af d ?_;refine vm (p:=bdP) i ht ?_;refine vm (p:=bdP) i ht ?_;refine af e ?_;refine vk ?_;refine vi ?_;exact au (i+1) (by show i+1<=_;omega)
 ·exact eA9
theorem Nh(l:List aO):∀x∈l,(orP x).length=3/\∀q∈orP x,q.one=true:=λx _=>⟨rfl,λq a=>by
 simp only[orP,JJ,JZ,or_false]at a;rcases a with rfl|rfl|rfl<;>rfl⟩
theorem Ni(l:List (Int×Int)):∀x∈l,(prP x).length=2/\∀q∈prP x,q.one=true:=λx _=>⟨rfl,λq a=>by
 simp only[prP,JJ,JZ,or_false]at a;rcases a with rfl|rfl<;>rfl⟩
theorem Nj{B:aq}(hB:dc B):VC prog 11 [aW B] (aW B):=by
 have q:=ak orP B.orders;have r:=ak prP B.prims;have u:=ak aQ B.ents;have d:=hB.o;have e:=hB.p;have f:=hB.e;refine cA 85 [.cell 2 26] τok func11 ?_;refine aC τok<|aC τok<|va ?_ (Nh _);refine va ?_ (Ni _);refine vk ?_;show VCode _ _ _ _ _;refine nE 3 1 15 ?_;refine nE 3 4 19 ?_;refine jE 3 2 1000 67 7 rfl rfl rfl OO<|aC τok<|az τok (σ:=Nat) [(1,_),(2,_),(3,_)] [(1,_),(2,_)] (λi=>[(4,vI i)]) (λi=>[(3,.st 0 26 [.p (pI B.vars),.p (.sl (B.orders.map orP)),.row 1000,.p (pI B.nat),.p (.sl (B.prims.map prP))]),(1000,.rw 67 7 ((B.ents.take i).map aQ))]) (λi=>i<=B.ents.length) (λi=>B.ents.length-i) 0 (KV _) ?_;rintro i v;refine aC τok<|ae (λg=>?_) (λg=>?_)
 ·obtain⟨x,c,z⟩:=ay (l:=B.ents) (k:=i)
  have a:=hB.x x (JQ c);have C:=a.c;have eC:=ak aZ x.ctors;refine VCode.seq (VCode.blk<|aC τok<|vm (p:=aQ) i c ?_);refine aC τok<|af (o3 a.s) ?_;refine af (ud a.p) ?_;refine af (ud a.i) ?_;refine af (o3 a.t) ?_;refine af (o3 a.b) ?_;refine vk ?_;show VCode _ _ _ _ _;refine jE 6 4 1002 70 2 rfl rfl rfl OO<|aC τok<|az τok (σ:=Nat) [(1,_),(2,_),(3,_),(4,_),(5,_),(6,_)] [(1,_),(2,_),(3,_),(1000,_),(5,_)] (λk=>[(7,vI k)]) (λk=>[(6,.st 0 67 [.p (pI x.kind),.p (ah x.sort),.p (bw x.params),.p (bw x.indices),.row 1002,.p (ah x.type),.p (ah x.body)]),(1002,.rw 70 2 ((x.ctors.take k).map aZ))]) (λk=>k<=x.ctors.length) (λk=>x.ctors.length-k) 0 (KV _) ?_;rintro k D;refine aj τok<|ae (λh=>?_) (λh=>?_)
  ·obtain⟨y,b,j⟩:=ay (l:=x.ctors) (k:=k)
   obtain⟨m,o⟩:=a.a y (JQ b);refine vm (p:=aZ) k b ?_;refine af (ud m) ?_;refine vm (p:=aZ) k b ?_;refine af (ud o) ?_;refine aV ?_ (hb:=OK);refine vk ?_;refine vi ?_;exact au (k+1) (by show k+1<=_;omega) (sw 1002 76) (y':=⟨rfl,congrArg (λl=>some (SE.rw _ _ l)) (by rw[List.take_add_one,b];simp[cQ];rfl),trivial⟩)
  ·rw[JG Oo]
   show VCode _ _ _ _ _;refine nE 6 4 1002 ?_;refine aj τok<|aV ?_ (hb:=OK);refine aj τok<|vi ?_;exact au (i+1) (by show i+1<=_;omega) (sw 1000 82) (y':=⟨rfl,congrArg (λl=>some (SE.rw _ _ l)) (by rw[List.take_add_one,c];simp[cQ];rfl),trivial⟩)
 ·rw[JG Oo]
  show VCode _ _ _ _ _;refine nE 3 2 1000 ?_;exact aj τok<|eA9
theorem Nk(x y:Operand)(n:aO)(w:World):(do eqGuard .neq 74 x y (.agg #[.int .i64 n.low,.int .i64 n.add,.int .i64 n.high]) (.agg #[.int .i64 n.low,.int .i64 n.add,.int .i64 n.high]);binOp .neq 74 (.agg #[.int .i64 n.low,.int .i64 n.add,.int .i64 n.high]) (.agg #[.int .i64 n.low,.int .i64 n.add,.int .i64 n.high]):Sem Value).run prog w= .ok (.bool false) w:=by
 have d : (prog.fieldsOf 74).toList.map (λf => (f.name != "_", f.offset, f.type)) = [(true, 0, 3), (true, 1, 3), (true, 2, 3)] := by kernel_rfl
 have k:prog.underlying 74=some (.struct (prog.fieldsOf 74)):=OD
 have l:prog.eqGuardType prog.depth 74=false:=OD
 have e:prog.stoodInHeld 74=false:=OD
 simp only[Sem.run_bind,run_eqGuard_agg w .neq 74 x y _ _ l,Result.andThen_ok,run_neq_struct];rw[show (10000:Nat)=9999+1 from rfl,run_equalIn_struct w 9999 74 _ _ k e]
 generalize (prog.fieldsOf 74).toList=j at d
 have i:j.length=3:=by have:=congrArg List.length d;simpa using this
 match j,i,d with
 |[f,g,h],_,d=>
  simp only[List.map_cons,List.map_nil,List.cons.injEq,Prod.mk.injEq,bne_iff_ne,ne_eq,and_true]at d;obtain⟨⟨m,o,p⟩,⟨q,r,u⟩,v,z,C⟩:=d;have D:∀(a b:Int) (w:World),(Op.equalIn 9999 3 (.int .i64 a) (.int .i64 b)).run prog w= .ok (a==b) w:=λa b w=>by rw[show (9999:Nat)=9998+1 from rfl];exact run_equalIn_int w 9998 3 .i64 .i64 a b underlying3
  have E:∀(a b c:Value) (w:World),(part 3 #[a,b,c] 0).run prog w= .ok a w:=λa b c w=>by simp[part,isAgg,run_underlying underlying3]
  have F:∀(a b c:Value) (w:World),(part 3 #[a,b,c] 1).run prog w= .ok b w:=λa b c w=>by simp[part,isAgg,run_underlying underlying3]
  have I:∀(a b c:Value) (w:World),(part 3 #[a,b,c] 2).run prog w= .ok c w:=λa b c w=>by simp[part,isAgg,run_underlying underlying3]
  simp[Op.eqFields,m,q,v,o,r,z,p,u,C,E,F,I,D]
theorem Nl(x y:Operand)(n:Int×Int)(w:World):(do eqGuard .neq 77 x y (.agg #[.int .i64 n.1,.int .i64 n.2]) (.agg #[.int .i64 n.1,.int .i64 n.2]);binOp .neq 77 (.agg #[.int .i64 n.1,.int .i64 n.2]) (.agg #[.int .i64 n.1,.int .i64 n.2]):Sem Value).run prog w= .ok (.bool false) w:=by
 have c : (prog.fieldsOf 77).toList.map (λf => (f.name != "_", f.offset, f.type)) = [(true, 0, 3), (true, 1, 3)] := by kernel_rfl
 have i:prog.underlying 77=some (.struct (prog.fieldsOf 77)):=OD
 have j:prog.eqGuardType prog.depth 77=false:=OD
 have d:prog.stoodInHeld 77=false:=OD
 simp only[Sem.run_bind,run_eqGuard_agg w .neq 77 x y _ _ j,Result.andThen_ok,run_neq_struct];rw[show (10000:Nat)=9999+1 from rfl,run_equalIn_struct w 9999 77 _ _ i d]
 generalize (prog.fieldsOf 77).toList=h at c
 have e:h.length=2:=by have:=congrArg List.length c;simpa using this
 match h,e,c with
 |[f,g],_,c=>
  simp only[List.map_cons,List.map_nil,List.cons.injEq,Prod.mk.injEq,bne_iff_ne,ne_eq,and_true]at c;obtain⟨⟨k,l,m⟩,o,p,q⟩:=c;have r:∀(a b:Int) (w:World),(Op.equalIn 9999 3 (.int .i64 a) (.int .i64 b)).run prog w= .ok (a==b) w:=λa b w=>by rw[show (9999:Nat)=9998+1 from rfl];exact run_equalIn_int w 9998 3 .i64 .i64 a b underlying3
  have u:∀(a b:Value) (w:World),(part 3 #[a,b] 0).run prog w= .ok a w:=λa b w=>by simp[part,isAgg,run_underlying underlying3]
  have v:∀(a b:Value) (w:World),(part 3 #[a,b] 1).run prog w= .ok b w:=λa b w=>by simp[part,isAgg,run_underlying underlying3]
  simp[Op.eqFields,k,o,l,p,m,q,u,v,r]
theorem zr{x y:Operand}{p:aO}{k:PV ->Prop}(e:k (.bool false)):mc prog .neq 74 x y (.c (.p (.agg (orP p)))) (.c (.p (.agg (orP p)))) k:=by
 refine⟨_,λC ρ va r w f i=>?_,e⟩;have rd:∀{v:Value},RA C ρ (.c (.p (.agg (orP p)))) v ->v= .agg #[.int .i64 p.low,.int .i64 p.add,.int .i64 p.high]:=λ{v} h=>by
  have h:RV C (.agg (orP p)) v:=h;cases h with
  |agg u j l d=>
   match j,l with
   |[a,b,c],_=>
    have m:=d 0 _ _ rfl rfl;have o:=d 1 _ _ rfl rfl;have q:=d 2 _ _ rfl rfl;cases m;cases o;cases q
    rfl
 rw[rd f,rd i];exact⟨_,.bool _,Nk x y p w⟩
theorem zt{x y:Operand}{p:Int×Int}{k:PV ->Prop}(e:k (.bool false)):mc prog .neq 77 x y (.c (.p (.agg (prP p)))) (.c (.p (.agg (prP p)))) k:=by
 refine⟨_,λC ρ va q w f i=>?_,e⟩;have rd:∀{v:Value},RA C ρ (.c (.p (.agg (prP p)))) v ->v= .agg #[.int .i64 p.1,.int .i64 p.2]:=λ{v} h=>by
  have h:RV C (.agg (prP p)) v:=h;cases h with
  |agg r j l d=>
   match j,l with
   |[a,b],_=>
    have m:=d 0 _ _ rfl rfl;have o:=d 1 _ _ rfl rfl;cases m;cases o
    rfl
 rw[rd f,rd i];exact⟨_,.bool _,Nl x y p w⟩
theorem Nm{x:bX}(h:oI x):VC prog 33 [.agg (aQ x),.agg (aQ x)] (.bool true):=by
 have eC:=ak aZ x.ctors;have j:=h.c;have c:∀{t:List Nd},t.length<=1000000 ->VC prog 10 [ah t,ah t] (.bool true):=λ{t} h=>by
  have:=jX (a:=t) (b:=t) Oo Oo
  rwa [decide_eq_true rfl]at this
 refine vf 97 [.tmp 4] τok func33 ?_;refine vn ?_ (λq=>q rfl);refine vn ?_ (λq=>q rfl);refine af (c h.s) ?_;refine af (ue h.p) ?_;refine af (ue h.i) ?_;refine af (c h.t) ?_;refine af (c h.b) ?_;refine az τok (σ:=Nat) [(2,_),(3,_)] [(2,_),(3,_)] (λi=>[(5,vI i)]) (λ_=>[]) (λi=>i<=x.ctors.length) (λi=>x.ctors.length-i) 0 (KV _) ?_;rintro i m;refine aj τok<|ae (λg=>?_) (λg=>?_)
 ·obtain⟨y,d,o⟩:=ay (l:=x.ctors) (k:=i)
  obtain⟨e,f⟩:=h.a y (JQ d);refine vm (p:=aZ) i d ?_;refine vm (p:=aZ) i d ?_;refine af (ue e) ?_;refine vm (p:=aZ) i d ?_;refine vm (p:=aZ) i d ?_;refine af (ue f) ?_;refine vk ?_;refine vi ?_;exact au (i+1) (by show i+1<=_;omega)
 ·exact eA9
theorem Nn{B:aq}(hB:dc B):VC prog 15 [aW B,aW B] (.bool true):=by
 have h:=ak orP B.orders;have j:=ak prP B.prims;have m:=ak aQ B.ents;have d:=hB.o;have e:=hB.p;have f:=hB.e;refine vf 102 [.tmp 4] τok func15 ?_;refine vn ?_ (λq=>q rfl);refine vn ?_ (λq=>q rfl);refine vn ?_ (λq=>q rfl);refine vn ?_ (λq=>q rfl);refine vn ?_ (λq=>q rfl);refine az τok (σ:=Nat) [(2,_),(3,_)] [(2,_),(3,_)] (λi=>[(5,vI i)]) (λ_=>[]) (λi=>i<=B.orders.length) (λi=>B.orders.length-i) 0 (KV _) ?_;rintro i b;refine aj τok<|ae (λg=>?_) (λg=>?_)
 ·obtain⟨y,a,c⟩:=ay (l:=B.orders) (k:=i)
  refine vm (p:=orP) i a ?_;refine vm (p:=orP) i a ?_;refine zr<|vk ?_;refine vi ?_;exact au (i+1) (by show i+1<=_;omega)
 refine az τok (σ:=Nat) [(2,_),(3,_)] [(2,_),(3,_)] (λi=>[(6,vI i)]) (λ_=>[]) (λi=>i<=B.ents.length) (λi=>B.ents.length-i) 0 (KV _) ?_;rintro i b;refine aj τok<|ae (λg=>?_) (λg=>?_)
 ·obtain⟨y,a,c⟩:=ay (l:=B.ents) (k:=i)
  refine vm (p:=aQ) i a ?_;refine vm (p:=aQ) i a ?_;refine af (Nm (hB.x y (JQ a))) ?_;refine vk ?_;refine vi ?_;exact au (i+1) (by show i+1<=_;omega)
 refine az τok (σ:=Nat) [(2,_),(3,_)] [(2,_),(3,_)] (λi=>[(7,vI i)]) (λ_=>[]) (λi=>i<=B.prims.length) (λi=>B.prims.length-i) 0 (KV _) ?_;rintro i b;refine aj τok<|ae (λg=>?_) (λg=>?_)
 ·obtain⟨y,a,c⟩:=ay (l:=B.prims) (k:=i)
  refine vm (p:=prP) i a ?_;refine vm (p:=prP) i a ?_;refine zt<|vk ?_;refine vi ?_;exact au (i+1) (by show i+1<=_;omega)
 ·exact eA9
theorem No{a:List Nd}(ha:a.length<=1000000):VO prog 13 [ah a] 42 3 (a.map ndP):=by
 refine lu 6 [.tmp 2] τok func13 ?_;refine aj τok<|va ?_ (fN _);exact⟨5,rfl,rfl⟩
def Bv':AC:=.p (.raw (.slice none 0 0))
section
variable{B:aq}{cx:Ctx}(hI:BoI B)(hB:GoodB B)(hcx:CxOk B cx)(hcl:cx.length<=260)
include hI hB hcx hcl
theorem Np{t:Tr}(ht:Ft (QB B) (cx.length:Int) t)(fuel:Int){e:Int}(hr:jr B cx t fuel= .error e):VG prog 26 (vals [aW B,aG (cx.map aA),ah (row t),pI fuel]) [] (.ok (.tp [Bv',.p (pI 0),.p (pI e)],[])):=by
 have a:=E9 hI hB hcx hcl ht fuel (y:=.raw (.slice none 0 0));rw[hr]at a;refine cI 24 [.tmp 8,.tmp 9,.tmp 10] τok func26 ?_;refine aj τok<|bv (λk=>sw 100 5 (sw 101 6 (sw 102 11 k))) (λ_=>0) a ?_;exact .inr ⟨_,id,rfl,rfl,trivial,rfl⟩
theorem Nq{t:Tr}(ht:Ft (QB B) (cx.length:Int) t)(fuel:Int){e:Int}(hr:pg B cx t fuel= .error e):VG prog 32 (vals [aW B,aG (cx.map aA),ah (row t),pI fuel]) [] (.ok (.tp [.p (pI 0),Bv',.p (pI 0),.p (pI e)],[])):=by
 have a:=M1 hI hB hcx hcl ht fuel (y:=pI 0) (z:=.raw (.slice none 0 0));rw[hr]at a;refine cI 23 [.cell 8 3,.cell 9 44,.tmp 10,.tmp 11] τok func32 ?_;refine aj τok<|bv (λk=>sw 100 5 (sw 101 6 (sw 102 8 (sw 103 9 k)))) (λ_=>0) a ?_;refine vk ?_;exact .inr ⟨_,id,rfl,rfl,trivial,rfl⟩
end
theorem Nr{B:aq}(hI:BoI B)(hB:dc B){c:CxR}(hc:c.length<=1000000)(f:∀q∈c,q.1.length<=1000000000/\q.2.length<=1000000000){t:List Nd}(ht:t.length<=1000000000)(fuel:Int){e:Int}(hr:gv B c t fuel= .error e):
  VG prog 8 (vals [aW B,aG c,ah t,pI fuel]) [] (.ok (.tp [Bv',.p (pI 0),.p (pI e)],[])):=by
 unfold gv at hr;refine cI 27 [.tmp 8,.tmp 9,.tmp 10] τok func8 ?_;refine aj τok<|af (qT hB hc f ht) ?_;refine ae (λg=>?_) (λg=>?_)
 ·rw[if_pos g]at hr
  cases hr;exact .inr ⟨_,id,rfl,rfl,trivial,rfl⟩
 rw[if_neg g]at hr;obtain⟨i,j,k,a,hcx,b,d⟩:=mQ (Decidable.not_not.1 g);have h:=Np hI i hcx (by rw[iq];omega) (by rw[iq];exact d) fuel hr;rw[<- a,<- b]at h;refine bv id (λ_=>0) h ?_;exact .inr ⟨_,id,rfl,rfl,trivial,rfl⟩
theorem Ns{B:aq}(hI:BoI B)(hB:dc B){c:CxR}(hc:c.length<=1000000)(f:∀q∈c,q.1.length<=1000000000/\q.2.length<=1000000000){t:List Nd}(ht:t.length<=1000000000)(fuel:Int){e:Int}(hr:px B c t fuel= .error e):
  VG prog 14 (vals [aW B,aG c,ah t,pI fuel]) [] (.ok (.tp [.p (pI 0),Bv',.p (pI 0),.p (pI e)],[])):=by
 unfold px at hr;refine cI 29 [.tmp 8,.tmp 9,.tmp 10,.tmp 11] τok func14 ?_;refine aj τok<|af (qT hB hc f ht) ?_;refine ae (λg=>?_) (λg=>?_)
 ·rw[if_pos g]at hr
  cases hr;exact .inr ⟨_,id,rfl,rfl,trivial,rfl⟩
 rw[if_neg g]at hr;obtain⟨i,j,k,a,hcx,b,d⟩:=mQ (Decidable.not_not.1 g);have h:=Nq hI i hcx (by rw[iq];omega) (by rw[iq];exact d) fuel hr;rw[<- a,<- b]at h;refine bv id (λ_=>0) h ?_;exact .inr ⟨_,id,rfl,rfl,trivial,rfl⟩
end Go.Proofs.YtjnjbghlemiklaaGreat
namespace Go.Wx
theorem Nt{P:Program}{w:World}{b o:Nat}{c d e:Value}{k:World ->Prop}{cs:List Value}{T:TypeId}(hB:Bk w.heap b cs T)(I:o+2<cs.length)(m:c.oneCell'=true)(h1:d.oneCell'=true)(h2:e.oneCell'=true)
  (p:∀w' cs',Bk w'.heap b cs' T ->cs'.length=cs.length ->Kp [b] w w' ->k w'):EvRunU P (storeCells ⟨b,o,none⟩ [c,d,e]) w k:=by
 have one:∀(w:World) (cs:List Value) (i:Nat) (v:Value),Bk w.heap b cs T ->i<cs.length ->v.oneCell'=true ->(store ⟨b,i,none⟩ v .plain).run P w= .ok () (w.setCell ⟨b,i,none⟩ v)/\Bk (w.setCell ⟨b,i,none⟩ v).heap b (cs.set i v) T:=λw cs i v hB q r=>by
  have f:w.heap[b]?=some (.cells cs.toArray T (0,0)):=hB;have a:w.cell? ⟨b,i,none⟩=some cs[i]:=(hB.cl (by simp[q])).cell;have h:=run_store P w ⟨b,i,none⟩ v .plain r;have j:w.frozen? ⟨b,i,none⟩=false:=by simp[World.frozen?,f]
  simp only[a,j,Bool.false_eq_true,if_false]at h;refine⟨h,?_⟩;unfold Bk;simp only[World.setCell,Array.getElem?_modify,if_true,f];simp
 obtain⟨u,B0⟩:=one w cs o c hB Oo m;obtain⟨r1,y⟩:=one _ _ (o+1) d B0 OK h1;obtain⟨r2,z⟩:=one _ _ (o+2) e y OK h2;have C:=(Kp.set w ⟨b,o,none⟩ c).trans (Kp.set _ ⟨b,o+1,none⟩ d) (λx l _=>l);refine pC (w':=((w.setCell ⟨b,o,none⟩ c).setCell ⟨b,o+1,none⟩ d).setCell ⟨b,o+2,none⟩ e) ?_ (p _ _ z Od (C.trans (Kp.set _ ⟨b,o+2,none⟩ e) (λx l _=>l)));have D:(⟨b,o,none⟩:Addr).add 0=⟨b,o,none⟩:=rfl;have E:(⟨b,o,none⟩:Addr).add 1=⟨b,o+1,none⟩:=lX b o 1;have F:(⟨b,o,none⟩:Addr).add 2=⟨b,o+2,none⟩:=lX b o 2;simp only[storeCells,Sem.run_bind,D,u,Result.andThen_ok,KW,E,r1,F,r2,Sem.run_pure]
section
variable{P:Program}{τ:Tau}{n:Nat}{s:St}{w:World}
theorem Nu{c:Code}{K:Exit ->St ->World ->Prop}(L:List (Nat×Value))(d:Has s L)(h:EvCode P n c ⟨L,s.d⟩ w K):EvCode P n c s w K:=by
 unfold EvCode at *
 exact λa b=>h a ⟨b.size,b.defers,λt v e=>b.has t v (d.get t v e)⟩
theorem Nv(d:aL P τ){a b c:Code}{A A2:AS}{K:Exit ->AS ->Prop}(h1:∀w0 X C0 s w,Rep w0 X C0 A s w ->EvCode P n a s w (nj (λi j=>EvCode P n b i j λe s' w'=>e= .normal/\s'.d=s.d/\Rep w0 X C0 A2 s' w') λ_ _ _=>False))(h2:VCode P n c A2 K):VCode P n (.seq a (.seq b c)) A K:=by
 refine VCode.mk λw0 X C0 s w hR=>?_;refine zP d (uw (λe i j h=>?_) (h1 w0 X C0 s w hR));cases e with
 |normal=>
  refine zP d (uw (λe s' w' h=>?_) h);obtain⟨rfl,k,f⟩:=h;refine uw (λe m o h=>?_) (h2.run w0 X C0 s' w' f);exact⟨h.1.trans k,h.2⟩
 |exit id=>exact False.elim h
 |goto l=>exact False.elim h
 |ret=>exact False.elim h
 |panic p=>exact False.elim h
 |outgrown=>exact False.elim h
theorem uf{A:AS}(k:Nat){y:SE}(h:look A.m k=some y)(ha:y.alive=true):Lv A [k]:=λj a=>by
 obtain rfl:=List.mem_singleton.1 a;exact⟨y,h,ha⟩
theorem Fk{A:AS}:Lv A []:=λj a=>by cases a
theorem Rep.st{w0:World}{X:List Nat}{C0:Mem}{A:AS}{s':St}(h:Rep w0 X C0 A s w)(he:∀t a,look A.e t=some a ->get s'.e t=get s.e t):Rep w0 X C0 A s' w:=by
 obtain⟨C,ρ,h⟩:=h;exact⟨C,ρ,λt a ht b=>by rw[he t a ht];exact h.slot t a ht b,h.ent,h.sep,h.off,h.sub,h.c0,h.cn,h.kp⟩
end
end Go.Wx
namespace Go.Proofs.YtjnjbghlemiklaaGreat
open Go.Wx Cd Tm Lv
section
variable{P:Program}{τ:Tau}{n:Nat}{A:AS}{K:Exit ->AS ->Prop}
theorem Fl{c:Code}{ch ce:List (Nat×AV)}{bl a:List (Nat×SE)}(h:VCode P n c ⟨ch++ce,bl++a⟩ K)(f:Nat ->Nat)(b:LeQ f A ch ce bl a):VCode P n c A K:=h.of λd X e s w hR=>hR.le b.le
theorem rG(e:aL P τ){a b:Code}{α:Type}(d:α)(ce:List (Nat×AV))(c:List (Nat×SE))(ch:Option α ->List (Nat×AV))(bl:Option α ->List (Nat×SE))(h1:vx P τ n a A (fI (nD (Option α) ch bl ce c (λ_=>True) λ_=>True) K))
  (h3:VCode P n b ⟨ch (some d)++ce,bl (some d)++c⟩ K ->VCode P n b ⟨ch none++ce,bl none++c⟩ K) (h2:∀l,VCode P n b ⟨ch (some l)++ce,bl (some l)++c⟩ K)
  (c1:mj id A.e ce:=by repeat first|exact True.intro|refine And.intro ⟨rfl,rfl⟩ ?_) (f:nC id A.m c:=by repeat first|exact True.intro|refine And.intro ⟨rfl,rfl,rfl⟩ ?_):VCode P n (.seq a b) A K:=
 dB e ce c ch bl (λ_=>True) h1 (λx _=>match x with
  |some l=>h2 l
  |none=>h3 (h2 d)) c1 f
end
theorem Nw{x:kU}(hx:zq x)(hI:BoI x.book):VC prog 4 [zp x] (.bool true):=by
 refine cA 164 [.tmp 2] τok func4 ?_;refine aC τok<|aC τok<|af Ez' ?_;refine aC τok<|bH (MY hx) (λhh=>?_) (λhh=>?_)
 ·exact eA9
 obtain⟨E,j,s3,s4⟩:=MT hh;have F:∀q∈x.ctx,q.1.length<=1000000000/\q.2.length<=1000000000:=λq F=>⟨KQ (j.2 q F).1 OO,KQ (j.2 q F).2 OO⟩
 have eT:=ak ndP x.term;refine aC τok<|af (Nj E) ?_;refine af (Nf j) ?_;refine vk ?_;refine dB τok (σ:=Unit) [(1,_),(3,_),(4,_)] [(1,_),(3,_)] (λ_=>[(5,.c (.row 1000))]) (λ_=>[(1000,.rw 42 3 ((x.term++[(⟨77,0,0⟩:Nd)]).map ndP))]) (λ_=>True) ?_ ?_
 ·refine eV (No (show x.term.length<=1000000 by omega)) ?_
  refine aV ?_ (hb:=OK);exact au () trivial (sw 1000 37) (y':=⟨congrArg (λl=>some (SE.rw _ _ l)) (by simp[cQ];rfl),trivial⟩)
 rintro⟨⟩ -
 refine lw 5 1000 ?_;have u:(((x.term++[(⟨77,0,0⟩:Nd)]).map ndP).take x.term.length).drop 0=x.term.map ndP:=by rw[List.map_append,List.take_append_of_le_length Oo,JG Oo];rfl
 have U:∀y∈(x.term++[(⟨77,0,0⟩:Nd)]).map ndP,y.length=3:=λy V=>by
  obtain⟨_,_,rfl⟩:=List.mem_map.1 V
  rfl
 refine rG τok ([]:List Nd) [(1,_),(3,_),(4,_),(5,_)] [(1,_),(3,_)] (λo=>match o with
  |none=>[(6,.c Bv')]
  |some l=>[(6,.c (.row 1001))]) (λo=>match o with
  |none=>[]
  |some l=>[(1001,.rw 42 3 (l.map ndP))]) ?_ ?_ ?_
 ·refine bC 0 x.term.length ?_ U (h4:=Od)
  rw[u];cases v:gv x.book x.ctx x.term x.fuel with
  |error e=>
   refine bv id (λ_=>0) (Nr hI E j.1 F Oo x.fuel v) ?_;refine vk ?_;exact au none trivial
  |ok r=>
   refine bv (λ_=>48) (λ_=>0) (M6 hI E j.1 F Oo x.fuel v) ?_;refine vk ?_;exact au (some (row r.1)) trivial (sw 1001 48)
 ·exact λh=>cV 6 1001 42 3 rfl rfl (Fl h id lq)
 intro l;refine rG τok (⟨[],Od⟩:{m:List Atom//m.length<=1000000000}) [(1,_),(3,_),(4,_),(5,_),(6,_)] [(1,_),(3,_),(1001,_)] (λo=>match o with
  |none=>[(10,.c Bv')]
  |some l=>[(10,.c (.row 1002))]) (λo=>match o with
  |none=>[]
  |some l=>[(1002,.rw 48 2 (l.1.map atP))]) ?_ ?_ ?_
 ·refine bC 0 x.term.length ?_ U (h4:=Od)
  rw[u];cases v:px x.book x.ctx x.term x.fuel with
  |error e=>
   refine bv id (λ_=>0) (Ns hI E j.1 F Oo x.fuel v) ?_;refine vk ?_;exact au none trivial
  |ok r=>
   refine bv (λ_=>62) (λ_=>0) (Nc hI E j.1 F Oo x.fuel v) ?_;refine vk ?_;have hb:r.1.2.length<=1000000000:=by
    unfold px at v;split at v
    ·cases v
    ·rename_i g
     obtain⟨hG,_,N,_,hcx,_,L⟩:=mQ (Decidable.not_not.1 g);have:=(jm hG (kH hG GJ) hcx (by rw[iq];exact L) v).2.2.hi;omega
   exact au (some ⟨r.1.2,hb⟩) trivial (sw 1002 62)
 ·exact λh=>cV 10 1002 48 2 rfl rfl (Fl h id lq)
 rintro⟨m,a7⟩;refine Nv τok (A2:=⟨[(10,.c (.row 1002)),(1,.c (.ptr 1 0)),(3,.c (.ptr 3 0)),(4,.c (.p (aG x.ctx))),(5,.c (.p (.sl ((x.term++[(⟨77,0,0⟩:Nd)]).map ndP))))],[(1002,.rw 48 2 (m.map atP)),(1,.st 0 31 ((jM x.book++[aG x.ctx,ah x.term,ah x.type,pI x.fuel]).map .p)),(3,.st 0 26 ((jM x.book).map .p))]⟩) (λw0 X C0 s w a0=>?_) ?_
 ·obtain⟨C,ρ,hR⟩:=a0
  obtain⟨W,g1,r1⟩:=hR.slot 1 _ rfl (uf 1 rfl rfl);obtain⟨Y,g3,r3⟩:=hR.slot 3 _ rfl (uf 3 rfl rfl);obtain⟨v4,g4,r4⟩:=hR.slot 4 _ rfl Fk;obtain⟨v5,g5,r5⟩:=hR.slot 5 _ rfl Fk;obtain⟨v6,g6,r6⟩:=hR.slot 6 _ rfl (uf 1001 rfl rfl);obtain⟨D,O,a8⟩:=hR.slot 10 _ rfl (uf 1002 rfl rfl);have r6:v6=ρ 1001:=r6;obtain⟨a9,⟨⟨a6,Q⟩,a'⟩,_⟩:=hR.ent 1001 _ rfl;have fin:∀(R:St) (I:World) (Z:List Nat),Kp Z w I ->(∀z∈Z,blk (ρ 1001)=some z) ->R.d=s.d ->Has R [(1,W),(3,Y),(4,v4),(5,v5),(10,D)] ->Exit.normal= .normal/\R.d=s.d/\Rep w0 X C0 ⟨[(10,.c (.row 1002)),(1,.c (.ptr 1 0)),(3,.c (.ptr 3 0)),(4,.c (.p (aG x.ctx))),(5,.c (.p (.sl ((x.term++[(⟨77,0,0⟩:Nd)]).map ndP))))],[(1002,.rw 48 2 (m.map atP)),(1,.st 0 31 ((jM x.book++[aG x.ctx,ah x.term,ah x.type,pI x.fuel]).map .p)),(3,.st 0 26 ((jM x.book).map .p))]⟩ R I:=λR I Z hk hZ hd S=>by
   refine⟨rfl,hd,?_⟩;have h1:=hR.kill (l:=[1001]) hk (λz hz=>⟨1001,Od,_,rfl,rfl,hZ z hz⟩);refine Rep.st (s:=s) (h1.le (f:=id) (LeQ.le (ch:=[]) (bl:=[]) lq)) ?_;intro t a ht;have ht:=cU ht;simp only[List.nil_append,JJ,JZ,or_false,Prod.mk.injEq]at ht;rcases ht with ⟨rfl,_⟩|⟨rfl,_⟩|⟨rfl,_⟩|⟨rfl,_⟩|⟨rfl,_⟩
   ·rw[O];exact S.2.2.2.2.1
   ·rw[g1];exact S.1
   ·rw[g3];exact S.2.1
   ·rw[g4];exact S.2.2.1
   ·rw[g5];exact S.2.2.2.1
  refine Nu [(1,W),(3,Y),(4,v4),(5,v5),(6,v6),(10,D)] ⟨g1,g3,g4,g5,g6,O,trivial⟩<|rR τok ?_;rw[r6];rcases Q with ⟨e6,h0⟩|⟨g,d,a1,e6,_,M,hn,hm,hc,ht⟩
  ·rw[e6]
   obtain⟨T,a2⟩:∃c:Nat,c=0:=⟨0,rfl⟩
   refine mw rfl<|lY τok rfl 0 (.slice none T T) rfl (KJ _) (by rw[a2];rfl)<|zO τok<|rR τok<|loop τok (σ:=Nat) (λi=>[(1,W),(3,Y),(4,v4),(5,v5),(10,D),(13,.slice none T T),(14,.int .i64 i)]) (λi I=>I=w) (λ_=>0) 0 ⟨rfl,rfl,rfl,rfl,rfl,rfl,rfl,trivial⟩ rfl ?_;rintro i w1 rfl;refine da (λh=>?_) (λ_=>?_)
   ·have h:(i:Int)<(T:Int):=h
    omega
   exact fin _ _ [] (Kp.refl _ _) Od rfl ⟨rfl,rfl,rfl,rfl,rfl,trivial⟩
  ·rw[e6]
   unfold maxLen at hm;refine mw rfl<|lY τok rfl d _ rfl (KJ _) ol<|zO τok<|rR τok<|loop τok (σ:=Nat) (λi=>[(1,W),(3,Y),(4,v4),(5,v5),(10,D),(13,.slice (some ⟨g,0,none⟩) d d),(14,.int .i64 i)]) (λi I=>i<=d/\Kp [g] w I/\∃cs,Bk I.heap g cs 42/\cs.length=d*3) (λi=>d-i) 0 ⟨rfl,rfl,rfl,rfl,rfl,rfl,rfl,trivial⟩ ⟨KV _,Kp.refl _ _,a1.toList,by unfold Bk;simpa using M,by simpa using hc⟩ ?_;rintro i w1 ⟨hi,hk,cs,hB,N⟩;refine da (λh=>?_) (λh=>?_)
   ·have h:(i:Int)<(d:Int):=h
    refine ix i rfl Oo<|Nt hB Oo rfl rfl rfl λw2 a3 a4 b0 a5=>?_;exact i6<|⟨i+1,Oo,rfl,⟨rfl,rfl,rfl,rfl,rfl,rfl,rfl,trivial⟩,Oo,hk.trans a5 (λx hx _=>hx),a3,a4,Oo⟩
   ·exact fin _ _ [g] hk (λz hz=>by rw[e6,List.mem_singleton.1 hz];rfl) rfl ⟨rfl,rfl,rfl,rfl,rfl,trivial⟩
 refine aC τok<|az τok (σ:=Nat×List Atom) [(1,_),(3,_),(4,_),(5,_),(10,_)] [(1,_),(3,_)] (λq=>[(15,vI q.1)]) (λq=>[(1002,.rw 48 2 (q.2.map atP))]) (λq=>q.1<=q.2.length/\q.2.length=m.length) (λq=>m.length-q.1) (0,m) ⟨KV _,rfl⟩ ?_;rintro⟨i,k⟩ ⟨h1,h2⟩;simp only at h1 h2;have eK:=ak atP k;refine aj τok<|ae (λg=>?_) (λg=>?_)
 ·simp only at g
  obtain⟨y,V,_⟩:=ay (l:=k) (k:=i);refine vm i V ?_;refine dG V<|vi ?_;exact au (i+1,k.set i ⟨9,0⟩) ⟨by simp only[List.length_set];omega,by simp only[List.length_set];omega⟩ (y':=⟨congrArg (λl=>some (SE.rw _ _ l)) (by rw[List.map_set];rfl),trivial⟩)
 have h3:=jX (a:=x.term) (b:=x.term) Oo Oo;rw[decide_eq_true rfl]at h3;refine aC τok<|af (Nn E) ?_;refine af (Ng j) ?_;refine bC 0 x.term.length ?_ U (h4:=Od);rw[u];refine af h3 ?_;refine vm (p:=ndP) x.term.length (x:=(⟨77,0,0⟩:Nd)) (by rw[List.getElem?_append_right (KJ _),Nat.sub_self];rfl) ?_;refine vn (p:=(77:Int)≠77) ?_ OO;refine vk ?_;have t1:=zm (t:=x.term) hI E j.1 F Oo x.fuel;have t2:=Ms E j (show x.term.length<=1000000 by omega) x.fuel;refine aC τok<|bC 0 x.term.length ?_ U (h4:=Od);rw[u];cases hr:gv x.book x.ctx x.term x.fuel with
 |error er=>
  rw[hr]at t1 t2;refine af t1 ?_;refine vk ?_;refine aj τok<|af t2 ?_;refine vy (p:=er=er) ?_ rfl;refine vy (p:=(0:Int)=0) ?_ rfl;refine af (jX (a:=[]) (b:=[]) OO OO) ?_;exact eA9
 |ok q=>
  rw[hr]at t1 t2;have N:(row q.1).length<=1000000000:=by
   unfold gv at hr;split at hr
   ·cases hr
   ·rename_i g
    obtain⟨hB,_,N,_,hcx,_,L⟩:=mQ (Decidable.not_not.1 g);have:=((kH hB GJ).ft _ _ _ _ hcx (by rw[iq];omega) (by rw[iq];exact L) hr).len;omega
  refine af t1 ?_;refine vk ?_;refine aj τok<|af t2 ?_;refine vy (p:=(0:Int)=0) ?_ rfl;refine vy (p:=(q.2:Int)=q.2) ?_ rfl;have h4:=jX N N;rw[decide_eq_true rfl]at h4;refine af h4 ?_;exact eA9
theorem Nx{w:World}{x:kU}{v:Value}(a:CaV (Im [] w) x v):Calls prog 4 #[v] w (λe w'=>e= .returned (.bool true)/\Kp [] w w'):=by
 obtain⟨b,c,d⟩:=a.lm;exact((Nw c b).run.2 w _ [v] (Im.sub [] w) (dj d mW)).mono λe w' ⟨u,i,f,hr,h⟩=>⟨by cases hr;exact f,h.kp⟩
end Go.Proofs.YtjnjbghlemiklaaGreat
