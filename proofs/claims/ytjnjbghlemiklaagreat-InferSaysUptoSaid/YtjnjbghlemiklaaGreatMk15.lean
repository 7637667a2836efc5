import Derived.Test.YtjnjbghlemiklaaGreatMk14
import Derived.Test.YtjnjbghlemiklaaGreatRows
import Derived.ProofKit
import Derived.OpenShut
import Derived.Deep.Slices
import Derived.JoinedCond
set_option linter.unusedVariables false
set_option linter.unusedSimpArgs false
set_option linter.unusedSectionVars false
set_option maxRecDepth 100000
set_option maxHeartbeats 4000000
open Go.Proofs.Tryz
namespace Go.Proofs.YtjnjbghlemiklaaGreat
open Go.Wx Cd Tm Lv
abbrev CxR:=List (List Nd×List Nd)
def jz(B:aq)(c:CxR)(t:List Nd)(fuel:Int):Except Int (Tr×Nat):=if cZ B c t≠0 then .error (cZ B c t)else lU B (da c) (tr t) fuel
def nX(B:aq)(c:CxR)(t ty:List Nd)(fuel:Int):Except Int (Unit×Nat):=if cZ B c t≠0 then .error (cZ B c t)else if cZ B c ty≠0 then .error (cZ B c ty)else pe B (da c) (tr t) (tr ty) fuel
def lX(B:aq)(c:CxR)(t:List Nd)(fuel:Int):Except Int ((Int×List Atom)×Nat):=if cZ B c t≠0 then .error (cZ B c t)else pf B (da c) (tr t) fuel
def Fc(B:aq)(c:CxR)(t:List Nd)(fuel:Int):Except Int (Tr×Nat):=if cZ B c t≠0 then .error (cZ B c t)else dA B (da c) (tr t) fuel
theorem eX(c:CxR):(da c).length=c.length:=by simp[da]
section
variable{B:aq}{cx:Ctx}{t:Tr}{n g:Nat}{rs:RcS}{rc:RcJ}
variable(hS:dG B)(hR:cS B=0)(hB:GoodB B)
section
variable(hcx:CxOk B cx)(hcl:cx.length<=260)(ht:Ft (QB B) (cx.length:Int) t)(hfg:Fg rs rc)(hr:cw B rc)
include hS hR hB hcx hcl ht hfg hr
theorem Mi(a:t.n.op=11)(d:n<=100000)(b:pu B rs g)(f:t.n.a.toNat*5000+4096<=g)(h:∀i,i<(kidsT t).length ->∀n,n<=100000 ->dS B rs cx (kidD t i) n):eb B cx t n (smatch B rs cx t.n (kidsT t) n):=by
 unfold eb;have j:=Mg hS hR hB hcx hcl ht hfg hr a d b f h;have c:=az ht;refine aV (r:=.ok (_,_)) 379 [.tmp 6] τok func29 ?_;refine aj τok ?_;refine vn (p:=(0:Int)≠0) ?_ (by decide);refine vm (p:=ndP) 0 (aI c) ?_;refine af (iJ c) ?_;refine vn (p:=t.n.op=1) ?_;refine vn (p:=t.n.op=2) ?_;refine vn (p:=t.n.op=4) ?_;refine vn (p:=t.n.op=5) ?_;refine vn (p:=t.n.op=6) ?_;refine vn (p:=t.n.op=7) ?_;refine vn (p:=t.n.op=8) ?_;refine vn (p:=t.n.op=9) ?_;refine vn (p:=t.n.op=10) ?_;refine vy (p:=t.n.op=11) ?_ a;refine ax j ?_;cases smatch B rs cx t.n (kidsT t) n with
 |ok q=>exact⟨_,_,_,rfl,rfl,rfl,rfl,rfl⟩
 |error e=>exact⟨_,_,_,rfl,rfl,rfl,rfl,rfl⟩
end
include hS hR hB
theorem Mj(hfg:Fg rs rc)(hr:cw B rc)(c:pu B rs g):pu B (po B rs) (g+1):=λcx k t n hcx hcl ht p D b=>by
 have l:=az ht;have a:∀i,i<(kidsT t).length ->Mt k (kidD t i)/\k*5000+(row (kidD t i)).length<=g:=λi e=>by
  have:=p.kid (JQ (cq l e).1);exact⟨this.1,by omega⟩
 show eb B cx t n (po B rs cx t n);unfold po;refine Ds t ht.ok (λh=>?_) (λh=>?_) (λh=>?_) (λh=>?_) (λh=>?_) (λh=>?_) (λh=>?_) (λh=>?_) (λh=>?_) (λh=>?_) (λh=>?_)
 ·rw[if_pos h]
  exact L4 hB hcx hcl ht h
 ·rw[if_neg (by omega),if_pos h]
  exact L5 hB hcx hcl ht h
 ·rw[if_neg (by omega),if_neg (by omega),if_pos h]
  exact L6 hB hcx hcl ht h
 ·rw[if_neg (by omega),if_neg (by omega),if_neg (by omega),if_pos h]
  exact L7 hS hR hB hcx hcl ht h
 ·rw[if_neg (by omega),if_neg (by omega),if_neg (by omega),if_neg (by omega),if_pos h]
  exact L8 hS hR hB hcx hcl ht h
 ·rw[if_neg (by omega),if_neg (by omega),if_neg (by omega),if_neg (by omega),if_neg (by omega),if_pos h]
  obtain⟨m,d,f⟩:=dX ht (.inl h);exact L9 hS hR hB hcx hcl ht hfg hr h b (λn b=>c _ k _ _ hcx hcl d (a 0 (by omega)).1 (a 0 (by omega)).2 b) λo n b=>c _ k _ _ (hcx.snoc d λx j=>by cases j) (by rw[bG];omega) (by rw[bG];exact f.mono (by omega)) (a 1 (by omega)).1 (a 1 (by omega)).2 b
 ·rw[if_neg (by omega),if_neg (by omega),if_neg (by omega),if_neg (by omega),if_neg (by omega),if_neg (by omega),if_pos h]
  obtain⟨m,d,f⟩:=dX ht (.inr h);exact Ma hS hR hB hcx hcl ht hfg hr h b (λn b=>c _ k _ _ hcx hcl d (a 0 (by omega)).1 (a 0 (by omega)).2 b) λo n b=>c _ k _ _ (hcx.snoc d λx j=>by cases j) (by rw[bG];omega) (by rw[bG];exact f.mono (by omega)) (a 1 (by omega)).1 (a 1 (by omega)).2 b
 ·rw[if_neg (by omega),if_neg (by omega),if_neg (by omega),if_neg (by omega),if_neg (by omega),if_neg (by omega),if_neg (by omega),if_pos h]
  obtain⟨m,d,f⟩:=qD ht h;exact Mb hS hR hB hcx hcl ht hfg hr h b (λn b=>c _ k _ _ hcx hcl d (a 0 (by omega)).1 (a 0 (by omega)).2 b) λn b=>c _ k _ _ hcx hcl f (a 1 (by omega)).1 (a 1 (by omega)).2 b
 ·rw[if_neg (by omega),if_neg (by omega),if_neg (by omega),if_neg (by omega),if_neg (by omega),if_neg (by omega),if_neg (by omega),if_neg (by omega),if_pos h]
  obtain⟨m,d,f,r⟩:=nH ht h;exact Mc hS hR hB hcx hcl ht hfg hr h b (λn b=>c _ k _ _ hcx hcl d (a 0 (by omega)).1 (a 0 (by omega)).2 b) (λn b=>c _ k _ _ hcx hcl f (a 1 (by omega)).1 (a 1 (by omega)).2 b) λo n b=>c _ k _ _ (hcx.snoc d λx j=>by injection j with j;rw[<- j];exact f) (by rw[bG];omega) (by rw[bG];exact r.mono (by omega)) (a 2 (by omega)).1 (a 2 (by omega)).2 b
 ·rw[if_neg (by omega),if_neg (by omega),if_neg (by omega),if_neg (by omega),if_neg (by omega),if_neg (by omega),if_neg (by omega),if_neg (by omega),if_neg (by omega),if_pos h]
  obtain⟨s,u,v,y⟩:=qG ht h;have z:=(i3 hB (jO ht.node' (.inr h))).1;have A:t.n.a<(k:Int):=p t.n (JQ (aI l)) h;have:=aR t;exact Mi hS hR hB hcx hcl ht hfg hr h b c (by omega) λi e n b=>c _ k _ _ hcx hcl (y _ (JQ (cq l e).1)) (a i e).1 (a i e).2 b
 ·rw[if_neg (by omega),if_neg (by omega),if_neg (by omega),if_neg (by omega),if_neg (by omega),if_neg (by omega),if_neg (by omega),if_neg (by omega),if_neg (by omega),if_neg (by omega)]
  obtain⟨s,u,v,_⟩:=dM ht.ok h;have C:=fK ht.ok h;have q:(cx++bh t).length=cx.length+t.n.b.toNat:=by rw[JK,oR]
  exact Mf hS hR hB hcx hcl ht hfg hr h b (λi e n b=>c _ k _ _ hcx hcl (ii ht h e).2.2.1 (a _ (by omega)).1 (a _ (by omega)).2 b) λo i e n b=>c _ k _ _ (nJ hcx (by omega) ht h) (by omega) ((ii ht h e).2.2.2.mono (by omega)) (a _ (by omega)).1 (a _ (by omega)).2 b
theorem Er':∀g,pu B (mX B g) g
 |0=>λcx k t n _ _ _ _ h _=>by
  have:=aR t;omega
 |g+1=>Mj hS hR hB (cn' g) (gL hB g) (Er' g)
end
theorem Ml(n:Int):min (max n 0) 100000=((aW n:Nat):Int):=by
 unfold aW;omega
theorem ue{B:aq}(n:Int):VN prog 28 [aY B,pI n] 93 (cG B (aW n:Nat) 0):=by
 have a:=Lx n;rw[Ml]at a;refine G1 10 [.tmp 4] τok func28 ?_;refine aj τok ?_;refine af a ?_;refine vk ?_;exact⟨_,_,rfl,rfl,rfl⟩
def uf(r:Except Int (Tr×Nat)):PV:=match r with
 | .ok q=>.tup [ah (row q.1),pI q.2,pI 0]
 | .error e=>.tup [.sl [],pI 0,pI e]
theorem Mm{B:aq}(hS:dG B){c:CxR}(hc:rn c){t:List Nd}(ht:t.length<=1000000)(fuel:Int):VC prog 9 [aY B,aJ c,ah t,pI fuel] (uf (jz B c t fuel)):=by
 have r:=tZ hS hc ht;generalize a:jz B c t fuel=f;unfold jz at a;refine vf 39 [.tmp 8,.tmp 9,.tmp 10] τok func9 ?_;refine af r ?_;refine ae (λj=>?_) (λj=>?_)
 ·rw[if_pos j]at a
  subst a;exact⟨_,_,rfl,rfl,rfl⟩
 rw[if_neg j]at a;obtain⟨hB,hR,s,k,hcx,l,b⟩:=kI (Decidable.not_not.1 j);refine sA (ue fuel) ?_;have d:=Er' hS hR hB GJ (da c) 64 (tr t) (aW fuel) hcx (by rw[eX];omega) (by rw[eX];exact b) (pg hB b) (by have:=kr';have:=b.len;omega) (kR _);have hfg:=cn' (B:=B) GJ (da c) (tr t) (aW fuel);unfold dS at d;rw[<- l,<- k]at d;unfold lU at a;rw[<- hfg]at a;have m:∀x,mX B GJ (da c) (tr t) (aW fuel)= .error x ->x.1≠0:=λx h=>(gL hB GJ).er _ _ _ _ (m8 (cn' GJ) h);cases hr:mX B GJ (da c) (tr t) (aW fuel)with
 |error e=>
  have o:=m e hr;rw[hr]at d a;have a:.error e.1=f:=a;subst a;refine ax d ?_;have i:=leftV (B:=B) e.2 e.1;rw[if_neg o]at i;refine ax i ?_;refine vy (p:=e.1≠0) ?_ o;exact⟨_,_,rfl,rfl,rfl⟩
 |ok q=>
  rw[hr]at d a;have a:.ok q=f:=a;subst a;refine ax d ?_;have i:=leftV (B:=B) q.2 0;rw[if_pos rfl]at i;refine ax i ?_;refine vn (p:=(0:Int)≠0) ?_ (by decide);exact⟨_,_,rfl,rfl,rfl⟩
theorem qV':VD prog 82 .returning [0,1] [] []:=by
 refine xB ⟨_,func82,rfl,by decide⟩ λj d w=>?_;obtain⟨k,l,rfl⟩:=xr d;refine callsD_of_wpS func82 rfl λa m b=>?_;apply wpS_seq;apply wpS_region;simp[wpOpsS,go_sem,recoverD,b,Exit.thenS,Instr.typeAssert,underlying129,Tryz.zeroValue129];refine wpS_of_wp (Go.wp_mono (lZ τok (n:=12) _ ⟨[(3,.bool false)],[]⟩ _ (λe s c=>e= .normal/\s.d=[]/\Kp [] w c) ?_ _ (nC (by simp) rfl (by simp))) ?_)
 ·exact⟨rfl,rfl,Kp.alloc _ _⟩
 rintro e o c ⟨s,f,rfl,h,i⟩;exact sQ f h rfl b ⟨⟨_,rfl⟩,rfl,i⟩
def zr(x y:PV):List (Nat×SE):=[(0,.st 1 3 [.p x]),(1,.st 2 34 [.p y])]
theorem ug(er:Int){x y:PV}:VD prog 82 (.panicking (dV er)) [0,1] (zr x y) (zr (pI 0) (pI er)):=by
 refine⟨⟨_,func82,rfl,by decide⟩,λw X C ρ hR=>?_⟩;refine callsD_of_wpS func82 rfl λb j c=>?_;apply wpS_seq;apply wpS_region;simp[wpOpsS,go_sem,recoverD,c,Exit.thenS,Instr.typeAssert,underlying129,Tryz.zeroValue129];refine wpS_of_wp (Go.wp_mono (xC (n:=12) (m2:=zr (pI 0) (pI er)) (q:=2) (p:=3) (k:=2) hR (aj τok ?_) (nC (by simp) rfl (by simp[ini]))) ?_)
 ·refine vk ?_
  exact⟨rfl,rfl,rfl,trivial⟩
 rintro e l m ⟨rfl,s,d,f,h,a,i⟩;exact wV d f rfl ⟨⟨_,rfl⟩,rfl,h,a,i⟩
section
variable{B:aq}{cx:Ctx}(hI:BoI B)(hB:GoodB B)(hcx:CxOk B cx)(hcl:cx.length<=260)
include hI hB hcx hcl
def rF(g:Nat)(cx:Ctx)(t:Tr)(y:PV):List (Nat×SE):=[(100,.st g 27 [.p (aJ (cx.map aA))]),(101,.st (g+1) 29 [.p (ah (row t))]),(102,.st (g+2) 29 [.p y])]
theorem Mn{t:Tr}(ht:Ft (QB B) (cx.length:Int) t){n:Nat}(d:n<=100000){y:PV}:match dg B GJ cx t n with
  | .ok q=>VG prog 45 [.c (.ptr 0 0),.c (.ptr 100 0),.c (.ptr 101 0),.c (.ptr 102 0)] ((0,.st 1 132 ((dh B n).map .p))::rF 2 cx t y) (.ok (.c (.p (.tup [])),(0,.st 1 132 ((dh B q.2).map .p))::rF 2 cx t (ah (row q.1))))
  | .error e=>VG prog 45 [.c (.ptr 0 0),.c (.ptr 100 0),.c (.ptr 101 0),.c (.ptr 102 0)] ((0,.st 1 132 ((dh B n).map .p))::(rF 2 cx t y).take 2) (.error (dV e)):=by
 have h:=ht.len;have f:=kr';have a:=jgG hI hB GJ cx 64 t n hcx hcl ht (pg hB ht) (by omega) d;unfold bH at a;cases hr:dg B GJ cx t n with
 |error e=>
  refine dE 10 [] τok func45 ?_;refine aj τok ?_;rw[hr]at a;refine cr a ?_;exact rfl
 |ok q=>
  refine dE 10 [] τok func45 ?_;refine aj τok ?_;rw[hr]at a;have b:=(gL hB GJ).ft _ _ _ _ hcx hcl ht hr;refine ax a ?_;refine af (qC (aR q.1) (by have:=b.len;omega)).vc ?_;exact .inl ⟨_,_,_,id,rfl,rfl,rfl,rfl,⟨rfl,rfl,rfl,rfl,trivial⟩,rfl⟩
theorem Mo{t:Tr}(ht:Ft (QB B) (cx.length:Int) t)(fuel:Int){y:PV}:VG prog 44 [.c (.p (aY B)),.c (.p (pI fuel)),.c (.fn 45 [100,101,102])] (rF 1 cx t y) (.ok (match lU B cx t fuel with
  | .ok q=>(.c (.p (.tup [pI q.2,pI 0])),rF 1 cx t (ah (row q.1)))
  | .error e=>(.c (.p (.tup [pI 0,pI e])),[(102,.st 3 29 [.p y])]))):=by
 have b:min (max fuel 0) 100000=((aW fuel:Nat):Int):=by unfold aW;omega
 have a:=Mn hI hB hcx hcl ht (kR fuel) (y:=y);unfold lU
 generalize dg B GJ cx t (aW fuel)=r at a ⊢
 rcases r with e|q
 all_goals
  refine oJ 23 [.cell 6 3,.cell 7 34] τok func44 ?_;refine aj τok ?_;refine⟨⟨rfl,rfl,rfl⟩,rfl,λd=>?_⟩;refine aj τok ?_
  first
   |refine j8 (λk=>sw 0 15 k) a ?_ (he:=by rw[b];repeat first|exact True.intro|refine And.intro rfl ?_)
    refine iX (λk=>k+6) (λ_=>0) (ug e) ?_;exact .inl ⟨_,_,_,id,rfl,rfl,rfl,rfl,⟨rfl,trivial⟩,rfl⟩
   |refine bS (λk=>sw 0 15 k) (λk=>k-99) a ?_ (he:=by rw[b];repeat first|exact True.intro|refine And.intro rfl ?_)
    refine iX (λk=>k+6) (λ_=>0) qV' ?_;exact .inl ⟨_,_,_,id,rfl,rfl,rfl,rfl,⟨rfl,rfl,rfl,trivial⟩,rfl⟩
theorem Mp{t:Tr}(ht:Ft (QB B) (cx.length:Int) t)(fuel:Int):VC prog 26 [aY B,aJ (cx.map aA),ah (row t),pI fuel] (uf (lU B cx t fuel)):=by
 have a:=Mo hI hB hcx hcl ht fuel (y:=.raw (.slice none 0 0))
 generalize lU B cx t fuel=r at a ⊢
 rcases r with e|q
 all_goals
  refine vf 24 [.tmp 8,.tmp 9,.tmp 10] τok func26 ?_;refine bS (λk=>sw 100 5 (sw 101 6 (sw 102 11 k))) (λ_=>0) a ?_;exact⟨_,_,rfl,rfl,rfl⟩
end
def db(lim:Int):List (List Nd) ->Int ->Int
 |[],a=>a
 |l::r,a=>if a<lim then db lim r (a+1+(l.length:Int))else a
def jA(lim:Int):List iy ->Int ->Int
 |[],a=>a
 |c::r,a=>if a<lim then jA lim r (a+1+db lim c.args 0+db lim c.out 0)else a
def jB(lim:Int):List bY ->Int ->Int
 |[],a=>a
 |x::r,a=>if a<lim then jB lim r (jA lim x.ctors (a+1+(x.sort.length:Int)+(x.type.length:Int)+(x.body.length:Int)+db lim x.params 0+db lim x.indices 0))else a
def rG(B:aq)(lim:Int):Int:=jB lim B.ents ((B.orders.length:Int)+(B.prims.length:Int))
theorem Mq{lim a:Int}(h:¬ a<lim):∀(l:List (List Nd)),db lim l a=a
 |[]=>rfl
 |l::r=>by simp only[db];rw[if_neg h]
theorem Mr{lim a:Int}(h:¬ a<lim):∀(l:List iy),jA lim l a=a
 |[]=>rfl
 |l::r=>by simp only[jA];rw[if_neg h]
theorem Ms{lim a:Int}(h:¬ a<lim):∀(l:List bY),jB lim l a=a
 |[]=>rfl
 |l::r=>by simp only[jB];rw[if_neg h]
def jc(lim:Int):CxR ->Int ->Int
 |[],a=>a
 |q::r,a=>if a<lim then jc lim r (a+1+(q.1.length:Int)+(q.2.length:Int))else a
theorem Fe{lim a:Int}(h:¬ a<lim):∀(l:CxR),jc lim l a=a
 |[]=>rfl
 |l::r=>by simp only[jc];rw[if_neg h]
structure jC where
 book:aq
 ctx:CxR
 term:List Nd
 type:List Nd
 fuel:Int
def CaV(C:Mem)(x:jC)(v:Value):Prop:=
 ∃v1 v2 v3 vc vt vy,v= .agg #[.int .i64 x.book.vars,v1,v2,.int .i64 x.book.nat,v3,vc,vt,vy,.int .i64 x.fuel]/\SV rOr C x.book.orders v1/\SV rEn C x.book.ents v2/\SV rPr C x.book.prims v3/\SV rBd C x.ctx vc/\SV rNd C x.term vt/\SV rNd C x.type vy/\I64 x.fuel
def lY(x:jC):Bool:=decide (2500<=rG x.book 2500)||(decide (1500<=jc 1500 x.ctx 0)||(decide (300<x.ctx.length)||(decide (1500<x.term.length+x.type.length)||decide (300<x.fuel))))
def B0:aq:=⟨0,[],[],-1,[]⟩
def r1:List Nd:=[⟨2,1,1⟩,⟨3,0,0⟩]
def r2:List Nd:=[⟨6,0,0⟩,⟨2,0,1⟩,⟨3,0,0⟩,⟨2,1,1⟩,⟨3,0,0⟩]
def x1:Tr:=.mk ⟨2,1,1⟩ [.mk ⟨3,0,0⟩ []]
def x0:Tr:=.mk ⟨2,0,1⟩ [.mk ⟨3,0,0⟩ []]
def x2:Tr:=.mk ⟨6,0,0⟩ [x0,x1]
theorem Eu':Ok .tm x1:=by
 refine⟨⟨rfl,⟨rfl,trivial⟩,trivial⟩,rfl⟩
theorem Ev':Ok .tm x2:=by
 refine⟨⟨rfl,⟨rfl,⟨rfl,trivial⟩,trivial⟩,⟨rfl,⟨rfl,trivial⟩,trivial⟩,trivial⟩,rfl⟩
theorem yo':row x1=r1:=rfl
theorem yp':row x2=r2:=rfl
theorem yq':cS B0=0:=by rfl
theorem Gx':Ft (QB B0) 0 x1:=⟨Eu',by decide,λq b=>by simp[x1,varsT,varsK]at b,λm a=>by
 rw[yo']at a;simp only[r1,JJ,JZ,or_false]at a;rcases a with rfl|rfl<;>rfl⟩
theorem Gy':Ft (QB B0) 0 x2:=⟨Ev',by decide,λq b=>by simp[x2,x0,x1,varsT,varsK]at b,λm a=>by
 rw[yp']at a;simp only[r2,JJ,JZ,or_false]at a;rcases a with rfl|rfl|rfl|rfl|rfl<;>rfl⟩
theorem Gz':cZ B0 [] r1=0:=by
 have:=Dx yq' (c:=[]) (λi q a=>by simp at a) (by simp) (x:=x1) (by simpa using Gx')
 rwa [yo']at this
theorem GA':cZ B0 [] r2=0:=by
 have:=Dx yq' (c:=[]) (λi q a=>by simp at a) (by simp) (x:=x2) (by simpa using Gy')
 rwa [yp']at this
theorem Mu{B:aq}{cx:Ctx}{x:Tr}{f:Int}(b:cg x=none)(hr:cf B cx x=false):dA B cx x f= .ok (x,aW f):=by
 have c:=CR';obtain⟨g,a⟩:∃g,GW=g+1:=⟨GW-1,by omega⟩
 unfold dA;rw[a];simp only[cd,hO,b,hY];rw[if_neg (by rw[hr];simp)]
theorem GB':jz B0 [] r1 3= .ok (.mk ⟨2,1,1⟩ [.mk ⟨3,0,1⟩ []],3):=by
 unfold jz;rw[if_neg (by rw[Gz'];simp)];have ht:tr r1=x1:=gZ Eu';rw[ht];have b:=kr';obtain⟨g,a⟩:∃g,GJ=g+1:=⟨GJ-1,by omega⟩
 unfold lU;rw[a];simp only[dg];unfold io;rw[if_neg (by decide),if_pos (by decide)]
 rfl
theorem GC':jz B0 [] r2 3= .error 12:=by
 unfold jz;rw[if_neg (by rw[GA'];simp)];have ht:tr r2=x2:=gZ Ev';rw[ht];have d:=kr';obtain⟨g,a⟩:∃g,GJ=g+1+1:=⟨GJ-2,by omega⟩
 unfold lU;rw[a];simp only[dg];unfold io;rw[if_neg (by decide),if_neg (by decide),if_neg (by decide),if_neg (by decide),if_neg (by decide),if_neg (by decide),if_neg (by decide),if_pos (by decide)];unfold lH;have b:dg B0 (g+1) (da []) (kidD x2 0) (aW 3)= .ok (.mk ⟨2,1,1⟩ [.mk ⟨3,0,1⟩ []],3):=by
  simp only[dg];unfold io;rw[if_neg (by decide),if_pos (by decide)]
  rfl
 have c:dP B0 (da []) (.mk ⟨2,1,1⟩ [.mk ⟨3,0,1⟩ []]) 3= .ok (.mk ⟨2,1,1⟩ [.mk ⟨3,0,1⟩ []],3):=by
  unfold dP;rw[if_neg (by decide),Mu (by rfl) (by rfl)]
  rfl
 show be (dg B0 (g+1) (da []) (kidD x2 0) (aW 3)) _=_;rw[b,kQ,c,kQ]
 rfl
def Ff{α:Type}(F:Nat ->Except Int (α×Nat)):Prop:=∀n a n',n<=100000 ->F n= .ok (a,n') ->n'<=n/\∀m,m<=100000 ->(n-n'<=m ->F m= .ok (a,m-(n-n')))/\(m<n-n' ->F m= .error 10)
section
variable{B:aq}
abbrev Mv(rc:RcC):Prop:=∀cx x y u,Ff (rc cx x y u)
abbrev zt(rc:RcJ):Prop:=∀cx t,Ff (rc cx t)
variable{rc:RcJ}(hr:zt rc)
include hr
end
end Go.Proofs.YtjnjbghlemiklaaGreat
namespace Go.Wx
open Go.ChangeShapes Go.WideShapes Go.ChangeAt Go.RowKit
theorem Fh{H:Type}{enc:TypeId×Value ->H}{P:Program}(hl:laidOutB P=true){W k:World}(hb:Below W.heap.size W k):
  ∀(e:List TypeId) (vs:List Value) (ds:List (DataW H)) (c:List MemPlace),(e.all λt=>P.readableRec t && Nat.blt t P.types.size)=true ->DataW.TrodAll enc P W 0 (λ_=>true) true e vs ds c ->
   (∀x∈c,x.block<W.heap.size) ->∀f:Nat ->Bool,(∀p∈c,f p.block=true) ->DataW.TrodAll enc P k 0 f true e vs ds c
 |[],vs,ds,c,_,h,_,f,_=>by
  obtain⟨rfl,rfl,rfl⟩:=trodAll_nil h
  rfl
 |t::e,vs,ds,c,a,h,i,f,j=>by
  obtain⟨v,l,d,m,p,q,rfl,rfl,rfl,o,r⟩:=trodAll_cons h;simp only[List.all_cons,Bool.and_eq_true]at a;refine⟨p,q,?_,Fh hl hb e _ _ _ a.2 r (λx b=>i x (by simp[b])) f (λx b=>j x (by simp[b])),rfl⟩;exact WideElems.Trod_stays hl a.1.1 (by simpa[Nat.blt_eq]using a.1.2) o (λx b=>hb.same (i x (by simp[b]))) (λx b=>j x (by simp[b]))
theorem Mw{H:Type}{enc:TypeId×Value ->H}{P:Program}{f:Func}{s:ChangeSpec}{a d b:Bool}{W v:World}{args:Array Value}{ds gs:List (DataW H)}{c:List MemPlace}{y:TypeId}
  (hl:laidOutB P=true) (o:(f.params.toList.all λt=>P.readableRec t && Nat.blt t P.types.size)=true) (r:f.resultTypes= #[y]) (hb:P.underlying y=some .bool)
  (hW:DataW.Whole enc P f.params.toList s.vars a W args.toList ds gs c) (z:s.vars=[]) (j:(s.fn H ds).results=[.lit (.bool true)]) (e:(s.fn H ds).args=ds) (i:(s.fn H ds).vars=[])
  (C:Kp [] W v):s.post enc P f a d b false W args (.bool true) v:=by
 have k:=hW;obtain⟨p,q,D,A,rfl,E,F⟩:=hW;rw[z]at A;obtain⟨rfl,rfl⟩:=trodVars_none A;have l:=C.below;have m:∀x∈p,x.block<W.heap.size:=λx u=>k.lt x (by simp[u]);refine⟨ds,[],p++[],[],p,[],k,?_,?_,?_,?_,λh=>by cases h⟩
 ·rw[JD,j,r]
  exact trodAll_mk1 (shut_bool hb true)
 ·rw[JD,e]
  exact Fh hl l _ _ _ _ o D m _ λx u=>by simpa using m x u
 ·rw[JD,i,z]
  rfl
 ·exact l.frame _
end Go.Wx
namespace Go.Proofs.YtjnjbghlemiklaaGreat
open Go.Wx Go.ChangeShapes Go.WideShapes Go.ChangeAt Go.RowKit
theorem Mx{H:Type}(d:DataW H):1<=Rows.uptoBulk d:=by
 cases d with
 |lit l=>cases l<;>simp[Rows.uptoBulk]
 |nil=>simp[Rows.uptoBulk]
 |ptr d=>simp[Rows.uptoBulk]
 |slice b spare=>simp[Rows.uptoBulk]
 |agg c=>simp[Rows.uptoBulk]
 |iface t d=>simp[Rows.uptoBulk]
 |map a=>simp[Rows.uptoBulk]
 |held h=>simp[Rows.uptoBulk]
theorem zu{H:Type}{d:DataW H}{l:List (DataW H)}(h:d∈l):Rows.uptoBulk d<=Rows.uptoBulkAll l:=by
 induction l with
 |nil=>cases h
 |cons x r a=>
  simp only[Rows.uptoBulkAll];cases List.mem_cons.1 h with
  |inl e=>subst e;omega
  |inr e=>have:=a e;omega
theorem My{H:Type}(l:List (DataW H)):l.length<=Rows.uptoBulkAll l:=by
 induction l with
 |nil=>simp[Rows.uptoBulkAll]
 |cons x r a=>have:=Mx x;simp only[Rows.uptoBulkAll,JV];omega
theorem Mz{H:Type}{l:List (DataW H)}(a:Rows.uptoSmall H l=true):Rows.uptoBulkAll l<=1048576:=of_decide_eq_true a
theorem MA{H:Type}(l r:List (DataW H)):Rows.uptoBulkAll (l++r)=Rows.uptoBulkAll l+Rows.uptoBulkAll r:=by
 induction l with
 |nil=>simp[Rows.uptoBulkAll]
 |cons x l a=>simp only[List.cons_append,Rows.uptoBulkAll,a];omega
theorem gx{H:Type}{xs:List (DataW H×List MemPlace)}{x:DataW H×List MemPlace}(a:x∈xs)(hB:Rows.uptoBulk (.agg (xs.map (·.1)))<=1048576):Rows.uptoBulk x.1<=1048576:=by
 have:=zu (List.mem_map_of_mem (f:=(·.1)) a);simp only[Rows.uptoBulk]at hB;omega
section
variable{H:Type}{enc:TypeId×Value ->H}{w:World}{spare:Nat ->Bool}{held:Bool}
theorem MC{a:Addr}{v:Value}(h:w.cell? a=some v):∃b o,a=⟨b,o,none⟩:=by
 obtain⟨b,o,s⟩:=a;unfold World.cell? at h;split at h
 ·rename_i c T d e
  cases s with
  |none=>exact⟨b,o,rfl⟩
  |some _=>simp at h
 ·cases h
theorem MD{α:Type} [Inhabited α]{t e:TypeId}(R:Rd α)(hk:0<R.sz)(ht:prog.underlying t=some (.slice e))(hc:prog.cellsOf e=R.sz)(ok:DataW H ->Prop)
  (one:∀(cs:List Value) (n:Nat) (y:DataW H×List MemPlace),cs.length=R.sz ->DataW.trod enc prog w 0 spare held n e cs=some y ->ok y.1 ->∃x:α,R.den (Old w) cs x)
  {fuel:Nat} {v:Value} {x:DataW H×List MemPlace} (h:DataW.trod enc prog w 0 spare held fuel t [v]=some x) (F:∀es I,x.1= .slice es I ->∀d∈es,ok d):
  ∃(a:Option Addr) (l:List α) (cap:Nat),v= .slice a l.length cap/\(l.length<=1099511627776 ->Sl R (Old w) a l)/\(l.length=0 \/∃es I,x.1= .slice es I/\es.length=l.length):=by
 rcases Go.Deep.open_slice ht h with ⟨k,rfl⟩|⟨a,len,cap,m,n,D,Pl,k,hb,hl,hm,K,rfl,E⟩
 ·simp only[List.cons.injEq,and_true]at k
  subst k;exact⟨none,[],0,rfl,λ_=>Sl.nil _ _ _,.inl rfl⟩
 simp only[List.cons.injEq,and_true]at k;subst k;have V:len<=m:=by rw[K];split<;>omega
 rw[hc]at E;have r:∀i,i<len ->∃q:α×List Value,R.den (Old w) q.2 q.1/\∀j u,q.2[j]?=some u ->w.cell? (a.add (i*R.sz+j))=some u:=by
  intro i c;obtain⟨s,k,W⟩:=E i (by omega);obtain⟨_,f,p⟩:=World.cells?_some k;obtain⟨x,E⟩:=one s n _ f W (F _ _ rfl _ (List.mem_map.2 ⟨i,by simpa using c,rfl⟩));refine⟨(x,s),E,λj u S=>?_⟩;have L:j<R.sz:=by rw[<- f];exact aH S
  rw[<- Go.Deep.add_add,p j L];exact S
 obtain⟨q,T⟩:=Go.Deep.choose_lt r;refine⟨some a,(List.range len).map λi=>(q i).1,cap,by simp,λz=>⟨z,?_⟩,.inr ⟨_,_,rfl,by simp⟩⟩
 by_cases X:len=0
 ·exact .inl (by simp[X])
 obtain⟨M,Y⟩:=T 0 (by omega);have Z:=R.len M;obtain⟨U,N⟩:∃u,(q 0).2[0]?=some u:=⟨(q 0).2[0]'(by omega),by simp⟩
 have A:=Y 0 U N;rw[Nat.zero_mul,Nat.add_zero]at A;have O:w.cell? a=some U:=by simpa[Addr.add]using A
 obtain⟨b,o,rfl⟩:=MC O;refine .inr ⟨b,o,rfl,λi x c=>?_⟩;rw[JX]at c;have C:i<len:=by
  rcases Nat.lt_or_ge i len with h|h
  ·exact h
  ·rw[List.getElem?_eq_none (by simpa using h)]at c;cases c
 rw[List.getElem?_range C]at c;have c:=JB c;subst c;obtain⟨P,Q⟩:=T i C;refine⟨(q i).2,P,λj u L=>Cl.of ?_⟩;have:=Q j u L;rw[oa]at this;rw[Nat.add_assoc];exact this
theorem ME{α:Type} [Inhabited α]{t e:TypeId}(R:Rd α)(i:0<R.sz)(ht:prog.underlying t=some (.slice e))(hc:prog.cellsOf e=R.sz)
  (one:∀(cs:List Value) (n:Nat) (y:DataW H×List MemPlace),cs.length=R.sz ->DataW.trod enc prog w 0 spare held n e cs=some y ->Rows.uptoBulk y.1<=1048576 ->∃x:α,R.den (Old w) cs x)
  {fuel:Nat} {v:Value} {x:DataW H×List MemPlace} (h:DataW.trod enc prog w 0 spare held fuel t [v]=some x) (hB:Rows.uptoBulk x.1<=1048576):∃l,(rV R).den (Old w) [v] l:=by
 obtain⟨a,l,b,j,k,c⟩:=MD R i ht hc (λd=>Rows.uptoBulk d<=1048576) one h (λf m e d o=>by
  rw[e]at hB;have:=zu o;simp only[Rows.uptoBulk]at hB;omega)
 refine⟨l,a,b,by rw[j],k ?_⟩;rcases c with c|⟨f,m,e,p⟩
 ·omega
 ·rw[e]at hB
  have:=My f;simp only[Rows.uptoBulk]at hB;omega
end
open Cd Tm Lv
instance:Inhabited Nd:=⟨⟨0,0,0⟩⟩
instance:Inhabited aQ:=⟨⟨0,0,0⟩⟩
instance:Inhabited aq:=⟨⟨0,[],[],-1,[]⟩⟩
section
variable{H:Type}{enc:TypeId×Value ->H}{w:World}{spare:Nat ->Bool}{held:Bool}
theorem MF{z:Int}(h:(Lit.int .i64 z).wf=true):I64 z:=by
 simpa[I64,Lit.wf,IntKind.min,IntKind.max,IntKind.signed,IntKind.bits]using h
theorem nY{α:Type} [Inhabited α]{t e:TypeId}(R:Rd α)(d:0<R.sz)(ht:prog.underlying t=some (.slice e))(hc:prog.cellsOf e=R.sz)
  (one:∀(cs:List Value) (n:Nat) (y:DataW H×List MemPlace),cs.length=R.sz ->DataW.trod enc prog w 0 spare held n e cs=some y ->Rows.uptoBulk y.1<=1048576 ->∃x:α,R.den (Old w) cs x)
  {fuel:Nat} {v:Value} {x:DataW H×List MemPlace} (h:DataW.trod enc prog w 0 spare held fuel t [v]=some x) (hB:Rows.uptoBulk x.1<=1048576):∃l,SV R (Old w) l v:=by
 obtain⟨l,a,c,e,f⟩:=ME R d ht hc one h hB;have e:v= .slice a l.length c:=by simpa using e
 refine⟨l,a,c,e,f,?_⟩;rcases Go.Deep.open_slice ht h with ⟨b,rfl⟩|⟨p,len,i,m,k,D,q,b,r,s,_⟩
 ·rw[e]at b
  have b:=(List.cons.inj b).1;injection b with q1 j o
  omega
 ·rw[e]at b
  have b:=(List.cons.inj b).1;injection b with q1 j o
  omega
theorem jD{n:Nat}{cs:List Value}{y:DataW H×List MemPlace}(a:DataW.trod enc prog w 0 spare held n 3 cs=some y):∃z,cs=[.int .i64 z]/\I64 z:=by
 obtain⟨z,rfl,rfl,b⟩:=DataW.trod_int underlying3 a;exact⟨z,rfl,MF b⟩
theorem MG{n:Nat}{cs:List Value}{y:DataW H×List MemPlace}(hl:cs.length=3)(j:DataW.trod enc prog w 0 spare held n 42 cs=some y):∃x,rNd.den (Old w) cs x:=by
 obtain⟨k,m,rfl,rfl,_,a,b⟩:=DataW.trod_struct underlying42 j
 match cs,hl,k,a with
 |[u,v,z],_,[x0,x1,x2],_=>
  have c:=b 0 _ rfl;have d:=b 1 _ rfl;have e:=b 2 _ rfl;simp[show prog.cellsOf 3=1 by kernel_rfl]at c d e;obtain⟨l,f,o⟩:=jD c;obtain⟨p,h,q⟩:=jD d;obtain⟨r,i,s⟩:=jD e;simp at f h i;subst f h i;exact⟨⟨l,p,r⟩,rfl,o,q,s⟩
theorem MH{n:Nat}{cs:List Value}{y:DataW H×List MemPlace}(hl:cs.length=3)(j:DataW.trod enc prog w 0 spare held n 74 cs=some y):∃x,rOr.den (Old w) cs x:=by
 obtain⟨k,m,rfl,rfl,_,a,b⟩:=DataW.trod_struct underlying74 j
 match cs,hl,k,a with
 |[u,v,z],_,[x0,x1,x2],_=>
  have c:=b 0 _ rfl;have d:=b 1 _ rfl;have e:=b 2 _ rfl;simp[show prog.cellsOf 3=1 by kernel_rfl]at c d e;obtain⟨l,f,o⟩:=jD c;obtain⟨p,h,q⟩:=jD d;obtain⟨r,i,s⟩:=jD e;simp at f h i;subst f h i;exact⟨⟨l,p,r⟩,rfl,o,q,s⟩
theorem MI{n:Nat}{cs:List Value}{y:DataW H×List MemPlace}(hl:cs.length=2)(h:DataW.trod enc prog w 0 spare held n 77 cs=some y):∃x,rPr.den (Old w) cs x:=by
 obtain⟨i,m,rfl,rfl,_,a,b⟩:=DataW.trod_struct underlying77 h
 match cs,hl,i,a with
 |[p,q],_,[x0,x1],_=>
  have c:=b 0 _ rfl;have d:=b 1 _ rfl;simp[show prog.cellsOf 3=1 by kernel_rfl]at c d;obtain⟨j,e,k⟩:=jD c;obtain⟨l,f,o⟩:=jD d;simp at e f;subst e f;exact⟨(j,l),rfl,k,o⟩
theorem nc{n:Nat}{v:Value}{y:DataW H×List MemPlace}(a:DataW.trod enc prog w 0 spare held n 29 [v]=some y)(hB:Rows.uptoBulk y.1<=1048576):∃l,SV rNd (Old w) l v:=
 nY rNd (by decide) underlying29 (by kernel_rfl) (λc n y b a d=>MG b a) a hB
theorem ui{n:Nat}{v:Value}{y:DataW H×List MemPlace}(d:DataW.trod enc prog w 0 spare held n 64 [v]=some y)(hB:Rows.uptoBulk y.1<=1048576):∃l,SV (gA rNd) (Old w) l v:=
 nY (gA rNd) Nat.one_pos underlying64 (by kernel_rfl) (λe n y f d h=>by
  match e,f with
  |[c],_=>
   obtain⟨l,a,i,rfl,j,b⟩:=nc d h;exact⟨l,a,i,rfl,b,j⟩) d hB
theorem MJ{n:Nat}{cs:List Value}{y:DataW H×List MemPlace}(hl:cs.length=2)(e:DataW.trod enc prog w 0 spare held n 70 cs=some y)(hB:Rows.uptoBulk y.1<=1048576):∃x,rCt.den (Old w) cs x:=by
 obtain⟨f,m,rfl,rfl,_,a,b⟩:=DataW.trod_struct underlying70 e
 match cs,hl,f,a with
 |[l,o],_,[x0,x1],_=>
  have c:=b 0 _ rfl;have d:=b 1 _ rfl;simp[show prog.cellsOf 64=1 by kernel_rfl]at c d;obtain⟨h,i⟩:=ui c (gx (x:=x0) (by simp) hB);obtain⟨j,k⟩:=ui d (gx (x:=x1) (by simp) hB);exact⟨⟨h,j⟩,_,_,rfl,i,k⟩
theorem MK{n:Nat}{cs:List Value}{y:DataW H×List MemPlace}(hl:cs.length=7)(b:DataW.trod enc prog w 0 spare held n 67 cs=some y)(hB:Rows.uptoBulk y.1<=1048576):∃x,rEn.den (Old w) cs x:=by
 obtain⟨o,m,rfl,rfl,_,c,a⟩:=DataW.trod_struct underlying67 b
 match cs,hl,o,c with
 |[Q,R,S,T,U,V,W],_,[x0,x1,x2,p,q,r,s],_=>
  have d:=a 0 _ rfl;have e:=a 1 _ rfl;have f:=a 2 _ rfl;have h:=a 3 _ rfl;have i:=a 4 _ rfl;have j:=a 5 _ rfl;have k:=a 6 _ rfl;simp[show prog.cellsOf 3=1 by kernel_rfl,show prog.cellsOf 64=1 by kernel_rfl,show prog.cellsOf 29=1 by kernel_rfl,show prog.cellsOf 65=1 by kernel_rfl]at d e f h i j k;obtain⟨u,l,v⟩:=jD d;obtain⟨z,A⟩:=nc e (gx (x:=x1) (by simp) hB);obtain⟨C,D⟩:=ui f (gx (x:=x2) (by simp) hB);obtain⟨E,F⟩:=ui h (gx (x:=p) (by simp) hB);obtain⟨I,K⟩:=nY rCt (by decide) underlying65 (by kernel_rfl) (λcs n y hl b L=>MJ hl b L) i (gx (x:=q) (by simp) hB);obtain⟨M,N⟩:=nc j (gx (x:=r) (by simp) hB);obtain⟨O,P⟩:=nc k (gx (x:=s) (by simp) hB);simp at l;subst l;exact⟨⟨u,z,C,E,I,M,O⟩,_,_,_,_,_,_,rfl,v,A,D,F,K,N,P⟩
theorem ML{n:Nat}{cs:List Value}{y:DataW H×List MemPlace}(hl:cs.length=5)(a:DataW.trod enc prog w 0 spare held n 26 cs=some y)(hB:Rows.uptoBulk y.1<=1048576):∃x,rBo.den (Old w) cs x:=by
 obtain⟨o,m,rfl,rfl,_,c,b⟩:=DataW.trod_struct underlying26 a
 match cs,hl,o,c with
 |[F,I,K,L,M],_,[x0,x1,x2,N,p],_=>
  have e:=b 0 _ rfl;have f:=b 1 _ rfl;have h:=b 2 _ rfl;have i:=b 3 _ rfl;have j:=b 4 _ rfl;simp[show prog.cellsOf 3=1 by kernel_rfl,show prog.cellsOf 22=1 by kernel_rfl,show prog.cellsOf 23=1 by kernel_rfl,show prog.cellsOf 24=1 by kernel_rfl]at e f h i j;obtain⟨q,k,r⟩:=jD e;obtain⟨s,u⟩:=nY rOr (by decide) underlying22 (by kernel_rfl) (λcs n y hl a d=>MH hl a) f (gx (x:=x1) (by simp) hB);obtain⟨v,z⟩:=nY rEn (by decide) underlying23 (by kernel_rfl) (λcs n y hl a d=>MK hl a d) h (gx (x:=x2) (by simp) hB);obtain⟨A,l,C⟩:=jD i;obtain⟨D,E⟩:=nY rPr (by decide) underlying24 (by kernel_rfl) (λcs n y hl a d=>MI hl a) j (gx (x:=p) (by simp) hB);simp at k l;subst k l;exact⟨⟨q,s,v,A,D⟩,_,_,_,rfl,r,C,u,z,E⟩
end
section
variable{H:Type}{enc:TypeId×Value ->H}{w:World}{spare:Nat ->Bool}{held:Bool}
theorem MM{n:Nat}{cs:List Value}{y:DataW H×List MemPlace}(hl:cs.length=2)(e:DataW.trod enc prog w 0 spare held n 72 cs=some y)(hB:Rows.uptoBulk y.1<=1048576):∃x,rBd.den (Old w) cs x:=by
 obtain⟨f,m,rfl,rfl,_,a,b⟩:=DataW.trod_struct underlying72 e
 match cs,hl,f,a with
 |[l,o],_,[x0,x1],_=>
  have c:=b 0 _ rfl;have d:=b 1 _ rfl;simp[show prog.cellsOf 29=1 by kernel_rfl]at c d;obtain⟨h,i⟩:=nc c (gx (x:=x0) (by simp) hB);obtain⟨j,k⟩:=nc d (gx (x:=x1) (by simp) hB);exact⟨(h,j),_,_,rfl,i,k⟩
theorem CaV.mono{C D:Mem}{x:jC}{v:Value}(h:CaV C x v)(hc:∀b o v,C b o v ->D b o v):CaV D x v:=by
 obtain⟨a,c,d,f,vt,vy,e,i,j,k,l,m,p,q⟩:=h;exact⟨a,c,d,f,vt,vy,e,i.mono hc,j.mono hc,k.mono hc,l.mono hc,m.mono hc,p.mono hc,q⟩
theorem MN{r:Reach}{F:Nat}{v:Value}{d:DataW H}{I:List MemPlace}(a:Value.okWide prog w r F 31 v)(h:DataW.Trod enc prog w 0 spare held 31 v d I)(hB:Rows.uptoBulk d<=1048576):
  ∃x,CaV (Im [] w) x v:=by
 obtain⟨c,rfl,K⟩:=okWide_struct underlying31 a;obtain⟨k,f⟩:=h;obtain⟨L,m,rfl,M,l,i,e⟩:=DataW.trod_struct underlying31 f;have j:c.size=9:=by rw[K];kernel_rfl
 obtain⟨c⟩:=c
 match c,j,L,i with
 |[c0,c1,c2,c3,c4,c5,c6,c7,c8],_,[x0,x1,x2,p,N],_=>
  have O:d= .agg ([x0,x1,x2,p,N].map (·.1)):=(Prod.mk.injEq .. ▸M).1;rw[O]at hB;have q:=e 0 _ rfl;have s:=e 1 _ rfl;have u:=e 2 _ rfl;have z:=e 3 _ rfl;have A:=e 4 _ rfl;simp[Value.cells,show prog.cellsOf 26=5 by kernel_rfl,show prog.cellsOf 27=1 by kernel_rfl,show prog.cellsOf 29=1 by kernel_rfl,show prog.cellsOf 3=1 by kernel_rfl]at q s u z A;obtain⟨P,w1,w2,w3,D,i0,i1,Q,R,S⟩:=ML rfl q (gx (x:=x0) (by simp) hB);obtain⟨T,U⟩:=nY rBd (by decide) underlying27 (by kernel_rfl) (λc n y l V W=>MM l V W) s (gx (x:=x1) (by simp) hB);obtain⟨X,Y⟩:=nc u (gx (x:=x2) (by simp) hB);obtain⟨Z,k3⟩:=nc z (gx (x:=p) (by simp) hB);obtain⟨z4,E,i4⟩:=jD A;simp at D E;obtain⟨rfl,rfl,rfl,rfl,rfl⟩:=D;subst E;exact⟨⟨P,T,X,Z,z4⟩,CaV.mono (C:=Old w) ⟨_,_,_,_,_,_,rfl,Q,R,S,U,Y,k3,i4⟩ λb o v h=>⟨Old.sub w _ _ _ h,by simp⟩⟩
end
theorem pv{lim:Int}:∀(l:List (List Nd)) (a:Int),a<=db lim l a/\(db lim l a<lim ->(l.length:Int)+a<=db lim l a/\∀t∈l,(t.length:Int)+a<=db lim l a)
 |[],a=>by simp[db]
 |t::r,a=>by
  by_cases h:a<lim
  ·simp only[db]
   rw[if_pos h];obtain⟨h1,h2⟩:=pv (lim:=lim) r (a+1+(t.length:Int));refine⟨by omega,λg=>?_⟩;obtain⟨d,c⟩:=h2 g;refine⟨by simp only[JV];omega,λu b=>?_⟩;rcases List.mem_cons.1 b with rfl|b
   ·omega
   ·have:=c u b
    omega
  ·rw[Mq h]
   exact⟨Int.le_refl _,λg=>absurd g h⟩
theorem uj{lim:Int}(b:lim<=100000){l:List (List Nd)}(h:db lim l 0<lim):mA l:=by
 obtain⟨c,a⟩:=(pv l 0).2 h;exact⟨by omega,λt ht=>by have:=a t ht;omega⟩
theorem Fi{lim:Int}(b:lim<=100000):∀(l:List iy) (a:Int),a<=jA lim l a/\(0<=a ->jA lim l a<lim ->(l.length:Int)+a<=jA lim l a/\∀c∈l,mA c.args/\mA c.out)
 |[],a=>by simp[jA]
 |c::r,a=>by
  by_cases h:a<lim
  ·simp only[jA]
   rw[if_pos h];have i:=(pv (lim:=lim) c.args 0).1;have j:=(pv (lim:=lim) c.out 0).1;obtain⟨k,e⟩:=Fi (lim:=lim) b r (a+1+db lim c.args 0+db lim c.out 0);refine⟨by omega,λm g=>?_⟩;obtain⟨o,f⟩:=e (by omega) g;refine⟨by simp only[JV];omega,λu d=>?_⟩;rcases List.mem_cons.1 d with rfl|d
   ·exact⟨uj b (by omega),uj b (by omega)⟩
   ·exact f u d
  ·rw[Mr h]
   exact⟨Int.le_refl _,λ_ g=>absurd g h⟩
theorem Fj{lim:Int}(b:lim<=100000):∀(l:List bY) (a:Int),a<=jB lim l a/\(0<=a ->jB lim l a<lim ->(l.length:Int)+a<=jB lim l a/\∀x∈l,qz x)
 |[],a=>by simp[jB]
 |x::r,a=>by
  by_cases h:a<lim
  ·simp only[jB]
   rw[if_pos h];have j:=(pv (lim:=lim) x.params 0).1;have k:=(pv (lim:=lim) x.indices 0).1;have d:=Fi b x.ctors (a+1+(x.sort.length:Int)+(x.type.length:Int)+(x.body.length:Int)+db lim x.params 0+db lim x.indices 0);obtain⟨m,e⟩:=Fj (lim:=lim) b r (jA lim x.ctors (a+1+(x.sort.length:Int)+(x.type.length:Int)+(x.body.length:Int)+db lim x.params 0+db lim x.indices 0));refine⟨by omega,λo g=>?_⟩;obtain⟨p,f⟩:=e (by omega) g;obtain⟨q,i⟩:=d.2 (by omega) (by omega);refine⟨by simp only[JV];omega,λu c=>?_⟩;rcases List.mem_cons.1 c with rfl|c
   ·exact⟨by omega,by omega,by omega,uj b (by omega),uj b (by omega),by omega,i⟩
   ·exact f u c
  ·rw[Ms h]
   exact⟨Int.le_refl _,λ_ g=>absurd g h⟩
theorem Fk{lim:Int}(c:lim<=100000):∀(l:CxR) (a:Int),a<=jc lim l a/\(0<=a ->jc lim l a<lim ->∀q∈l,q.1.length<=1000000/\q.2.length<=1000000)
 |[],a=>by simp[jc]
 |q::r,a=>by
  by_cases h:a<lim
  ·simp only[jc]
   rw[if_pos h];obtain⟨h1,h2⟩:=Fk (lim:=lim) c r (a+1+(q.1.length:Int)+(q.2.length:Int));refine⟨by omega,λd g u b=>?_⟩;rcases List.mem_cons.1 b with rfl|b
   ·omega
   ·exact h2 (by omega) g u b
  ·rw[Fe h]
   exact⟨Int.le_refl _,λ_ g=>absurd g h⟩
theorem Fl{x:jC}(h:lY x=false):dG x.book/\rn x.ctx/\x.term.length<=1500/\x.type.length<=1500:=by
 unfold lY at h;simp only[Bool.or_eq_false_iff,decide_eq_false_iff_not]at h;obtain⟨a,e,f,i,j⟩:=h;have b:=Fj (lim:=2500) (by omega) x.book.ents ((x.book.orders.length:Int)+(x.book.prims.length:Int));have c:=Fk (lim:=1500) (by omega) x.ctx 0;unfold rG at a;obtain⟨k,d⟩:=b.2 (by omega) (by omega);exact⟨⟨by omega,by omega,by omega,d⟩,⟨by omega,c.2 (by omega) (by omega)⟩,by omega,by omega⟩
def Lm{α:Type}(l:List α):Prop:=l.length<=1099511627776
def px(l:List (List Nd)):Prop:=Lm l/\∀t∈l,Lm t
theorem uk{d:List (List Nd)}{lid:Int}(hl:px d)(D:0<=lid/\lid<=100000):VC prog 42 [bJ d,.int .i64 lid] (.int .i64 (db lid d 0))/\0<=db lid d 0/\db lid d 0<=1200000000000:=by
 obtain⟨o,e⟩:=hl;unfold Lm at o;have v:∀(l:List (List Nd)) (a:Int),(∀t∈l,Lm t) ->0<=a ->a<=1200000000000 ->0<=db lid l a/\db lid l a<=1200000000000:=by
  intro l
  induction l with
  |nil=>intro a _ f b;exact⟨f,b⟩
  |cons t r x=>
   intro a ht f b;simp only[db];split
   ·have:=ht t (by simp)
    unfold Lm at this;exact x _ (λt h=>ht t (by simp[h])) (by omega) (by omega)
   ·exact⟨f,b⟩
 refine⟨?_,v d 0 e (Int.le_refl _) (by decide)⟩;refine qm 27 [.tmp 4] τok func42 rfl rfl rfl (Nat.le_of_ble_eq_true rfl) (by decide) ?_;refine wa τok (σ:=Nat×Int) (λq=>⟨[(0,.c (.p (bJ d))),(1,.c (.p (.int .i64 lid))),(5,.c (.p (.int .i64 q.2))),(6,.c (.p (.int .i64 (q.1:Int))))],[]⟩) (λq=>q.1<=d.length/\db lid (d.drop q.1) q.2=db lid d 0/\0<=q.2/\q.2<=1200000000000) (λq=>d.length-q.1) (0,0) id (gV ⟨rfl,rfl,rfl,rfl,trivial⟩ trivial rfl) ⟨KV _,rfl,by simp,by simp⟩ ?_;rintro⟨i,m⟩ ⟨f,b,y,z⟩;simp only at f b y z;refine ae (λg=>?_) (λg=>?_)
 ·rw[List.length_map]at g
  obtain⟨t,j,A⟩:=ay (l:=d) (k:=i);have s:=e t (JQ j);unfold Lm at s;rw[A]at b;simp only[db]at b;refine ae (λu=>?_) (λu=>?_)
  ·rw[if_pos u]at b
   refine fI (by omega) (by omega) ?_;refine k7 i [ah t] rfl (by rw[JX,j];rfl) rfl ?_;have C:(t.map ndP).length=t.length:=List.length_map _;refine fI (by omega) (by omega) ?_;refine fI (by omega) (by omega) ?_;refine⟨(i+1,m+1+((t.map ndP).length:Nat)),id,by simp only;omega,⟨by simp only;omega,by simp only[C];exact b,by simp only;omega,by simp only;omega⟩,gV ⟨rfl,rfl,rfl,rfl,trivial⟩ trivial rfl⟩
  ·rw[if_neg u]at b
   exact⟨_,_,rfl,rfl,congrArg (PV.int .i64) b⟩
 ·rw[List.length_map]at g
  rw[JY (by omega)]at b;exact⟨_,_,rfl,rfl,congrArg (PV.int .i64) b⟩
structure MO(x:bY):Prop where
 s:Lm x.sort
 t:Lm x.type
 b:Lm x.body
 p:px x.params
 i:px x.indices
 c:Lm x.ctors
 a:∀c∈x.ctors,px c.args/\px c.out
structure zv(B:aq):Prop where
 o:Lm B.orders
 p:Lm B.prims
 e:Lm B.ents
 x:∀x∈B.ents,MO x
theorem MP{B:aq}(hB:zv B){lid:Int}(r:0<=lid/\lid<=100000):VC prog 23 [aY B,.int .i64 lid] (.int .i64 (rG B lid)):=by
 have D:=hB.o;have E:=hB.p;have F:=hB.e;unfold Lm at D E F;have I:=ak eg B.orders;have K:=ak iB B.prims;have l3:=ak aU B.ents;refine qm 90 [.tmp 4] τok func23 rfl rfl rfl (Nat.le_of_ble_eq_true rfl) (by decide) ?_;refine fI (by omega) (by omega) ?_;refine wa τok (σ:=Nat×Int) (λq=>⟨[(1,.c (.p (.int .i64 lid))),(2,.c (.ptr 2 0)),(5,.c (.p (.int .i64 q.2))),(6,.c (.p (.int .i64 (q.1:Int))))],[(2,.st 0 26 ((nF B).map .p))]⟩) (λq=>q.1<=B.ents.length/\jB lid (B.ents.drop q.1) q.2=rG B lid/\0<=q.2/\q.2<=10000000000000) (λq=>B.ents.length-q.1) (0,((B.orders.map eg).length:Int)+((B.prims.map iB).length:Int)) id (gV ⟨rfl,rfl,rfl,rfl,trivial⟩ ⟨rfl,trivial⟩ rfl) ⟨KV _,by simp only[I,K];rfl,by simp only;omega,by simp only;omega⟩ ?_;rintro⟨i,m⟩ ⟨L,b,M,N⟩;simp only at L b M N;refine ae (λg=>?_) (λg=>?_)
 ·obtain⟨x,f,O⟩:=ay (l:=B.ents) (k:=i)
  have e:=hB.x x (JQ f);have q1:=e.s;have P:=e.t;have Q:=e.b;have R:=e.c;unfold Lm at q1 P Q R;rw[O]at b;simp only[jB]at b;refine ae (λs=>?_) (λs=>?_)
  ·rw[if_pos s]at b
   refine k7 i (aU x) rfl (by rw[JX,f];rfl) rfl ?_;have S:=ak ndP x.sort;have T:=ak ndP x.type;have U:=ak ndP x.body;have e4:=ak bD x.ctors;obtain⟨V,b1,c1⟩:=uk e.p r;obtain⟨W,b2,c2⟩:=uk e.i r;refine fI (by omega) (by omega) ?_;refine fI (by omega) (by omega) ?_;refine fI (by omega) (by omega) ?_;refine fI (by omega) (by omega) ?_;refine af V ?_;refine fI (by omega) (by omega) ?_;refine af W ?_;refine fI (by omega) (by omega) ?_;refine gU (by kernel_rfl) ?_;refine wa τok (σ:=Nat×Int) (λq=>⟨[(1,.c (.p (.int .i64 lid))),(2,.c (.ptr 2 0)),(5,.c (.p (.int .i64 q.2))),(6,.c (.p (.int .i64 (i:Int)))),(7,.c (.ptr 7 0)),(8,.c (.p (.int .i64 (q.1:Int))))],[(2,.st 0 26 ((nF B).map .p)),(7,.st 0 67 ((aU x).map .p))]⟩) (λq=>q.1<=x.ctors.length/\jB lid (B.ents.drop (i+1)) (jA lid (x.ctors.drop q.1) q.2)=rG B lid/\0<=q.2/\q.2<=10000000000000) (λq=>x.ctors.length-q.1) (0,_) id (gV ⟨rfl,rfl,rfl,rfl,rfl,rfl,trivial⟩ ⟨rfl,rfl,trivial⟩ rfl) ⟨KV _,by simp only[S,T,U];exact b,by simp only;omega,by simp only;omega⟩ ?_;rintro⟨j,a⟩ ⟨X,d,u,v⟩;simp only at X d u v;refine ae (λY=>?_) (λY=>?_)
   ·obtain⟨c,h,y⟩:=ay (l:=x.ctors) (k:=j)
    obtain⟨z,A⟩:=e.a c (JQ h);rw[y]at d;simp only[jA]at d;refine ae (λC=>?_) (λC=>?_)
    ·rw[if_pos C]at d
     obtain⟨Z,b3,c3⟩:=uk z r;obtain⟨v4,b4,c4⟩:=uk A r;have o:(x.ctors.map bD)[j]?=some (bD c):=by rw[JX,h];rfl
     refine fI (by omega) (by omega) ?_;refine k7 j (bD c) rfl o rfl ?_;refine af Z ?_;refine fI (by omega) (by omega) ?_;refine k7 j (bD c) rfl o rfl ?_;refine af v4 ?_;refine fI (by omega) (by omega) ?_;refine gU (by kernel_rfl) ?_;refine fI (by omega) (by omega) ?_;exact⟨(j+1,_),id,by simp only;omega,⟨by simp only;omega,d,by simp only;omega,by simp only;omega⟩,gV ⟨rfl,rfl,rfl,rfl,rfl,rfl,trivial⟩ ⟨rfl,rfl,trivial⟩ rfl⟩
    ·rw[if_neg C]at d
     refine fI (by omega) (by omega) ?_;exact⟨(i+1,a),id,by simp only;omega,⟨by simp only;omega,d,u,v⟩,gV ⟨rfl,rfl,rfl,rfl,trivial⟩ ⟨rfl,trivial⟩ rfl⟩
   ·have e5:x.ctors.drop j=[]:=JY (by omega)
    rw[e5]at d;refine fI (by omega) (by omega) ?_;exact⟨(i+1,a),id,by simp only;omega,⟨by simp only;omega,d,u,v⟩,gV ⟨rfl,rfl,rfl,rfl,trivial⟩ ⟨rfl,trivial⟩ rfl⟩
  ·rw[if_neg s]at b
   exact⟨_,_,rfl,rfl,congrArg (PV.int .i64) b⟩
 ·rw[JY (by omega)]at b
  exact⟨_,_,rfl,rfl,congrArg (PV.int .i64) b⟩
theorem MQ{B:aq}(hI:BoI B)(hB:GoodB B){cx:Ctx}(hcx:CxOk B cx)(hcl:cx.length<=260){t:Tr}(ht:Ft (QB B) (cx.length:Int) t)(fuel:Int):VC prog 26 [aY B,aJ (cx.map aA),ah (row t),pI fuel] (uf (lU B cx t fuel)):=Mp hI hB hcx hcl ht fuel
theorem zw{B:aq}(hI:BoI B)(hB:dG B){c:CxR}(hc:c.length<=1000000)(i:∀q∈c,q.1.length<=1000000000/\q.2.length<=1000000000){t:List Nd}(ht:t.length<=1000000000)(fuel:Int):VC prog 8 [aY B,aJ c,ah t,pI fuel] (uf (jz B c t fuel)):=by
 generalize a:jz B c t fuel=b;unfold jz at a;refine vf 27 [.tmp 8,.tmp 9,.tmp 10] τok func8 ?_;refine af (tH hB hc i ht) ?_;refine ae (λg=>?_) (λg=>?_)
 ·rw[if_pos g]at a
  subst a;exact⟨_,_,rfl,rfl,rfl⟩
 rw[if_neg g]at a;obtain⟨j,hr,k,d,hcx,e,f⟩:=kI (Decidable.not_not.1 g);have h:=MQ hI j hcx (by rw[eX];omega) (by rw[eX];exact f) fuel;rw[<- d,<- e,a]at h;cases b with
 |error l=>
  refine af h ?_;exact⟨_,_,rfl,rfl,rfl⟩
 |ok q=>
  refine af h ?_;exact⟨_,_,rfl,rfl,rfl⟩
theorem zx{c:CxR}(hc:Lm c)(o:∀q∈c,Lm q.1/\Lm q.2){lim:Int}(y:0<=lim/\lim<=100000):VC prog 24 [aJ c,pI lim] (pI (jc lim c 0)):=by
 have eC:=ak bdP c;unfold Lm at hc;generalize b:jc lim c 0=d;refine vf 35 [.tmp 4] τok func24 ?_;refine vl τok (σ:=Nat×Int) [(0,_),(1,_)] (λq=>[(5,vI q.2),(6,vI q.1)]) (λq=>q.1<=c.length/\0<=q.2/\q.2<=4000000000000/\jc lim (c.drop q.1) q.2=d) (λq=>c.length-q.1) (0,0) ⟨KV _,Int.le_refl _,by decide,b⟩ ?_
 clear b
 rintro⟨i,a⟩ ⟨r,f,j,hr⟩;simp only at r f j hr;have fin:jc lim (c.drop i) a=a ->gC' [PV.nz (pI a)]=pI d:=λh=>by rw[<- hr,h];rfl
 refine ae (λg=>?_) (λg=>?_);rotate_left
 ·exact⟨_,_,rfl,rfl,fin (by rw[JY (by have g:¬ (i:Int)<((c.map bdP).length:Int):=g;omega)];rfl)⟩
 have g:(i:Int)<((c.map bdP).length:Int):=g;refine ae (λe=>?_) (λe=>?_);rotate_left
 ·exact⟨_,_,rfl,rfl,fin (Fe e _)⟩
 have e:a<lim:=e;obtain⟨q,m,s⟩:=ay (l:=c) (k:=i);obtain⟨q1,u⟩:=o q (JQ m);unfold Lm at q1 u;have v:=ak ndP q.1;have x:=ak ndP q.2;rw[s]at hr;simp only[jc]at hr;rw[if_pos e]at hr;refine vi ?_;refine vm (p:=bdP) i m ?_;refine vi ?_;refine vm (p:=bdP) i m ?_;refine vi ?_;refine vk ?_;refine vi ?_;exact au (i+1,a+1+((q.1.map ndP).length:Int)+((q.2.map ndP).length:Int)) ⟨by show i+1<=_;omega,by simp only;omega,by simp only;omega,by simp only[v,x];exact hr⟩
def um(x:jC):PV:=.agg (nF x.book++[aJ x.ctx,ah x.term,ah x.type,pI x.fuel])
structure uo(x:jC):Prop where
 b:zv x.book
 c:Lm x.ctx
 q:∀q∈x.ctx,Lm q.1/\Lm q.2
 t:Lm x.term
 y:Lm x.type
theorem Fm{x:jC}(a:uo x):VC prog 7 [um x] (.bool (lY x)):=by
 have i:=ak bdP x.ctx;have j:=ak ndP x.term;have k:=ak ndP x.type;have b:=a.t;have c:=a.y;unfold Lm at b c;refine vf 34 [.tmp 2] τok func7 ?_;refine af (MP a.b (lid:=2500) (by omega)) ?_;refine ae (λg=>?_) (λg=>?_)
 ·exact⟨_,_,rfl,rfl,cz (by simp[lY];omega)⟩
 refine af (zx a.c a.q (lim:=1500) (by omega)) ?_;refine ae (λd=>?_) (λd=>?_)
 ·exact⟨_,_,rfl,rfl,cz (by simp[lY];omega)⟩
 refine ae (λe=>?_) (λe=>?_)
 ·exact⟨_,_,rfl,rfl,cz (by simp[lY];omega)⟩
 refine vi ?_;refine ae (λf=>?_) (λf=>?_)
 ·exact⟨_,_,rfl,rfl,cz (by simp[lY];omega)⟩
 refine ae (λh=>?_) (λh=>?_)
 ·exact⟨_,_,rfl,rfl,cz (by simp[lY];omega)⟩
 ·exact⟨_,_,rfl,rfl,cz (by simp[lY];omega)⟩
theorem sm0:dG B0:=⟨by simp[B0],by simp[B0],by simp[B0],λx a=>by cases a⟩
theorem boi0:BoI B0:=⟨⟨by simp[B0],λx a=>by cases a⟩,⟨by simp[B0],λx a=>by cases a⟩,⟨by simp[B0],λx a=>by cases a⟩⟩
theorem yv':VC prog 6 [] (.bool true):=by
 have d:=zw boi0 sm0 (c:=[]) (by simp) (by simp) (t:=r1) (by decide) 3;have e:=zw boi0 sm0 (c:=[]) (by simp) (by simp) (t:=r2) (by decide) 3;rw[GB']at d;rw[GC']at e;have f:=oX (a:=[⟨2,1,1⟩,⟨3,0,1⟩]) (b:=[⟨2,1,1⟩,⟨3,0,1⟩]) (by decide) (by decide);refine vf 45 [.tmp 0] τok func6 ?_;refine af d ?_;refine af e ?_;refine vy ?_ (by decide);refine vy ?_ (by decide);refine af f ?_;refine vy ?_ (by decide);exact⟨_,_,rfl,rfl,rfl⟩
theorem MR{x:jC}(m:uo x)(hI:BoI x.book):VC prog 3 [um x] (.bool true):=by
 refine vf 52 [.tmp 2] τok func3 ?_;refine af yv' ?_;refine bB (Fm m) (λi=>?_) (λi=>?_)
 ·exact⟨_,_,rfl,rfl,rfl⟩
 obtain⟨j,c,o,p⟩:=Fl i;have d:=zw (t:=x.term) hI j c.1 (λq k=>⟨KQ (c.2 q k).1 (by decide),KQ (c.2 q k).2 (by decide)⟩) (by omega) x.fuel;have e:=Mm j c (show x.term.length<=1000000 by omega) x.fuel;cases hr:jz x.book x.ctx x.term x.fuel with
 |error r=>
  rw[hr]at d e;refine af d ?_;refine af e ?_;refine vy ?_;refine vy ?_;refine af (oX (a:=[]) (b:=[]) (by decide) (by decide)) ?_;exact⟨_,_,rfl,rfl,rfl⟩
 |ok q=>
  rw[hr]at d e;have f:(row q.1).length<=1000000000:=by
   unfold jz at hr;split at hr
   ·cases hr
   ·rename_i g
    obtain⟨hB,_,f,_,hcx,_,h⟩:=kI (Decidable.not_not.1 g);have:=((gL hB GJ).ft _ _ _ _ hcx (by rw[eX];omega) (by rw[eX];exact h) hr).len;omega
  refine af d ?_;refine af e ?_;refine vy ?_;refine vy ?_;have l:=oX f f;rw[decide_eq_true rfl]at l;refine af l ?_;exact⟨_,_,rfl,rfl,rfl⟩
theorem uq{l:List (List Nd)}(h:GL (GL jQ) l):px l:=⟨h.1,λt ht=>(h.2 t ht).1⟩
theorem BoI.lm{B:aq}(h:BoI B):zv B:=⟨h.1.1,h.2.2.1,h.2.1.1,λx j=>by
 obtain⟨_,a,b,c,d,e,f⟩:=h.2.1.2 x j;exact⟨a.1,e.1,f.1,uq b,uq c,d.1,λq i=>⟨uq (d.2 q i).1,uq (d.2 q i).2⟩⟩⟩
theorem CaV.lm{C:Mem}{x:jC}{v:Value}(i:CaV C x v):BoI x.book/\uo x/\RV C (um x) v:=by
 obtain⟨j,k,l,m,vt,vy,rfl,b,c,hP,d,e,f,o⟩:=i;have hI:BoI x.book:=BoV.boi ⟨j,k,l,rfl,b,c,hP⟩;have a:=br_bd.gl d;exact⟨hI,⟨hI.lm,a.1,λq h=>⟨(a.2 q h).1.1,(a.2 q h).2.1⟩,(br_nd.gl e).1,(br_nd.gl f).1⟩,nQ (cW (.int _ _) (cW (b.rv Cq') (cW (c.rv Ct') (cW (.int _ _) (cW (hP.rv Cr') (cW (d.rv Cu') (cW (e.rv eT') (cW (f.rv eT') (cW (.int _ _) lP)))))))))⟩
theorem wS'{w:World}{x:jC}{v:Value}(a:CaV (Im [] w) x v):Calls prog 3 #[v] w (λe w'=>e= .returned (.bool true)/\Kp [] w w'):=by
 obtain⟨b,c,d⟩:=a.lm;exact((MR c b).run.2 w _ [v] (Im.sub [] w) (cW d lP)).mono λe w' ⟨u,i,f,hr,h⟩=>⟨by cases hr;exact f,h.kp⟩
def py(B:aq)(a:Int)(fuel:Int):Except Int (Bool×Nat):=ik B (dg B GJ) a (aW fuel)
def nZ(B:aq)(a:Int)(fuel:Int):Except Int (Bool×Nat):=if cS B≠0 then .error (cS B)else if bk B B.ents.length a=true then py B a fuel else .error 1
def rH(r:Except Int (Unit×Nat)):PV:=match r with
 | .ok q=>.tup [pI q.2,pI 0]
 | .error e=>.tup [pI 0,pI e]
def ut(r:Except Int ((Int×List Atom)×Nat)):PV:=match r with
 | .ok q=>.tup [pI q.1.1,bX q.1.2,pI q.2,pI 0]
 | .error e=>.tup [pI 0,.sl [],pI 0,pI e]
def uu(r:Except Int (Bool×Nat)):PV:=match r with
 | .ok q=>.tup [.bool q.1,pI q.2,pI 0]
 | .error e=>.tup [.bool false,pI 0,pI e]
theorem MS(x y:Operand)(p q:Atom)(w:World):(do eqGuard .neq 48 x y (.agg #[.int .i64 p.var,.int .i64 p.add]) (.agg #[.int .i64 q.var,.int .i64 q.add]);binOp .neq 48 (.agg #[.int .i64 p.var,.int .i64 p.add]) (.agg #[.int .i64 q.var,.int .i64 q.add]):Sem Value).run prog w= .ok (.bool (!decide (p=q))) w:=by
 have c : (prog.fieldsOf 48).toList.map (λf => (f.name != "_", f.offset, f.type)) = [(true, 0, 3), (true, 1, 3)] := by kernel_rfl
 have A:prog.underlying 48=some (.struct (prog.fieldsOf 48)):=by kernel_rfl
 have C:prog.eqGuardType prog.depth 48=false:=by kernel_rfl
 have d:prog.stoodInHeld 48=false:=by kernel_rfl
 simp only[Sem.run_bind,run_eqGuard_agg w .neq 48 x y _ _ C,Result.andThen_ok,run_neq_struct];rw[show (10000:Nat)=9999+1 from rfl,run_equalIn_struct w 9999 48 _ _ A d]
 generalize (prog.fieldsOf 48).toList=u at c
 have e:u.length=2:=by have:=congrArg List.length c;simpa using this
 match u,e,c with
 |[f,g],_,c=>
  simp only[List.map_cons,List.map_nil,List.cons.injEq,Prod.mk.injEq,bne_iff_ne,ne_eq,and_true]at c;obtain⟨⟨h,i,j⟩,k,l,m⟩:=c;have o:∀(a b:Int) (w:World),(Op.equalIn 9999 3 (.int .i64 a) (.int .i64 b)).run prog w= .ok (a==b) w:=λa b w=>by rw[show (9999:Nat)=9998+1 from rfl];exact run_equalIn_int w 9998 3 .i64 .i64 a b underlying3
  have r:∀(a b:Value) (w:World),(part 3 #[a,b] 0).run prog w= .ok a w:=λa b w=>by simp[part,isAgg,run_underlying underlying3]
  have s:∀(a b:Value) (w:World),(part 3 #[a,b] 1).run prog w= .ok b w:=λa b w=>by simp[part,isAgg,run_underlying underlying3]
  obtain⟨D,E⟩:=p;obtain⟨F,I⟩:=q
  by_cases v:D=F
  ·subst v
   by_cases z:E=I
   ·subst z
    simp[Op.eqFields,h,k,i,l,j,m,r,s,o]
   ·simp[Op.eqFields,h,k,i,l,j,m,r,s,o,z]
  ·simp[Op.eqFields,h,k,i,l,j,m,r,s,o,v]
theorem zy{x y:Operand}{p q:Atom}{k:PV ->Prop}(e:k (.bool (!decide (p=q)))):nh prog .neq 48 x y (.c (.p (.agg (atP p)))) (.c (.p (.agg (atP q)))) k:=by
 refine⟨_,λC ρ va r w f i=>?_,e⟩;have rd:∀{p:Atom} {v:Value},RA C ρ (.c (.p (.agg (atP p)))) v ->v= .agg #[.int .i64 p.var,.int .i64 p.add]:=λ{p v} h=>by
  have h:RV C (.agg (atP p)) v:=h;cases h with
  |agg s j l d=>
   match j,l with
   |[a,b],_=>
    have m:=d 0 _ _ rfl rfl;have o:=d 1 _ _ rfl rfl;cases m;cases o
    rfl
 rw[rd f,rd i];exact⟨_,.bool _,MS x y p q w⟩
theorem MT{a b:List Atom}(ha:a.length<=1000000000)(hb:b.length<=1000000000):VC prog 20 [bX a,bX b] (.bool (decide (a=b))):=by
 have o:=ak atP a;have r:=ak atP b;have j:a≠b ->PV.bool false= .bool (decide (a=b)):=λh=>by rw[decide_eq_false h]
 refine vf 26 [.tmp 4] τok func20 ?_;refine ae (λg=>?_) (λg=>?_)
 ·exact⟨_,_,rfl,rfl,j λh=>by subst h;omega⟩
 refine vl τok (σ:=Nat) [(0,_),(1,_)] (λi=>[(5,vI i)]) (λi=>i<=a.length/\a.take i=b.take i) (λi=>a.length-i) 0 ⟨KV _,by simp⟩ ?_;rintro i ⟨s,d⟩;refine ae (λg=>?_) (λg=>?_)
 ·obtain⟨p,f,u⟩:=ay (l:=a) (k:=i)
  obtain⟨q,c,m⟩:=ay (l:=b) (k:=i);refine vm i f ?_;refine vm i c ?_;refine zy ?_
  by_cases h:p=q
  ·rw[decide_eq_true h]
   refine vk ?_;refine vi ?_;exact au (i+1) ⟨by omega,by rw[List.take_add_one,List.take_add_one,d,f,c,h]⟩
  ·rw[decide_eq_false h]
   exact vk ⟨_,_,rfl,rfl,j λe=>h (by subst e;rw[f]at c;exact JB c)⟩
 ·exact⟨_,_,rfl,rfl,by
   rw[JG (by omega),JG (by omega)]at d;rw[decide_eq_true d]
   rfl⟩
section
variable{B:aq}(hS:dG B)
include hS
theorem MU{c:CxR}(hc:rn c){t ty:List Nd}(ht:t.length<=1000000)(k:ty.length<=1000000)(fuel:Int):VC prog 18 [aY B,aJ c,ah t,ah ty,pI fuel] (rH (nX B c t ty fuel)):=by
 have s:=tZ hS hc ht;have u:=tZ hS hc k;generalize a:nX B c t ty fuel=f;unfold nX at a;refine vf 39 [.tmp 10,.tmp 11] τok func18 ?_;refine af s ?_;refine ae (λb=>?_) (λb=>?_);rotate_left
 ·have b:¬ cZ B c t=0:=b
  rw[if_pos b]at a;subst a;refine vy (p:=cZ B c t≠0) ?_ b;exact⟨_,_,rfl,rfl,rfl⟩
 have b:cZ B c t=0:=b;rw[if_neg (by simpa using b)]at a;refine af u ?_;refine ae (λj=>?_) (λj=>?_)
 ·rw[if_pos j]at a
  subst a;exact⟨_,_,rfl,rfl,rfl⟩
 rw[if_neg j]at a;obtain⟨hB,hR,y,l,hcx,m,d⟩:=kI b;obtain⟨_,_,_,_,_,o,r⟩:=kI (Decidable.not_not.1 j);refine sA (ue fuel) ?_;have v:=Er' hS hR hB GJ (da c) 64 (tr t) (aW fuel) hcx (by rw[eX];omega) (by rw[eX];exact d) (pg hB d) (by have:=kr';have:=d.len;omega) (kR _);have h:=rE hS hB (cn' (B:=B) GJ) (gL hB GJ) hcx (by rw[eX];omega) (by rw[eX];exact d) (by rw[eX];exact r) (kR fuel) v;have hfg:=j4 (B:=B) (cn' (B:=B) GJ) (cx:=da c) (tr t) (tr ty) (aW fuel);rw[<- m,<- l,<- o]at h;unfold pe at a;rw[<- hfg]at a;cases hr:gu B (mX B GJ) (da c) (tr t) (tr ty) (aW fuel)with
 |error e=>
  have x:=lI (gL hB GJ) (dZ hfg hr);rw[hr]at h a;have a:.error e.1=f:=a;subst a;refine ax h ?_;have i:=leftV (B:=B) e.2 e.1;rw[if_neg x]at i;refine ax i ?_;exact⟨_,_,rfl,rfl,rfl⟩
 |ok q=>
  rw[hr]at h a;have a:.ok q=f:=a;subst a;refine ax h ?_;have i:=leftV (B:=B) q.2 0;rw[if_pos rfl]at i;refine ax i ?_;exact⟨_,_,rfl,rfl,rfl⟩
theorem MW{c:CxR}(hc:rn c){t:List Nd}(ht:t.length<=1000000)(fuel:Int):VC prog 19 [aY B,aJ c,ah t,pI fuel] (ut (lX B c t fuel)):=by
 have m:=tZ hS hc ht;generalize a:lX B c t fuel=d;unfold lX at a;refine vf 45 [.tmp 8,.tmp 9,.tmp 10,.tmp 11] τok func19 ?_;refine af m ?_;refine ae (λi=>?_) (λi=>?_)
 ·rw[if_pos i]at a
  subst a;exact⟨_,_,rfl,rfl,rfl⟩
 rw[if_neg i]at a;obtain⟨hB,hR,r,j,hcx,k,b⟩:=kI (Decidable.not_not.1 i);refine sA (ue fuel) ?_;have o:=Er' hS hR hB GJ (da c) 64 (tr t) (aW fuel) hcx (by rw[eX];omega) (by rw[eX];exact b) (pg hB b) (by have:=kr';have:=b.len;omega) (kR _);have f:=nW hS hB (cn' (B:=B) GJ) (gL hB GJ) hcx (by rw[eX];omega) (by rw[eX];exact b) (kR fuel) o;have hfg:=gR (B:=B) (cn' (B:=B) GJ) (cx:=da c) (tr t) (aW fuel);rw[<- k,<- j]at f;unfold pf at a;rw[<- hfg]at a;cases hr:fx B (mX B GJ) (da c) (tr t) (aW fuel)with
 |error e=>
  have l:=i9 (gL hB GJ) (dZ hfg hr);rw[hr]at f a;have a:.error e.1=d:=a;subst a;refine ax f ?_;have h:=leftV (B:=B) e.2 e.1;rw[if_neg l]at h;refine ax h ?_;refine vy (p:=e.1≠0) ?_ l;exact⟨_,_,rfl,rfl,rfl⟩
 |ok q=>
  rw[hr]at f a;have a:.ok q=d:=a;subst a;refine ax f ?_;have h:=leftV (B:=B) q.2 0;rw[if_pos rfl]at h;refine ax h ?_;refine vn (p:=(0:Int)≠0) ?_ (by decide);exact⟨_,_,rfl,rfl,rfl⟩
theorem MX(a fuel:Int):VC prog 22 [aY B,pI a,pI fuel] (uu (nZ B a fuel)):=by
 have l:=ak aU B.ents;have k:VC prog 40 [aY B,pI a,pI ((B.ents.map aU).length:Nat)] (.bool (bk B B.ents.length a)):=by
  rw[l];exact oZ (B:=B) (known:=B.ents.length) (KJ _) a
 generalize c:nZ B a fuel=d;unfold nZ at c;refine vf 43 [.tmp 6,.tmp 7,.tmp 8] τok func22 ?_;refine af (qU hS) ?_;refine ae (λh=>?_) (λh=>?_)
 ·rw[if_pos h]at c
  subst c;exact⟨_,_,rfl,rfl,rfl⟩
 rw[if_neg h]at c;have hR:=Decidable.not_not.1 h;have hB:=yc hR;refine af k ?_;cases i:bk B B.ents.length a with
 |false=>
  rw[i]at c;have c:.error 1=d:=c;subst c;exact⟨_,_,rfl,rfl,rfl⟩
 |true=>
  rw[if_pos i]at c;refine sA (ue fuel) ?_;have o:=i3 hB i;have j:=Fb hS hB (cn' (B:=B) GJ) (gL hB GJ) (Er' hS hR hB GJ) (kR fuel) i (KQ (Nat.add_le_add_right (Nat.mul_le_mul_right 5000 (show a.toNat<=64 by omega)) 4096) kr');have hfg:=ud (B:=B) (cn' (B:=B) GJ) a (aW fuel);unfold py at c;rw[<- hfg]at c;cases hr:kT B (mX B GJ) a (aW fuel)with
  |error e=>
   have m:=ya (gL hB GJ) (dZ hfg hr);rw[hr]at j c;have c:.error e.1=d:=c;subst c;refine ax j ?_;have f:=leftV (B:=B) e.2 e.1;rw[if_neg m]at f;refine ax f ?_;exact⟨_,_,rfl,rfl,rfl⟩
  |ok q=>
   rw[hr]at j c;have c:.ok q=d:=c;subst c;refine ax j ?_;have f:=leftV (B:=B) q.2 0;rw[if_pos rfl]at f;refine ax f ?_;obtain⟨b,n⟩:=q;cases b with
   |true=>
    refine vy (p:=(0:Int)=0) ?_ rfl;exact⟨_,_,rfl,rfl,rfl⟩
   |false=>exact⟨_,_,rfl,rfl,rfl⟩
end
def zz(g:Nat)(cx:Ctx)(t ty:Tr):List (Nat×SE):=[(100,.st g 27 [.p (aJ (cx.map aA))]),(101,.st (g+1) 29 [.p (ah (row t))]),(102,.st (g+2) 29 [.p (ah (row ty))])]
def rI(g:Nat)(cx:Ctx)(t:Tr)(y z:PV):List (Nat×SE):=[(100,.st g 27 [.p (aJ (cx.map aA))]),(101,.st (g+1) 29 [.p (ah (row t))]),(102,.st (g+2) 3 [.p y]),(103,.st (g+3) 44 [.p z])]
def rJ(g:Nat)(a:Int)(y:PV):List (Nat×SE):=[(100,.st g 3 [.p (pI a)]),(101,.st (g+1) 4 [.p y])]
section
variable{B:aq}(hI:BoI B)(hB:GoodB B)
include hI hB
theorem MY{a:Int}(ha:bk B B.ents.length a=true){n:Nat}(d:n<=100000){y:PV}:match ik B (dg B GJ) a n with
  | .ok q=>VG prog 77 [.c (.ptr 0 0),.c (.ptr 100 0),.c (.ptr 101 0)] ((0,.st 1 132 ((dh B n).map .p))::rJ 2 a y) (.ok (.c (.p (.tup [])),(0,.st 1 132 ((dh B q.2).map .p))::rJ 2 a (.bool q.1)))
  | .error e=>VG prog 77 [.c (.ptr 0 0),.c (.ptr 100 0),.c (.ptr 101 0)] ((0,.st 1 132 ((dh B n).map .p))::(rJ 2 a y).take 1) (.error (dV e)):=by
 have f:=i3 hB ha;have b:=EI hI hB (gL hB GJ) (jgG hI hB GJ) d ha (KQ (Nat.add_le_add_right (Nat.mul_le_mul_right 5000 (show a.toNat<=64 by omega)) 4096) kr');cases hr:ik B (dg B GJ) a n with
 |error e=>
  rw[hr]at b;refine dE 7 [] τok func77 ?_;refine aj τok ?_;refine cr b ?_;exact rfl
 |ok q=>
  rw[hr]at b;refine dE 7 [] τok func77 ?_;refine aj τok ?_;refine ax b ?_;exact .inl ⟨_,_,_,id,rfl,rfl,rfl,rfl,⟨rfl,rfl,rfl,trivial⟩,rfl⟩
theorem MZ{a:Int}(ha:bk B B.ents.length a=true)(fuel:Int){y:PV}:VG prog 44 [.c (.p (aY B)),.c (.p (pI fuel)),.c (.fn 77 [100,101])] (rJ 1 a y) (.ok (match py B a fuel with
  | .ok q=>(.c (.p (.tup [pI q.2,pI 0])),rJ 1 a (.bool q.1))
  | .error e=>(.c (.p (.tup [pI 0,pI e])),[(101,.st 2 4 [.p y])]))):=by
 have d:min (max fuel 0) 100000=((aW fuel:Nat):Int):=by unfold aW;omega
 have b:=MY hI hB ha (kR fuel) (y:=y);unfold py
 generalize ik B (dg B GJ) a (aW fuel)=r at b ⊢
 rcases r with e|q
 all_goals
  refine oJ 23 [.cell 6 3,.cell 7 34] τok func44 ?_;refine aj τok ?_;refine⟨⟨rfl,rfl,rfl⟩,rfl,λf=>?_⟩;refine aj τok ?_
  first
   |refine j8 (λk=>sw 0 15 k) b ?_ (he:=by rw[d];repeat first|exact True.intro|refine And.intro rfl ?_)
    refine iX (λk=>k+6) (λ_=>0) (ug e) ?_;exact .inl ⟨_,_,_,id,rfl,rfl,rfl,rfl,⟨rfl,trivial⟩,rfl⟩
   |refine bS (λk=>sw 0 15 k) (λk=>k-99) b ?_ (he:=by rw[d];repeat first|exact True.intro|refine And.intro rfl ?_)
    refine iX (λk=>k+6) (λ_=>0) qV' ?_;exact .inl ⟨_,_,_,id,rfl,rfl,rfl,rfl,⟨rfl,rfl,trivial⟩,rfl⟩
theorem M0{a:Int}(ha:bk B B.ents.length a=true)(fuel:Int):VC prog 38 [aY B,pI a,pI fuel] (uu (py B a fuel)):=by
 have b:=MZ hI hB ha fuel (y:=.bool false)
 generalize py B a fuel=r at b ⊢
 rcases r with e|q
 all_goals
  refine vf 19 [.cell 6 4,.tmp 7,.tmp 8] τok func38 ?_;refine bS (λk=>sw 100 4 (sw 101 6 k)) (λ_=>0) b ?_;exact⟨_,_,rfl,rfl,rfl⟩
variable{cx:Ctx}(hcx:CxOk B cx)(hcl:cx.length<=260)
include hcx hcl
theorem M1{t ty:Tr}(ht:Ft (QB B) (cx.length:Int) t)(b:Ft (QB B) (cx.length:Int) ty){n:Nat}(d:n<=100000):match dQ B (dg B GJ) cx t ty n with
  | .ok q=>VG prog 70 [.c (.ptr 0 0),.c (.ptr 100 0),.c (.ptr 101 0),.c (.ptr 102 0)] ((0,.st 1 132 ((dh B n).map .p))::zz 2 cx t ty) (.ok (.c (.p (.tup [])),[(0,.st 1 132 ((dh B q.2).map .p))]))
  | .error e=>VG prog 70 [.c (.ptr 0 0),.c (.ptr 100 0),.c (.ptr 101 0),.c (.ptr 102 0)] ((0,.st 1 132 ((dh B n).map .p))::zz 2 cx t ty) (.error (dV e)):=by
 have h:=ht.len;have f:=kr';have a:=rh hI hB hcx hcl (gL hB GJ) ht b (jgG hI hB GJ cx 64 t n hcx hcl ht (pg hB ht) (by omega) d);cases hr:dQ B (dg B GJ) cx t ty n with
 |error e=>
  rw[hr]at a;refine dE 10 [] τok func70 ?_;refine aj τok ?_;refine cr a ?_;exact rfl
 |ok q=>
  rw[hr]at a;refine dE 10 [] τok func70 ?_;refine aj τok ?_;refine ax a ?_;exact .inl ⟨_,_,_,id,rfl,rfl,rfl,rfl,⟨rfl,trivial⟩,rfl⟩
theorem M3{t ty:Tr}(ht:Ft (QB B) (cx.length:Int) t)(a:Ft (QB B) (cx.length:Int) ty)(fuel:Int):VG prog 44 [.c (.p (aY B)),.c (.p (pI fuel)),.c (.fn 70 [100,101,102])] (zz 1 cx t ty) (.ok (.c (.p (rH (pe B cx t ty fuel))),[])):=by
 have d:min (max fuel 0) 100000=((aW fuel:Nat):Int):=by unfold aW;omega
 have b:=M1 hI hB hcx hcl ht a (kR fuel);unfold pe
 generalize dQ B (dg B GJ) cx t ty (aW fuel)=r at b ⊢
 rcases r with e|q
 all_goals
  refine oJ 23 [.cell 6 3,.cell 7 34] τok func44 ?_;refine aj τok ?_;refine⟨⟨rfl,rfl,rfl⟩,rfl,λf=>?_⟩;refine aj τok ?_
  first
   |refine j8 (λk=>sw 0 15 k) b ?_ (he:=by rw[d];repeat first|exact True.intro|refine And.intro rfl ?_)
    refine iX (λk=>k+6) (λ_=>0) (ug e) ?_;exact .inl ⟨_,_,_,id,rfl,rfl,rfl,rfl,trivial,rfl⟩
   |refine bS (λk=>sw 0 15 k) (λk=>k-99) b ?_ (he:=by rw[d];repeat first|exact True.intro|refine And.intro rfl ?_)
    refine iX (λk=>k+6) (λ_=>0) qV' ?_;exact .inl ⟨_,_,_,id,rfl,rfl,rfl,rfl,trivial,rfl⟩
theorem M4{t ty:Tr}(ht:Ft (QB B) (cx.length:Int) t)(a:Ft (QB B) (cx.length:Int) ty)(fuel:Int):VC prog 34 [aY B,aJ (cx.map aA),ah (row t),ah (row ty),pI fuel] (rH (pe B cx t ty fuel)):=by
 have b:=M3 hI hB hcx hcl ht a fuel
 generalize pe B cx t ty fuel=r at b ⊢
 rcases r with e|q
 all_goals
  refine vf 18 [.tmp 10,.tmp 11] τok func34 ?_;refine bS (λk=>sw 100 6 (sw 101 7 (sw 102 8 k))) (λ_=>0) b ?_;exact⟨_,_,rfl,rfl,rfl⟩
theorem M5{t:Tr}(ht:Ft (QB B) (cx.length:Int) t){n:Nat}(b:n<=100000){y z:PV}:match dB B (dg B GJ) cx t n with
  | .ok q=>VG prog 67 [.c (.ptr 0 0),.c (.ptr 100 0),.c (.ptr 101 0),.c (.ptr 102 0),.c (.ptr 103 0)] ((0,.st 1 132 ((dh B n).map .p))::rI 2 cx t y z) (.ok (.c (.p (.tup [])),(0,.st 1 132 ((dh B q.2).map .p))::rI 2 cx t (pI q.1.1) (bX q.1.2)))
  | .error e=>VG prog 67 [.c (.ptr 0 0),.c (.ptr 100 0),.c (.ptr 101 0),.c (.ptr 102 0),.c (.ptr 103 0)] ((0,.st 1 132 ((dh B n).map .p))::(rI 2 cx t y z).take 2) (.error (dV e)):=by
 have f:=ht.len;have d:=kr';have a:=nS hI hB hcx hcl (gL hB GJ) ht (jgG hI hB GJ cx 64 t n hcx hcl ht (pg hB ht) (by omega) b);cases hr:dB B (dg B GJ) cx t n with
 |error e=>
  rw[hr]at a;refine dE 13 [] τok func67 ?_;refine aj τok ?_;refine cr a ?_;exact rfl
 |ok q=>
  rw[hr]at a;refine dE 13 [] τok func67 ?_;refine aj τok ?_;refine ax a ?_;exact .inl ⟨_,_,_,id,rfl,rfl,rfl,rfl,⟨rfl,rfl,rfl,rfl,rfl,trivial⟩,rfl⟩
theorem M6{t:Tr}(ht:Ft (QB B) (cx.length:Int) t)(fuel:Int){y z:PV}:VG prog 44 [.c (.p (aY B)),.c (.p (pI fuel)),.c (.fn 67 [100,101,102,103])] (rI 1 cx t y z) (.ok (match pf B cx t fuel with
  | .ok q=>(.c (.p (.tup [pI q.2,pI 0])),rI 1 cx t (pI q.1.1) (bX q.1.2))
  | .error e=>(.c (.p (.tup [pI 0,pI e])),[(102,.st 3 3 [.p y]),(103,.st 4 44 [.p z])]))):=by
 have b:min (max fuel 0) 100000=((aW fuel:Nat):Int):=by unfold aW;omega
 have a:=M5 hI hB hcx hcl ht (kR fuel) (y:=y) (z:=z);unfold pf
 generalize dB B (dg B GJ) cx t (aW fuel)=r at a ⊢
 rcases r with e|q
 all_goals
  refine oJ 23 [.cell 6 3,.cell 7 34] τok func44 ?_;refine aj τok ?_;refine⟨⟨rfl,rfl,rfl⟩,rfl,λd=>?_⟩;refine aj τok ?_
  first
   |refine j8 (λk=>sw 0 15 k) a ?_ (he:=by rw[b];repeat first|exact True.intro|refine And.intro rfl ?_)
    refine iX (λk=>k+6) (λ_=>0) (ug e) ?_;exact .inl ⟨_,_,_,id,rfl,rfl,rfl,rfl,⟨rfl,rfl,trivial⟩,rfl⟩
   |refine bS (λk=>sw 0 15 k) (λk=>k-99) a ?_ (he:=by rw[b];repeat first|exact True.intro|refine And.intro rfl ?_)
    refine iX (λk=>k+6) (λ_=>0) qV' ?_;exact .inl ⟨_,_,_,id,rfl,rfl,rfl,rfl,⟨rfl,rfl,rfl,rfl,trivial⟩,rfl⟩
theorem M7{t:Tr}(ht:Ft (QB B) (cx.length:Int) t)(fuel:Int):VC prog 32 [aY B,aJ (cx.map aA),ah (row t),pI fuel] (ut (pf B cx t fuel)):=by
 have a:=M6 hI hB hcx hcl ht fuel (y:=pI 0) (z:=.raw (.slice none 0 0))
 generalize pf B cx t fuel=r at a ⊢
 rcases r with e|q
 all_goals
  refine vf 23 [.cell 8 3,.cell 9 44,.tmp 10,.tmp 11] τok func32 ?_;refine bS (λk=>sw 100 5 (sw 101 6 (sw 102 8 (sw 103 9 k)))) (λ_=>0) a ?_;refine vk ?_;exact⟨_,_,rfl,rfl,rfl⟩
end
section
variable{B:aq}(hI:BoI B)(hB:dG B)
include hI hB
theorem M8{c:CxR}(hc:c.length<=1000000)(o:∀q∈c,q.1.length<=1000000000/\q.2.length<=1000000000){t ty:List Nd}(ht:t.length<=1000000000)(u:ty.length<=1000000000)(fuel:Int):VC prog 17 [aY B,aJ c,ah t,ah ty,pI fuel] (rH (nX B c t ty fuel)):=by
 generalize a:nX B c t ty fuel=d;unfold nX at a;refine vf 39 [.tmp 10,.tmp 11] τok func17 ?_;refine aB τok (σ:=Nat) [(1,_),(2,_),(3,_),(4,_),(5,_),(17,_),(18,_)] [(5,_),(17,_)] (λi=>[(19,vI i)]) (λ_=>[]) (λi=>i<=2/\(0<i ->cZ B c t=0)/\(1<i ->cZ B c ty=0)) (λi=>2-i) 0 ⟨by omega,λh=>absurd h (by omega),λh=>absurd h (by omega)⟩ ?_;rintro i ⟨y,e,v⟩;refine aj τok ?_;refine ae (p:=(i:Int)<2) (λg=>?_) (λg=>?_)
 ·have g:(i:Int)<2:=g
  obtain rfl|rfl:i=0 \/i=1:=by omega
  ·refine k7 0 [ah t] rfl rfl rfl ?_
   refine pG [ah t] rfl ?_;refine af (tH hB hc o ht) ?_;refine ae (λb=>?_) (λb=>?_)
   ·rw[if_pos b]at a
    subst a;exact⟨_,_,rfl,rfl,rfl⟩
   ·refine vi ?_
    exact au 1 ⟨by omega,λ_=>Decidable.not_not.1 b,λh=>absurd h (by omega)⟩
  ·rw[if_neg (by simpa using e (by omega))]at a
   refine k7 1 [ah ty] rfl rfl rfl ?_;refine pG [ah ty] rfl ?_;refine af (tH hB hc o u) ?_;refine ae (λb=>?_) (λb=>?_)
   ·rw[if_pos b]at a
    subst a;exact⟨_,_,rfl,rfl,rfl⟩
   ·refine vi ?_
    exact au 2 ⟨by omega,λ_=>e (by omega),λ_=>Decidable.not_not.1 b⟩
 have g:¬ (i:Int)<2:=g;have r:=e (by omega);have s:=v (by omega);rw[if_neg (by simpa using r),if_neg (by simpa using s)]at a;obtain⟨x,hr,z,f,hcx,j,k⟩:=kI r;obtain⟨_,_,_,_,_,l,m⟩:=kI s;have h:=M4 hI x hcx (by rw[eX];omega) (by rw[eX];exact k) (by rw[eX];exact m) fuel;rw[<- f,<- j,<- l,a]at h;cases d with
 |error A=>
  refine af h ?_;exact⟨_,_,rfl,rfl,rfl⟩
 |ok q=>
  refine af h ?_;exact⟨_,_,rfl,rfl,rfl⟩
theorem M9{c:CxR}(hc:c.length<=1000000)(i:∀q∈c,q.1.length<=1000000000/\q.2.length<=1000000000){t:List Nd}(ht:t.length<=1000000000)(fuel:Int):VC prog 14 [aY B,aJ c,ah t,pI fuel] (ut (lX B c t fuel)):=by
 generalize a:lX B c t fuel=b;unfold lX at a;refine vf 29 [.tmp 8,.tmp 9,.tmp 10,.tmp 11] τok func14 ?_;refine af (tH hB hc i ht) ?_;refine ae (λg=>?_) (λg=>?_)
 ·rw[if_pos g]at a
  subst a;exact⟨_,_,rfl,rfl,rfl⟩
 rw[if_neg g]at a;obtain⟨j,hr,k,d,hcx,e,f⟩:=kI (Decidable.not_not.1 g);have h:=M7 hI j hcx (by rw[eX];omega) (by rw[eX];exact f) fuel;rw[<- d,<- e,a]at h;cases b with
 |error l=>
  refine af h ?_;exact⟨_,_,rfl,rfl,rfl⟩
 |ok q=>
  refine af h ?_;exact⟨_,_,rfl,rfl,rfl⟩
theorem Na(a fuel:Int):VC prog 21 [aY B,pI a,pI fuel] (uu (nZ B a fuel)):=by
 have o:=ak aU B.ents;generalize b:nZ B a fuel=d;unfold nZ at b;have f:cS B=0 ->¬ (0<=a/\a<B.ents.length/\(aN B a).kind=1) ->d= .error 1:=λc h=>by
  rw[if_neg (by simpa using c),if_neg (by simp[bk];simpa using h)]at b;exact b.symm
 refine vf 40 [.tmp 6,.tmp 7,.tmp 8] τok func21 ?_;refine af (oT' hB) ?_;refine ae (λi=>?_) (λi=>?_)
 ·rw[if_pos i]at b
  subst b;exact⟨_,_,rfl,rfl,rfl⟩
 have c:=Decidable.not_not.1 i;have k:=yc c;refine ae (λl=>?_) (λl=>?_)
 ·rw[f c (by omega)]
  exact⟨_,_,rfl,rfl,rfl⟩
 refine ae (λm=>?_) (λm=>?_)
 ·rw[f c (by omega)]
  exact⟨_,_,rfl,rfl,rfl⟩
 refine vm a.toNat (kK (by omega)) ?_;refine ae (λe=>?_) (λe=>?_)
 ·rw[f c (λh=>e h.2.2)]
  exact⟨_,_,rfl,rfl,rfl⟩
 have e:¬ (aN B a).kind≠1:=e;have j:bk B B.ents.length a=true:=by
  simp only[bk,Bool.and_eq_true,decide_eq_true_eq];exact⟨by omega,by omega,by omega⟩
 rw[if_neg (by simpa using c),if_pos j]at b;have h:=M0 hI k j fuel;rw[b]at h;cases d with
 |error p=>
  refine af h ?_;exact⟨_,_,rfl,rfl,rfl⟩
 |ok q=>
  refine af h ?_;exact⟨_,_,rfl,rfl,rfl⟩
end
theorem Nb(r:Except Int (Unit×Nat)):∃n e:Int,rH r= .tup [pI n,pI e]:=by
 cases r with
 |error e=>exact⟨_,_,rfl⟩
 |ok q=>exact⟨_,_,rfl⟩
theorem Nc(r:Except Int (Bool×Nat)):∃(b:Bool) (n e:Int),uu r= .tup [.bool b,pI n,pI e]:=by
 cases r with
 |error e=>exact⟨_,_,_,rfl⟩
 |ok q=>exact⟨_,_,_,rfl⟩
theorem Nf{B:aq}{c:CxR}{t:List Nd}{fuel:Int}:∃(k:Int) (l:List Atom) (n e:Int),l.length<=1000000000/\ut (lX B c t fuel)= .tup [pI k,bX l,pI n,pI e]:=by
 cases hr:lX B c t fuel with
 |error e=>exact⟨_,[],_,_,by simp,rfl⟩
 |ok q=>
  refine⟨_,q.1.2,_,_,?_,rfl⟩;unfold lX at hr;split at hr
  ·cases hr
  ·rename_i g
   obtain⟨b,_,d,_,hcx,_,a⟩:=kI (Decidable.not_not.1 g);have:=(jr b (gL b GJ) hcx (by rw[eX];exact a) hr).2.2.hi;omega
theorem Ng{x:jC}(E:uo x)(hI:BoI x.book)(en:Int):VC prog 5 [um x,pI en] (.bool true):=by
 refine vf 135 [.tmp 4] τok func5 ?_;refine af yv' ?_;refine bB (Fm E) (λf=>?_) (λf=>?_)
 ·exact⟨_,_,rfl,rfl,rfl⟩
 obtain⟨a,d,K,L⟩:=Fl f;have e:∀q∈x.ctx,q.1.length<=1000000000/\q.2.length<=1000000000:=λq e=>⟨KQ (d.2 q e).1 (by decide),KQ (d.2 q e).2 (by decide)⟩
 have h:=M8 (t:=x.term) (ty:=x.type) hI a d.1 e (by omega) (by omega) x.fuel;have i:=MU a d (show x.term.length<=1000000 by omega) (show x.type.length<=1000000 by omega) x.fuel;have j:=M9 (t:=x.type) hI a d.1 e (by omega) x.fuel;have m:=MW a d (show x.type.length<=1000000 by omega) x.fuel;have o:=Na hI a en x.fuel;have r:=MX a en x.fuel;obtain⟨s,u,q1⟩:=Nb (nX x.book x.ctx x.term x.type x.fuel);obtain⟨k,l,v,y,z,F⟩:=Nf (B:=x.book) (c:=x.ctx) (t:=x.type) (fuel:=x.fuel);obtain⟨b,A,C,I⟩:=Nc (nZ x.book en x.fuel);rw[q1]at h i;rw[F]at j m;rw[I]at o r;have D:=MT z z;rw[decide_eq_true rfl]at D;refine af h ?_;refine af i ?_;refine vn (p:=s≠s) ?_ (by simp);refine vn (p:=u≠u) ?_ (by simp);refine af j ?_;refine af m ?_;refine vn (p:=k≠k) ?_ (by simp);refine vn (p:=v≠v) ?_ (by simp);refine vn (p:=y≠y) ?_ (by simp);refine af D ?_;refine af o ?_;refine af r ?_;cases b
 all_goals
  refine vy (p:=A=A) ?_ rfl;refine vy (p:=C=C) ?_ rfl;exact⟨_,_,rfl,rfl,rfl⟩
theorem Nh{w:World}{x:jC}{v:Value}(a:CaV (Im [] w) x v)(en:Int):Calls prog 5 #[v,.int .i64 en] w (λe w'=>e= .returned (.bool true)/\Kp [] w w'):=by
 obtain⟨b,c,d⟩:=a.lm;exact((Ng c b en).run.2 w _ [v,.int .i64 en] (Im.sub [] w) (cW d (cW (.int _ _) lP))).mono λe w' ⟨u,i,f,hr,h⟩=>⟨by cases hr;exact f,h.kp⟩
end Go.Proofs.YtjnjbghlemiklaaGreat
