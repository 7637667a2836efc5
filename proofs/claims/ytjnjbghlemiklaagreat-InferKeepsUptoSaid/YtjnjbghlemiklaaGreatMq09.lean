import Derived.Test.YtjnjbghlemiklaaGreatMq08
set_option linter.unusedVariables false
set_option linter.unusedSimpArgs false
set_option linter.unusedSectionVars false
set_option maxHeartbeats 4000000
namespace Go.Proofs.YtjnjbghlemiklaaGreat
open Go.Wx Cd Tm Lv
theorem td{x:Tr}(r:Ok .tm x)(a:x.n.op=12){i:Nat}(hi:i<x.n.b.toNat):∃f,x.ks[i]?=some f/\Ok .tm (kidD x (2*i))/\Ok .tm (kidD x (2*i+1))/\f= .mk f.n [kidD x (2*i),kidD x (2*i+1)]/\
  (row x)[1+(rows (x.ks.take i)).length]?=some f.n/\f.n.op=13/\0<=f.n.a/\f.n.a<=15/\
  row x=(x.n::(rows (x.ks.take i)++[f.n]))++(row (kidD x (2*i))++(row (kidD x (2*i+1))++rows (x.ks.drop (i+1))))/\row x=(x.n::(rows (x.ks.take i)++(f.n::row (kidD x (2*i)))))++(row (kidD x (2*i+1))++rows (x.ks.drop (i+1)))/\
  (rows (x.ks.take (i+1))).length=(rows (x.ks.take i)).length+(1+((row (kidD x (2*i))).length+(row (kidD x (2*i+1))).length))/\(kidsT x).drop (2*i)=kidD x (2*i)::kidD x (2*i+1)::(kidsT x).drop (2*(i+1)):=by
 have X:=dM r a;have Y:=fK r a;obtain⟨f,s,_⟩:=ay (l:=x.ks) (k:=i);obtain⟨M,N,c,h,t,u,v,_,A,O,P⟩:=kj r a s;have D:kidsT x=x.ks.flatMap (·.ks):=by
  obtain⟨n,Z⟩:=x;have a:n.op=12:=a;have Q:n.op≠2:=Oo
  simp only[kidsT,if_neg Q,if_pos a,Tr.ks]
 have E:∀k∈x.ks,k.ks.length=2:=λg R=>by
  obtain⟨j,K⟩:=JH R;obtain⟨S,T,e,_⟩:=kj r a K;rw[e]
  rfl
 have b:∀j,j<2 ->(kidsT x)[2*i+j]?=f.ks[j]?:=λj K=>by
  obtain⟨y,d,_⟩:=ay (l:=kidsT x) (k:=2*i+j);have F:=d;rw[D]at d;obtain⟨g,m,o⟩:=vP' x.ks E _ y d;rw[show (2*i+j)/2=i by omega,s]at m;obtain rfl:=JB m;rw[show (2*i+j)%2=j by omega]at o;rw[F,o]
 have p:=b 0 Oo;have q:=b 1 Oo;rw[c]at p q;simp only[Tr.ks,Nat.add_zero,List.getElem?_cons_zero,List.getElem?_cons_succ]at p q;have U:kidD x (2*i)=M:=by simp[kidD,p]
 have V:kidD x (2*i+1)=N:=by simp[kidD,q]
 rw[U,V];have H:aE f.n.a 0 15=true:=by
  have:aE f.n.a 0 15=true/\f.n.b=0:=by simpa[aw,h]using t
  exact this.1
 have:=dq.1 H;refine⟨f,s,u,v,c,A,h,this.1,this.2,O,P,?_,?_⟩
 ·rw[dA s,dc',JK,c]
  simp[rows,row];omega
 ·obtain⟨y,d,W⟩:=ay (aI p)
  obtain⟨z,L,I⟩:=ay (aI q);rw[p]at d;rw[q]at L;obtain rfl:=JB d;obtain rfl:=JB L;rw[W,I]
  rfl
def dy':Nat ->Tr ->Bool
 |0,t=>decide (t.n.op=4) && decide ((headT (kidD t 0)).n.op=9)
 |p+1,t=>decide (t.n.op=4) && dy' p (kidD t 1)
def gG(rc:RcF):Nat ->Tr ->List Int ->Bool
 |0,t,m=>rc t m
 |r+1,t,m=>decide (t.n.op=5) && (rc (kidD t 0) m && gG rc r (kidD t 1) (m++[if r=0 then 1 else 0]))
def Far(v:Value)(X:List Nat):Prop:=∀g,v.ownBlock=some g ->g ∉ X
def gg(n j:Nat):List Int:=(List.range n).map λi=>if i<j then (100+(i:Int))else 0
theorem I0{n j:Nat}(h:j<n):(gg n j).set j (100+(j:Int))=gg n (j+1):=by
 apply List.ext_getElem
 ·simp[gg]
 ·intro i a b
  simp only[gg,List.getElem_set,List.getElem_map,List.getElem_range]
  by_cases e:j=i
  ·subst e
   rw[if_pos rfl,if_pos Oo]
  ·rw[if_neg e]
   by_cases q:i<j
   ·rw[if_pos q,if_pos Oo]
   ·rw[if_neg q,if_neg Oo]
theorem I1{n:Nat}{pl:List Int}(h:pl.length=n):Mk pl (gg n n):=λv a=>by
 obtain⟨i,b,rfl⟩:=List.mem_map.1 a;have:=List.mem_range.1 b;rw[if_pos this];exact .inr (.inr (.inr ⟨i,Oo,rfl⟩))
def kz(x:Tr):List Tr:=(List.range x.n.b.toNat).map λi=>kidD x (2*i)
def iD(x:Tr):List Tr:=(List.range x.n.b.toNat).map λi=>kidD x (2*i+1)
def nQ(B:aq)(x:Tr)(i:Nat):Bool:=dy' ((placesM x).getD i 0).toNat (kidD x (2*i)) && gG (ec B (placesM x) 4096) (((placesM x).getD i 0).toNat+1) (kidD x (2*i+1)) (gg x.n.b.toNat x.n.b.toNat)
def kA(B:aq)(x:Tr):Nat ->Nat ->Int
 |0,_=>0
 |k+1,i=>if nQ B x i=true then kA B x k (i+1)else 18
def fD(B:aq)(x:Tr):Int:=kA B x x.n.b.toNat 0
def be(ys:List Tr)(x:Tr):Except Int Tr:=if 4096<(row (dS 4 ys x)).length then .error 9 else .ok (dS 4 ys x)
def gH(B:aq)(a:Int):List Tr:=(aP B a).params.map tr
def ji(B:aq)(a:Int):List Tr:=(aP B a).indices.map tr
def fE(B:aq)(a:Int):Except Int Tr:=(be (ji B a) (tr (aP B a).sort)).bind (be (gH B a))
def varsM(n:Nat)(fr:Int):List Tr:=(List.range n).map λk=>varX (fr+((n-1-k:Nat):Int))
def jj(B:aq)(a b:Int):List Tr:=(iw B a b).args.map tr
def te(B:aq)(a b:Int):List Tr:=(iw B a b).out.map tr
def gh(B:aq)(a b:Int):Except Int Tr:=
 (aK (.mk ⟨9,a,0⟩ []) (varsM (gH B a).length ((jj B a b).length:Int)++te B a b)).bind λt=>(be (jj B a b) t).bind (be (gH B a))
def cG(ps:List Tr)(bU:Int):Nat ->Tr ->Except Int Tr
 |0,t=>.ok t
 |i+1,t=>(bk t (aH (ps.getD i (varX 0)) i 0) bU).bind (cG ps bU i)
def iE(B:aq)(a b:Int)(ps:List Tr)(mo:Tr):Except Int Tr:=
 (aK (.mk ⟨10,a,b⟩ []) (varsM (gH B a).length ((jj B a b).length:Int)++varsM (jj B a b).length 0)).bind λmade=>
  (aK (aH mo (((gH B a).length+(jj B a b).length:Nat):Int) 0) (te B a b++[made])).bind λt=>(be (jj B a b) t).bind (cG ps 0 (gH B a).length)
theorem tf{l:List Tr}(h:∀y∈l,Ok .tm y):(l.map row).map tr=l:=by
 rw[List.map_map];have:∀y∈l,(tr∘row) y=id y:=λy a=>gW (h y a);rw[List.map_congr_left this,List.map_id]
section
variable{B:aq}
theorem GoodF.ps_eq{i:Nat}{x:bX}{s:Tr}{c d:List Tr}(hi:B.ents[i]?=some x)(h:GoodF B i x s c d):gH B (i:Int)=c/\ji B (i:Int)=d/\tr (aP B (i:Int)).sort=s:=by
 unfold gH ji;rw[qw hi,h.params,h.indices,h.sort];refine⟨tf λy a=>?_,tf λy a=>?_,gW h.fs.ok⟩
 ·obtain⟨k,b⟩:=JH a
  exact(h.fp k y b).ok
 ·obtain⟨k,b⟩:=JH a
  exact(h.fi k y b).ok
theorem GoodC.ag_eq{i k:Nat}{x:bX}(hi:B.ents[i]?=some x){e f:Nat}{c:iv}(hc:x.ctors[k]?=some c){d go:List Tr}(h:GoodC B i e f c d go):jj B (i:Int) (k:Int)=d/\te B (i:Int) (k:Int)=go/\iw B (i:Int) (k:Int)=c:=by
 have a:iw B (i:Int) (k:Int)=c:=by simp[iw,qw hi,hc]
 unfold jj te;rw[a,h.args,h.out];refine⟨tf λy b=>?_,tf λy b=>(h.fo y b).ok,rfl⟩;obtain⟨k,g⟩:=JH b;exact(h.fa k y g).ok
theorem kB{Q:Nd ->Prop}{N:Int}(a:Qk Q){ys:List Tr}{x z:Tr}(b:Ft Q (N+ys.length) x)(c:∀(i:Nat) y,ys[i]?=some y ->Ft Q (N+i) y)(h:be ys x= .ok z):Ft Q N z:=by
 unfold be at h;split at h
 ·cases h
 ·injection h with h
  subst h;exact Ft.bind a (.inl rfl) b c Oo
theorem I2(d:GoodB B){a:Int}(ha:bI B B.ents.length a=true){z:Tr}(h:fE B a= .ok z):Ft (QB B) 0 z:=by
 obtain⟨i,x,s,g,j,rfl,_,b,l,c⟩:=d.fam ha (KJ _);obtain⟨n,o,p⟩:=c.ps_eq b;unfold fE at h;rw[n,o,p]at h;cases e:be j s with
 |error v=>rw[e]at h;cases h
 |ok t=>
  rw[e]at h;have q:Ft (QB B) 0 s:=c.fs.wk λm r=>nK (Nat.le_of_lt (aI b)) r;have u:=kB (qk B) (N:=(g.length:Int)) (q.mono Oo) (λk y f=>(c.up_i d b f).mono Od) e;exact kB (qk B) (N:=0) (u.mono Oo) (λk y f=>(c.up_p d b f).mono Oo) h
theorem kC{Q:Nd ->Prop}(a:Qk Q){n:Nat}{fr:Int}(d:0<=fr)(hl:fr+n<=1000):∀y∈varsM n fr,Ft Q (fr+n) y:=λy b=>by
 obtain⟨k,c,rfl⟩:=List.mem_map.1 b;have:=List.mem_range.1 c;exact Ft.varX a Oo Oo Oo
theorem nR{Q:Nd ->Prop}{N:Int}{n:Nd}(a:aw n=true)(b:n.op=9 \/n.op=10)(c:Q n):Ft Q N (.mk n []):=
 Ft.one a Oo Oo Oo (by rcases b with h|h<;>simp[bp,h]) c λh=>Oo
theorem jS(b:GoodB B){a:Int}(ha:bI B B.ents.length a=true):0<=a/\a<=63:=by
 simp only[bI,Bool.and_eq_true,decide_eq_true_eq]at ha;have:=b.len;omega
theorem I3(n:GoodB B){a b:Int}(ha:bI B B.ents.length a=true)(A:0<=b)(hb:b<(aP B a).ctors.length){z:Tr}(h:gh B a b= .ok z):Ft (QB B) 0 z:=by
 have D:=jS n ha;obtain⟨i,x,s,f,Q,rfl,_,g,o,e⟩:=n.fam ha (KJ _);obtain⟨E,R,S⟩:=e.ps_eq g;obtain⟨k,rfl⟩:∃k:Nat,b=(k:Int):=⟨b.toNat,Oo⟩
 rw[o]at hb;obtain⟨c,v,_⟩:=ay (l:=x.ctors) (k:=k);obtain⟨j,F,m⟩:=e.ct k c v;obtain⟨H,I,T⟩:=m.ag_eq g v;have K:=e.lp;have L:=m.la;unfold gh at h;rw[E,H,I]at h;cases p:aK (.mk ⟨9,(i:Int),0⟩ []) (varsM f.length (j.length:Int)++F)with
 |error M=>rw[p]at h;cases h
 |ok t=>
  rw[p]at h;have q:Ft (QB B) ((f.length+j.length:Nat):Int) (.mk ⟨9,(i:Int),0⟩ []):=nR (by simp[aw,aE];omega) (.inl rfl) (by
   simp only[QB,bV,aT];simp[ha])
  have O:=fL (qk B) q (λy d=>by
   rcases List.mem_append.1 d with d|d
   ·exact(kC (qk B) Oo Oo y d).mono Oo
   ·exact m.up_o g e.kind d) p
  cases r:be j t with
  |error M=>rw[show (Except.ok t).bind _=(be j t).bind (be f)from rfl,r]at h;cases h
  |ok u=>
   rw[show (Except.ok t).bind _=(be j t).bind (be f)from rfl,r]at h;have P:=kB (qk B) (N:=(f.length:Int)) (O.mono Oo) (λk y d=>(m.up_a g e.kind d).mono Oo) r;exact kB (qk B) (N:=0) (P.mono Oo) (λk y d=>(e.up_p n g d).mono Oo) h
theorem xM{Q:Nd ->Prop}{N bU:Int}(d:Qk Q)(n:0<=N)(o:N<=90000)(hm:0<=bU)(f:bU<=1000){a:List Tr}(m:∀y∈a,Ft Q N y):∀(i:Nat) (t z:Tr),i<=a.length ->i<=1000 ->Ft Q (N+i+bU) t ->cG a bU i t= .ok z ->Ft Q (N+bU) z
 |0,t,z,_,_,g,h=>by
  simp only[cG,Except.ok.injEq]at h;subst h;exact g.mono Od
 |i+1,t,z,hi,q,g,h=>by
  simp only[cG]at h;obtain⟨p,c,_⟩:=ay (l:=a) (k:=i);have e:a.getD i (varX 0)=p:=by rw[List.getD_eq_getElem?_getD,c];rfl
  rw[e]at h;have r:=(m p (JQ c)).lift d (b:=(i:Int)) Oo Oo Oo;cases j:bk t (aH p i 0) bU with
  |error u=>rw[j]at h;cases h
  |ok y=>
   rw[j]at h;have s:=iy d (N:=N+i) (v:=bU) (g.mono Oo) r Oo Oo hm Oo j;exact xM d n o hm f m i y z Oo Oo s h
theorem C9(I:GoodB B){N:Int}(O:0<=N)(P:N<=90000){a b:Int}(ha:bI B B.ents.length a=true)(Q:0<=b)(hb:b<(aP B a).ctors.length){m:List Tr}(R:∀y∈m,Ft (QB B) N y)(q:m.length=(gH B a).length){mo:Tr}(r:Ft (QB B) N mo){z:Tr}(h:iE B a b m mo= .ok z):Ft (QB B) N z:=by
 have S:=jS I ha;obtain⟨i,x,s,f,qi,rfl,_,o,n,j⟩:=I.fam ha (KJ _);obtain⟨K,e2,e3⟩:=j.ps_eq o;obtain⟨k,rfl⟩:∃k:Nat,b=(k:Int):=⟨b.toNat,Oo⟩
 rw[n]at hb;obtain⟨c,L,_⟩:=ay (l:=x.ctors) (k:=k);obtain⟨g,v,p⟩:=j.ct k c L;obtain⟨T,U,e6⟩:=p.ag_eq o L;have V:=j.lp;have W:=p.la;have X:=j.lc;unfold iE at h;rw[K,T,U]at h;rw[K]at q;cases A:aK (.mk ⟨10,(i:Int),(k:Int)⟩ []) (varsM f.length (g.length:Int)++varsM g.length 0)with
 |error M=>rw[A]at h;cases h
 |ok d=>
  rw[A]at h;have D:Ft (QB B) ((f.length+g.length:Nat):Int) (.mk ⟨10,(i:Int),(k:Int)⟩ []):=nR (by simp[aw,aE];omega) (.inr rfl) (by
   simp only[QB,bV,aT];simp[ha,n];omega)
  have E:=fL (qk B) D (λy e=>by
   rcases List.mem_append.1 e with e|e
   ·exact(kC (qk B) Oo Oo y e).mono Oo
   ·exact(kC (qk B) Oo Oo y e).mono Oo) A
  have Y:=r.lift (qk B) (b:=((f.length+g.length:Nat):Int)) Oo Oo Oo;cases F:aK (aH mo ((f.length+g.length:Nat):Int) 0) (v++[d])with
  |error M=>rw[show (Except.ok d).bind _=(aK (aH mo ((f.length+g.length:Nat):Int) 0) (v++[d])).bind _ from rfl,F]at h;cases h
  |ok t=>
   rw[show (Except.ok d).bind _=(aK (aH mo ((f.length+g.length:Nat):Int) 0) (v++[d])).bind _ from rfl,F]at h;have Z:=fL (qk B) Y (λy e=>by
    rcases List.mem_append.1 e with e|e
    ·exact(p.up_o o j.kind e).mono Oo
    ·obtain rfl:y=d:=by simpa using e
     exact E.mono Oo) F
   cases H:be g t with
   |error M=>rw[show (Except.ok t).bind _=(be g t).bind (cG m 0 f.length)from rfl,H]at h;cases h
   |ok u=>
    rw[show (Except.ok t).bind _=(be g t).bind (cG m 0 f.length)from rfl,H]at h;have hu:=kB (qk B) (N:=N+f.length) (Z.mono Oo) (λk y e=>(p.up_a o j.kind e).mono Oo) H;have:=xM (qk B) (bU:=0) O P Oo Oo R f.length u z Oo Oo (hu.mono Oo) h;exact this.mono Oo
end
def VsO(C:Mem)(n0:Nat)(w:World)(v:Value)(ys:List Tr):Prop:=∃os,Own rVal 29 n0 w v os/\sM (λb o t=>(C b o t \/New n0 w b o t)/\some b≠v.ownBlock) os ys
section
variable{C:Mem}{w:World}{B:aq}
def TyP(C:Mem)(w:World)(r:Except Int Tr)(e:Ending)(w':World):Prop:=
 (match r with
  | .ok z=>∃u,e= .returned (.tuple #[u,iV 0])/\TmV (Cn C w w') z u
  | .error er=>e= .returned (.tuple #[.slice none 0 0,iV er])/\er≠0)/\Kp [] w w'
end
def bg{α β:Type}(m:Except Int (α×Nat))(k:α ->Nat ->Except Int (β×Nat)):Except Int (β×Nat):=match m with
 | .error e=>.error e
 | .ok q=>k q.1 q.2
def cY{α:Type}(m:Except Int α)(n:Nat):Except Int (α×Nat):=match m with
 | .error e=>.error e
 | .ok x=>.ok (x,n)
def dH(B:aq)(cx:Ctx)(t:Tr)(n:Nat):Except Int (Tr×Nat):=if 256<cx.length then .error 5 else dC B cx t (n:Int)
def fR(B:aq)(cx:Ctx)(x y:Tr)(u:Bool)(n:Nat):Except Int (Bool×Nat):=if 256<cx.length then .error 5 else kw B cx x y (n:Int) u
abbrev RcJ:=Ctx ->Tr ->Nat ->Except Int (Tr×Nat)
def dV(kind:Int)(l:List Atom):Tr:=.mk ⟨2,kind,(l.length:Int)⟩ (l.map λa=>.mk ⟨3,a.var,a.add⟩ [])
def dd(B:aq)(rc:RcJ)(cx:Ctx)(t:Tr)(n:Nat):Except Int ((Int×List Atom)×Nat):=
 bg (rc cx t n) λty n=>bg (dH B cx ty n) λz n=>if (headT z).n.op≠2 \/0<(argsT z).length then .error 11 else .ok (((headT z).n.a,bK (headT z)),n)
def eQ(B:aq)(rc:RcJ)(cx:Ctx)(t ty:Tr)(n:Nat):Except Int (Unit×Nat):=
 bg (rc cx t n) λz n=>bg (fR B cx z ty true n) λb n=>if b=true then .ok ((),n)else .error 13
def iZ(B:aq)(a:Int)(ps:List Tr)(i ni:Nat):Except Int Tr:=
 if i<ni then cG ps (i:Int) ps.length ((ji B a).getD i (varX 0))else aK (.mk ⟨9,a,0⟩ []) (ps.map (λp=>aH p ni 0)++varsM ni 0)
def ie(B:aq)(a:Int)(ps:List Tr)(ni:Nat):Nat ->Nat ->Ctx ->Tr ->Nat ->Except Int (Int×Nat)
 |0,_,cx,m,n=>bg (dH B cx m n) λf n=>if (headT f).n.op≠2 \/0<(argsT f).length then .error 16 else .ok ((headT f).n.a,n)
 |k+1,i,cx,m,n=>bg (dH B cx m n) λf n=>if (headT f).n.op≠4 \/0<(argsT f).length then .error 16 else
   bg (cY (iZ B a ps i ni) n) λw n=>bg (fR B cx (kidD (headT f) 0) w false n) λb n=>if b=true then ie B a ps ni k (i+1) (cx++[(kidD (headT f) 0,none)]) (kidD (headT f) 1) n else .error 16
def oV(B:aq)(cx:Ctx)(a:Int)(ps:List Tr)(m:Tr)(n:Nat):Except Int (Int×Nat):=ie B a ps (ji B a).length ((ji B a).length+1) 0 cx m n
def lF(B:aq)(rc:RcJ):Ctx ->List Tr ->Nat ->Except Int (Bool×Nat)
 |_,[],n=>.ok (true,n)
 |cx,a::r,n=>bg (dd B rc cx a n) λq n=>if q.1≠0 then .ok (false,n)else lF B rc (cx++[(a,none)]) r n
def cJ(ps:List Tr):Ctx:=ps.map λp=>(p,none)
def jk(B:aq)(rc:RcJ)(a:Int)(n:Nat):Except Int (Bool×Nat):=
 if (aP B a).ctors.length=0 then .ok (true,n)else if 1<(aP B a).ctors.length then .ok (false,n)else lF B rc (cJ (gH B a)) (jj B a 0) n
def kD(B:aq)(rc:RcJ)(cx:Ctx)(a:Int)(ps:List Tr)(mo:Tr):Nat ->List Tr ->Nat ->Except Int (Unit×Nat)
 |_,[],n=>.ok ((),n)
 |k,b::r,n=>bg (cY (iE B a (k:Int) ps mo) n) λty n=>bg (eQ B rc cx b ty n) λ_ n=>kD B rc cx a ps mo (k+1) r n
def jT(B:aq)(rc:RcJ)(cx:Ctx)(nd:Nd)(ks:List Tr)(n:Nat):Except Int (Tr×Nat):=
 let np:=(gH B nd.a).length
 let mo:=ks.getD 0 (varX 0)
 let sc:=ks.getD 1 (varX 0)
 bg (rc cx sc n) λty n=>bg (dH B cx ty n) λz n=>
  if (headT z).n.op≠9 \/(headT z).n.a≠nd.a \/(argsT z).length≠np+(ji B nd.a).length then .error 14
  else if (ks.drop 2).length≠(aP B nd.a).ctors.length then .error 15
  else bg (rc cx mo n) λmt n=>bg (oV B cx nd.a ((argsT z).take np) mt n) λkind n=>
   bg (if (tr (aP B nd.a).sort).n.a=0/\kind=1 then jk B rc nd.a n else .ok (true,n)) λs n=>if s=false then .error 17 else
    bg (kD B rc cx nd.a ((argsT z).take np) mo 0 (ks.drop 2) n) λ_ n=>cY (aK mo ((argsT z).drop np++[sc])) n
def mH(B:aq)(rc:RcJ)(cx:Ctx)(t:Tr):Nat ->Nat ->Nat ->Except Int (Unit×Nat)
 |0,_,n=>.ok ((),n)
 |k+1,i,n=>bg (dd B rc cx (kidD t (2*i)) n) λ_ n=>mH B rc cx t k (i+1) n
def lG(B:aq)(rc:RcJ)(cx:Ctx)(t:Tr)(nb:Nat):Nat ->Nat ->Nat ->Except Int (Unit×Nat)
 |0,_,n=>.ok ((),n)
 |k+1,i,n=>bg (eQ B rc cx (kidD t (2*i+1)) (aH (kidD t (2*i)) nb 0) n) λ_ n=>lG B rc cx t nb k (i+1) n
def kE(B:aq)(rc:RcJ)(cx:Ctx)(t:Tr)(n:Nat):Except Int (Tr×Nat):=
 bg (mH B rc cx t t.n.b.toNat 0 n) λ_ n=>if fD B t≠0 then .error (fD B t)else
  bg (lG B rc (cx++bi t) t t.n.b.toNat t.n.b.toNat 0 n) λ_ n=>.ok (kidD t (2*t.n.a.toNat),n)
def mI(t:Tr)(n:Nat):Except Int (Tr×Nat):=if di (bK t) 1≠0 then .error (di (bK t) 1)else .ok (dV 1 (fc (bK t) 1),n)
def mJ(B:aq)(rc:RcJ)(cx:Ctx)(t:Tr)(n:Nat):Except Int (Tr×Nat):=
 bg (dd B rc cx (kidD t 0) n) λp n=>bg (dd B rc (cx++[(kidD t 0,none)]) (kidD t 1) n) λq n=>
  if cB p.2 q.2≠0 then .error (cB p.2 q.2)else .ok (dV q.1 (dh p.2 q.2),n)
def mL(B:aq)(rc:RcJ)(cx:Ctx)(t:Tr)(n:Nat):Except Int (Tr×Nat):=
 bg (dd B rc cx (kidD t 0) n) λ_ n=>bg (rc (cx++[(kidD t 0,none)]) (kidD t 1) n) λz n=>cY (be [kidD t 0] z) n
def lH(B:aq)(rc:RcJ)(cx:Ctx)(t:Tr)(n:Nat):Except Int (Tr×Nat):=
 bg (rc cx (kidD t 0) n) λty n=>bg (dH B cx ty n) λz n=>if (headT z).n.op≠4 \/0<(argsT z).length then .error 12 else
  bg (eQ B rc cx (kidD t 1) (kidD (headT z) 0) n) λ_ n=>cY (bk (kidD (headT z) 1) (kidD t 1) 0) n
def mM(B:aq)(rc:RcJ)(cx:Ctx)(t:Tr)(n:Nat):Except Int (Tr×Nat):=
 bg (dd B rc cx (kidD t 0) n) λ_ n=>bg (eQ B rc cx (kidD t 1) (kidD t 0) n) λ_ n=>
  bg (rc (cx++[(kidD t 0,some (kidD t 1))]) (kidD t 2) n) λz n=>cY (bk z (kidD t 1) 0) n
def ig(B:aq)(rc:RcJ)(cx:Ctx)(t:Tr)(n:Nat):Except Int (Tr×Nat):=
 if t.n.op=1 then .ok (aH (eZ cx t.n.a).1 (t.n.a+1) 0,n)
 else if t.n.op=2 then mI t n
 else if t.n.op=8 then .ok (tr (aP B t.n.a).type,n)
 else if t.n.op=9 then cY (fE B t.n.a) n
 else if t.n.op=10 then cY (gh B t.n.a t.n.b) n
 else if t.n.op=4 then mJ B rc cx t n
 else if t.n.op=5 then mL B rc cx t n
 else if t.n.op=6 then lH B rc cx t n
 else if t.n.op=7 then mM B rc cx t n
 else if t.n.op=11 then jT B rc cx t.n (kidsT t) n
 else kE B rc cx t n
def dD(B:aq):Nat ->RcJ
 |0,_,_,_=>.error 10
 |g+1,cx,t,n=>ig B (dD B g) cx t n
structure cv(B:aq)(rc:RcJ):Prop where
 ft:∀cx t n q,CxOk B cx ->cx.length<=260 ->Ft (QB B) (cx.length:Int) t ->rc cx t n= .ok q ->Ft (QB B) (cx.length:Int) q.1
 le:∀cx t n q,rc cx t n= .ok q ->q.2<=n
 er:∀cx t n e,rc cx t n= .error e ->e≠0
theorem bF{α β:Type}{m:Except Int (α×Nat)}{k:α ->Nat ->Except Int (β×Nat)}{q:β×Nat}(h:bg m k= .ok q):∃p,m= .ok p/\k p.1 p.2= .ok q:=by
 unfold bg at h;split at h
 ·cases h
 ·rename_i p
  exact⟨p,rfl,h⟩
theorem bdJ_er{α β:Type}{m:Except Int (α×Nat)}{k:α ->Nat ->Except Int (β×Nat)}{e:Int}(h:bg m k= .error e):m= .error e \/∃p,m= .ok p/\k p.1 p.2= .error e:=by
 unfold bg at h;split at h
 ·injection h with h
  subst h;exact .inl rfl
 ·rename_i p
  exact .inr ⟨p,rfl,h⟩
theorem iF{α:Type}{m:Except Int α}{n:Nat}{q:α×Nat}(h:cY m n= .ok q):m= .ok q.1/\q.2=n:=by
 unfold cY at h;split at h
 ·cases h
 ·injection h with h
  subst h;exact⟨rfl,rfl⟩
theorem mN{α:Type}{m:Except Int α}{n:Nat}{e:Int}(h:cY m n= .error e):m= .error e:=by
 unfold cY at h;split at h
 ·injection h with h
  subst h
  rfl
 ·cases h
section
variable{B:aq}{rc:RcJ}{cx:Ctx}
theorem oW{t:Tr}{n:Nat}{q:Tr×Nat}(h:dH B cx t n= .ok q):cx.length<=256/\dC B cx t (n:Int)= .ok q/\q.2<=n:=by
 unfold dH at h;split at h
 ·cases h
 ·exact⟨Oo,h,qB h⟩
theorem oX{x y:Tr}{u:Bool}{n:Nat}{q:Bool×Nat}(h:fR B cx x y u n= .ok q):cx.length<=256/\q.2<=n:=by
 unfold fR at h;split at h
 ·cases h
 ·refine⟨Oo,?_⟩
  unfold kw at h;have:=ku B _ _ _ _ _ _ _ h;unfold bE at this;omega
theorem iG(b:GoodB B)(a:CxOk B cx){x:Tr}{n:Nat}{q:Tr×Nat}(c:Ft (QB B) (cx.length:Int) x)(h:dH B cx x n= .ok q):cx.length<=256/\q.2<=n/\Ft (QB B) (cx.length:Int) q.1:=by
 obtain⟨d,e,f⟩:=oW h;exact⟨d,f,(tc b a Oo c e).1⟩
theorem gj(d:GoodB B)(hr:cv B rc){t:Tr}{n:Nat}{q:(Int×List Atom)×Nat}(h:dd B rc cx t n= .ok q):cx.length<=256/\q.2<=n/\(CxOk B cx ->Ft (QB B) (cx.length:Int) t ->∃s,Ft (QB B) (cx.length:Int) s/\s.n.op=2/\q.1=(s.n.a,bK s)):=by
 unfold dd at h;obtain⟨p,b,h⟩:=bF h;obtain⟨z,c,h⟩:=bF h;obtain⟨e,k,f⟩:=oW c;split at h
 ·cases h
 ·rename_i g
  injection h with h
  subst h;refine⟨e,KQ f (hr.le _ _ _ _ b),λa i=>⟨headT z.1,?_,Oo,rfl⟩⟩;have j:=hr.ft cx t n p a Oo i b;exact(iG d a j c).2.2.head
theorem kF(hr:cv B rc){t ty:Tr}{n:Nat}{q:Unit×Nat}(h:eQ B rc cx t ty n= .ok q):cx.length<=256/\q.2<=n:=by
 unfold eQ at h;obtain⟨p,a,h⟩:=bF h;obtain⟨z,b,h⟩:=bF h;obtain⟨c,d⟩:=oX b;split at h
 ·injection h with h
  subst h;exact⟨c,KQ d (hr.le _ _ _ _ a)⟩
 ·cases h
structure jl(vars:Int)(l:List Atom):Prop where
 lo:1<=l.length
 hi:l.length<=4
 up:(l.map Atom.var).Pairwise (· < ·)
 at_:∀x∈l,0<=x.var/\x.var<=16/\x.var<=vars/\0<=x.add/\x.add<=1000
theorem qC{x:Tr}{N:Int}(i:Ft (QB B) N x)(h2:x.n.op=2):jl B.vars (bK x):=by
 obtain⟨u,j,m,f⟩:=C4 i.ok h2;have H:=i.ok.pl;have p:(x.n.a=0 \/x.n.a=1)/\aE x.n.b 1 4=true:=by simpa[aw,h2]using H
 have I:=dq.1 p.2;have q:=i.al;have e:=i.ok.2;obtain⟨n,K⟩:=x;have h2:n.op=2:=h2;simp only[Tr.ks,Tr.n]at m j f I;simp only[gE',if_pos h2,Bool.and_eq_true]at e;refine⟨by simp[bK,Tr.ks];omega,by simp[bK,Tr.ks];omega,?_,?_⟩
 ·have:∀(l:List Tr) (c:Int),qX' c l=true ->(∀y∈l,c<y.n.a)/\(l.map λy=>y.n.a).Pairwise (· < ·):=by
   intro l
   induction l with
   |nil=>intro c _;exact⟨(λy d=>by cases d),List.Pairwise.nil⟩
   |cons z l L=>
    intro c h;simp only[qX',Bool.and_eq_true,decide_eq_true_eq]at h;obtain⟨v,M⟩:=L z.n.a h.2;refine⟨λy d=>?_,?_⟩
    ·rcases List.mem_cons.1 d with rfl|d
     ·exact h.1
     ·have:=v y d;omega
    ·rw[List.map_cons,List.pairwise_cons]
     refine⟨λy d=>?_,M⟩;obtain⟨O,r,rfl⟩:=List.mem_map.1 d;exact v O r
  have:=(this K (-1) e.1).2
  simpa[bK,Tr.ks,List.map_map,Function.comp_def]using this
 ·intro y d
  obtain⟨k,A,rfl⟩:=List.mem_map.1 d;obtain⟨t,P⟩:=f k A;have Q:=wV (kh.1 q).2 A;obtain⟨⟨o,a,b⟩,s⟩:=k;have D:=(kh.1 Q).1;have t:o=3:=t;subst t;have g:aE a 0 16=true/\aE b 0 1000=true:=by simpa[aw,Tr.n]using P
  have E:=dq.1 g.1;have F:=dq.1 g.2;simp[QB,bV,aT]at D;exact⟨E.1,E.2,D,F.1,F.2⟩
theorem Da{N:Int}{kind:Int}(y:kind=0 \/kind=1){l:List Atom}(h:jl B.vars l):Ft (QB B) N (dV kind l):=by
 have x:(dV kind l).ks.length=l.length:=by simp[dV,Tr.ks]
 have g:row (dV kind l)=⟨2,kind,(l.length:Int)⟩::l.map λa=>⟨3,a.var,a.add⟩:=by
  unfold dV;simp only[row]
  congr 1
  induction l with
  |nil=>rfl
  |cons a l e=>
   simp only[List.map_cons,rows,row];have:∀(l:List Atom),rows (l.map λa=>(.mk ⟨3,a.var,a.add⟩ []:Tr))=l.map λa=>⟨3,a.var,a.add⟩:=by
    intro l
    induction l with
    |nil=>rfl
    |cons b l e=>simp[rows,row,e]
   rw[this]
   rfl
 have s:aw ⟨2,kind,(l.length:Int)⟩=true:=by
  have i:=h.lo;have j:=h.hi;simp only[aw];rw[if_neg OO,if_pos trivial];simp only[Bool.and_eq_true,Bool.or_eq_true,decide_eq_true_eq,dq];exact⟨y,Oo,Oo⟩
 have t:∀a∈l,aw ⟨3,a.var,a.add⟩=true:=λa f=>by
  have:=h.at_ a f;simp only[aw];rw[if_neg OO,if_neg OO,if_pos trivial];simp only[Bool.and_eq_true,dq];omega
 refine⟨⟨⟨?_,?_⟩,?_⟩,?_,?_,?_⟩
 ·simp only[cnt,s]
  rw[if_pos ⟨trivial,OO,OO⟩];simp
 ·have:∀(l:List Atom) (k:Nat),(∀a∈l,aw ⟨3,a.var,a.add⟩=true) ->okL cnt nx (l.map λa=>(.mk ⟨3,a.var,a.add⟩ []:Tr)) ⟨2,kind,(l.length:Int)⟩ .tm k:=by
   have u:∀(n:Nd),n.op=2 ->∀(l:List Atom) (k:Nat),(∀a∈l,aw ⟨3,a.var,a.add⟩=true) ->okL cnt nx (l.map λa=>(.mk ⟨3,a.var,a.add⟩ []:Tr)) n .tm k:=by
    intro n z l
    induction l with
    |nil=>intro k _;trivial
    |cons b l e=>
     intro k o;refine⟨⟨?_,trivial⟩,e _ λa f=>o a (by simp[f])⟩;have v:nx Md.tm n k= .am:=by simp[nx,z]
     rw[v];simp[cnt,o b Od]
   intro A k o;exact u _ rfl A k o
  exact this l 0 t
 ·have:∀(l:List Atom) (c:Int),(∀a∈l,c<a.var) ->(l.map Atom.var).Pairwise (· < ·) ->qX' c (l.map λa=>(.mk ⟨3,a.var,a.add⟩ []:Tr))=true:=by
   intro l
   induction l with
   |nil=>intro c _ _;rfl
   |cons b l e=>
    intro c i j;rw[List.map_cons,List.pairwise_cons]at j;simp only[List.map_cons,qX',Bool.and_eq_true,Tr.n];exact⟨decide_eq_true (i b Od),e b.var (λa f=>j.1 a.var (List.mem_map_of_mem f)) j.2⟩
  have i:=this l (-1) (λa f=>by have:=h.at_ a f;omega) h.up;have D:∀(l:List Atom),eN' (l.map λa=>(.mk ⟨3,a.var,a.add⟩ []:Tr))=true:=by
   intro l
   induction l with
   |nil=>rfl
   |cons b l e=>simp[eN',gE',e]
  simp[dV,gE',i,D]
 ·rw[g]
  have:=h.hi;simp;omega
 ·intro q p
  exfalso;simp only[dV,varsT]at p;rw[if_neg OO]at p;have:∀(l:List Atom) (n:Nd) (E k d:Int),varsK (l.map λa=>(.mk ⟨3,a.var,a.add⟩ []:Tr)) n E k d=[]:=by
   intro l
   induction l with
   |nil=>intros;rfl
   |cons b l e=>intros;simp[varsK,varsT,e]
  rw[this]at p;cases p
 ·intro m r
  rw[g]at r;rcases List.mem_cons.1 r with rfl|r
  ·simp[QB,bV,aT]
  ·obtain⟨a,f,rfl⟩:=List.mem_map.1 r
   have:=h.at_ a f;simp[QB,bV,aT];omega
theorem xN{vars:Int}{l:List Atom}(h:jl vars l)(he:di l 1=0):jl vars (fc l 1):=by
 have d:fc l 1=gC l 1:=by unfold fc;rw[if_pos he]
 rw[d];have c:(gC l 1).map Atom.var=l.map Atom.var:=by simp[gC,List.map_map,Function.comp_def]
 have a:∀x∈l,x.add+1<=1000:=by
  unfold di at he;split at he
  ·cases he
  ·rw[if_neg OO]at he
   split at he
   ·cases he
   ·rename_i g
    intro x b;have:¬ (l.any λx=>decide (1000<x.add+1))=true:=g;rw[List.any_eq_true]at this
    by_cases q:1000<x.add+1
    ·exact absurd ⟨x,b,by simpa using q⟩ this
    ·omega
 refine⟨by simpa[gC]using h.lo,by simpa[gC]using h.hi,by rw[c];exact h.up,λy e=>?_⟩;obtain⟨x,b,rfl⟩:=List.mem_map.1 e;have:=h.at_ x b;have:=a x b;simp only;omega
theorem xO{vars:Int}{a b:List Atom}(ha:jl vars a)(hb:jl vars b)(he:cB a b=0):jl vars (dh a b):=by
 have o:dh a b=maxL a b:=by unfold dh;rw[if_pos he]
 rw[o];have d:=xE (mapF (a++b)) (List.range 17);have d:(maxL a b).map Atom.var=gB (mapF (a++b)) (List.range 17):=d;have g:(maxL a b).length<=4:=by
  unfold cB at he;split at he
  ·cases he
  ·split at he
   ·cases he
   ·omega
 have e:∀x v,mapF (a++b) x=some v ->∃y,(y∈a \/y∈b)/\y.var=x/\y.add=v:=λx v h=>by
  obtain⟨y,c,k,m⟩:=s8 h;exact⟨y,List.mem_append.1 c,k,m⟩
 have i:∀y∈maxL a b,mapF (a++b) y.var=some y.add:=λy c=>by
  unfold maxL at c;obtain⟨v,_,f⟩:=List.mem_filterMap.1 c;cases h:mapF (a++b) v with
  |none=>rw[h]at f;cases f
  |some n=>
   rw[h]at f;obtain rfl:=JB f;exact h
 refine⟨?_,g,by rw[d];exact xF _ _,λy c=>?_⟩
 ·obtain⟨y,c⟩:∃y,y∈a:=by
   cases a with
   |nil=>have:=ha.lo;simp at this
   |cons y r=>exact⟨y,Od⟩
  have p:=ha.at_ y c;obtain⟨v,f,_⟩:=IN (l:=a++b) (y:=y) (by simp[c]);have:(⟨y.var,v⟩:Atom)∈maxL a b:=by
   unfold maxL;refine List.mem_filterMap.2 ⟨y.var.toNat,List.mem_range.2 Oo,?_⟩;rw[show ((y.var.toNat:Nat):Int)=y.var by omega,f]
   rfl
  have:=List.length_pos_of_mem this;omega
 ·obtain⟨z,j,k,m⟩:=e _ _ (i y c)
  rw[<- k,<- m];rcases j with j|j
  ·exact ha.at_ z j
  ·exact hb.at_ z j
end
theorem tm_ops{x:Tr}(h:Ok .tm x):x.n.op=1 \/x.n.op=2 \/x.n.op=4 \/x.n.op=5 \/x.n.op=6 \/x.n.op=7 \/x.n.op=8 \/x.n.op=9 \/x.n.op=10 \/x.n.op=11 \/x.n.op=12:=by
 obtain⟨n,c⟩:=x;obtain⟨a,d,b,_⟩:=eb h.kids.1;simp only[Tr.n];simp only[aw]at a
 repeat' split at a
 all_goals first|omega|(exact absurd a OO)
theorem qD{Q:Nd ->Prop}{N:Int}{x:Tr}(h:Ft Q N x)(a:x.n.op=11):((kidsT x).length:Int)=2+x.n.b/\0<=x.n.b/\x.n.b<=16/\∀y∈kidsT x,Ft Q N y:=by
 obtain⟨b,c,d,e⟩:=gd h.ok a;exact⟨by rw[b];exact c,d,e,xK h Oo⟩
theorem I4{x:Tr}(h:Ok .tm x)(h2:x.n.op=2):x.n.a=0 \/x.n.a=1:=by
 have a:=h.pl;have:(x.n.a=0 \/x.n.a=1)/\aE x.n.b 1 4=true:=by simpa[aw,h2]using a
 exact this.1
section
variable{B:aq}{rc:RcJ}{cx:Ctx}
theorem jm(d:GoodB B)(hr:cv B rc)(a:CxOk B cx){t:Tr}(e:Ft (QB B) (cx.length:Int) t){n:Nat}{q:(Int×List Atom)×Nat}(h:dd B rc cx t n= .ok q):cx.length<=256/\(q.1.1=0 \/q.1.1=1)/\jl B.vars q.1.2:=by
 obtain⟨f,j,g⟩:=gj d hr h;obtain⟨s,b,c,i⟩:=g a e;rw[i];exact⟨f,I4 b.ok c,qC b c⟩
theorem bL{q:Tr×Option Tr}:(cx++[q]).length=cx.length+1:=Od
theorem jU{ys:List Tr}{x:Tr}{e:Int}(h:be ys x= .error e):e=9:=by
 unfold be at h;split at h
 ·injection h with h;exact h.symm
 ·cases h
theorem ebind_er{α β:Type}{m:Except Int α}{k:α ->Except Int β}{e:Int}(h:m.bind k= .error e):m= .error e \/∃x,k x= .error e:=by
 cases m with
 |error a=>
  have h:Except.error a=Except.error e:=h;injection h with h
  exact .inl (by rw[h])
 |ok a=>exact .inr ⟨a,h⟩
theorem xP{a:List Tr}{bU:Int}{e:Int}:∀(i:Nat) (t:Tr),cG a bU i t= .error e ->e=9
 |0,t,h=>by cases h
 |i+1,t,h=>by
  rcases ebind_er h with h|⟨x,h⟩
  ·exact iB h
  ·exact xP i x h
theorem xQ{a b:Int}{c:List Tr}{mo:Tr}{e:Int}(h:iE B a b c mo= .error e):e=9:=by
 rcases ebind_er h with h|⟨x,h⟩
 ·exact hO h
 rcases ebind_er h with h|⟨y,h⟩
 ·exact hO h
 rcases ebind_er h with h|⟨y,h⟩
 ·exact jU h
 ·exact xP _ _ h
theorem xR{a:Int}{e:Int}(h:fE B a= .error e):e=9:=by
 rcases ebind_er h with h|⟨x,h⟩
 ·exact jU h
 ·exact jU h
theorem xS{a b:Int}{e:Int}(h:gh B a b= .error e):e=9:=by
 rcases ebind_er h with h|⟨x,h⟩
 ·exact hO h
 rcases ebind_er h with h|⟨y,h⟩
 ·exact jU h
 ·exact jU h
theorem I5{a:Int}{b:List Tr}{i c:Nat}{e:Int}(h:iZ B a b i c= .error e):e=9:=by
 unfold iZ at h;split at h
 ·exact xP _ _ h
 ·exact hO h
theorem andE_er{m:Except Int (Bool×Nat)}{k:Nat ->Except Int (Bool×Nat)}{e:Int}(h:fP m k= .error e):m= .error e \/∃n,k n= .error e:=by
 unfold fP at h;split at h
 ·injection h with h
  subst h;exact .inl rfl
 ·rename_i q
  split at h
  ·exact .inr ⟨_,h⟩
  ·cases h
abbrev tg(rc:RcC):Prop:=∀cx x y u n e,rc cx x y u n= .error e ->e≠0
theorem xT{rc:RcC}(hr:tg rc){e:Int}:∀(xs ys:List Tr) (n:Nat),cX rc cx xs ys n= .error e ->e≠0
 |x::r,y::s,n,h=>by
  rcases andE_er h with h|⟨m,h⟩
  ·exact hr _ _ _ _ _ _ h
  ·exact xT hr r s _ h
 |[],ys,n,h=>by simp[cX]at h
 |x::r,[],n,h=>by simp[cX]at h
theorem Db{rc:RcC}(hr:tg rc){c:Ctx}{e:Int}:∀(xs ys:List Tr) (n:Nat),dN rc cx c xs ys n= .error e ->e≠0
 |x::a::r,y::b::s,n,h=>by
  rcases andE_er h with h|⟨m,h⟩
  ·exact hr _ _ _ _ _ _ h
  rcases andE_er h with h|⟨m,h⟩
  ·exact hr _ _ _ _ _ _ h
  ·exact Db hr r s _ h
 |[],ys,n,h=>by simp[dN]at h
 |[x],ys,n,h=>by simp[dN]at h
 |x::a::r,[],n,h=>by simp[dN]at h
 |x::a::r,[y],n,h=>by simp[dN]at h
theorem I6{rc:RcC}(hr:tg rc){f g:Tr}{u:Bool}{n:Nat}{e:Int}(h:iC B rc cx f g u n= .error e):e≠0:=by
 unfold iC at h;split at h
 ·cases h
 split at h
 ·rcases andE_er h with h|⟨m,h⟩
  ·exact hr _ _ _ _ _ _ h
  ·exact hr _ _ _ _ _ _ h
 split at h
 ·rcases andE_er h with h|⟨m,h⟩
  ·exact hr _ _ _ _ _ _ h
  ·exact hr _ _ _ _ _ _ h
 split at h
 ·split at h
  ·unfold lD at h
   split at h
   ·exact Db hr _ _ _ h
   ·cases h
  ·cases h
 split at h
 ·exact xT hr _ _ _ h
 ·cases h
theorem qE{x:Tr}{f:Int}{e:Int}(h:dC B cx x f= .error e):e≠0:=by
 have:=whnf_er _ _ _ _ _ h;omega
theorem qF(B:aq):∀(g:Nat),tg (cT B g)
 |0,cx,x,y,u,n,e,h=>by
  simp only[cT]at h;injection h with h
  omega
 |g+1,cx,x,y,u,n,e,h=>by
  simp only[cT]at h;split at h
  ·injection h with h
   omega
  split at h
  ·cases h
  split at h
  ·injection h with h
   omega
  split at h
  ·rename_i er a
   injection h with h
   subst h;exact qE a
  split at h
  ·rename_i er a
   injection h with h
   subst h;exact qE a
  ·unfold mF at h
   split at h
   ·cases h
   rcases andE_er h with h|⟨m,h⟩
   ·exact I6 (qF B g) h
   ·exact xT (qF B g) _ _ _ h
theorem kG{t:Tr}{n:Nat}{e:Int}(h:dH B cx t n= .error e):e≠0:=by
 unfold dH at h;split at h
 ·injection h with h
  omega
 ·exact qE h
theorem qG{x y:Tr}{u:Bool}{n:Nat}{e:Int}(h:fR B cx x y u n= .error e):e≠0:=by
 unfold fR at h;split at h
 ·injection h with h
  omega
 ·exact qF B _ _ _ _ _ _ _ h
theorem jn(hr:cv B rc){t:Tr}{n:Nat}{e:Int}(h:dd B rc cx t n= .error e):e≠0:=by
 rcases bdJ_er h with h|⟨p,_,h⟩
 ·exact hr.er _ _ _ _ h
 rcases bdJ_er h with h|⟨p,_,h⟩
 ·exact kG h
 split at h
 ·injection h with h
  omega
 ·cases h
theorem mO(hr:cv B rc){t ty:Tr}{n:Nat}{e:Int}(h:eQ B rc cx t ty n= .error e):e≠0:=by
 rcases bdJ_er h with h|⟨p,_,h⟩
 ·exact hr.er _ _ _ _ h
 rcases bdJ_er h with h|⟨p,_,h⟩
 ·exact qG h
 split at h
 ·cases h
 ·injection h with h
  omega
theorem Dc{a:Int}{b:List Tr}{c:Nat}{e:Int}:∀(k i:Nat) (cx:Ctx) (m:Tr) (n:Nat),ie B a b c k i cx m n= .error e ->e≠0
 |0,i,cx,m,n,h=>by
  rcases bdJ_er h with h|⟨p,_,h⟩
  ·exact kG h
  split at h
  ·injection h with h
   omega
  ·cases h
 |k+1,i,cx,m,n,h=>by
  rcases bdJ_er h with h|⟨p,_,h⟩
  ·exact kG h
  split at h
  ·injection h with h
   omega
  rcases bdJ_er h with h|⟨p,_,h⟩
  ·have:=I5 (mN h)
   omega
  rcases bdJ_er h with h|⟨p,_,h⟩
  ·exact qG h
  split at h
  ·exact Dc k _ _ _ _ h
  ·injection h with h
   omega
theorem xV{a:Int}{b:List Tr}{c:Nat}{q:Int×Nat}:∀(k i:Nat) (cx:Ctx) (m:Tr) (n:Nat),ie B a b c k i cx m n= .ok q ->q.2<=n
 |0,i,cx,m,n,h=>by
  obtain⟨p,h1,h⟩:=bF h;have:=(oW h1).2.2;split at h
  ·cases h
  ·injection h with h
   subst h;exact this
 |k+1,i,cx,m,n,h=>by
  obtain⟨p,h1,h⟩:=bF h;have f:=(oW h1).2.2;split at h
  ·cases h
  obtain⟨g,d,h⟩:=bF h;have j:=(iF d).2;obtain⟨l,e,h⟩:=bF h;have o:=(oX e).2;split at h
  ·have:=xV k _ _ _ _ h
   omega
  ·cases h
theorem Dd(hr:cv B rc){e:Int}:∀(l:List Tr) (cx:Ctx) (n:Nat),lF B rc cx l n= .error e ->e≠0
 |[],cx,n,h=>by cases h
 |a::r,cx,n,h=>by
  rcases bdJ_er h with h|⟨p,_,h⟩
  ·exact jn hr h
  split at h
  ·cases h
  ·exact Dd hr r _ _ h
theorem De(b:GoodB B)(hr:cv B rc){q:Bool×Nat}:∀(l:List Tr) (cx:Ctx) (n:Nat),lF B rc cx l n= .ok q ->q.2<=n
 |[],cx,n,h=>by
  injection h with h
  subst h;exact KJ _
 |a::r,cx,n,h=>by
  obtain⟨p,h1,h⟩:=bF h;have c:=(gj b hr h1).2.1;split at h
  ·injection h with h
   subst h;exact c
  ·have:=De b hr r _ _ h
   omega
theorem Df(hr:cv B rc){a:Int}{n:Nat}{e:Int}(h:jk B rc a n= .error e):e≠0:=by
 unfold jk at h;split at h
 ·cases h
 split at h
 ·cases h
 ·exact Dd hr _ _ _ h
theorem xW(b:GoodB B)(hr:cv B rc){a:Int}{n:Nat}{q:Bool×Nat}(h:jk B rc a n= .ok q):q.2<=n:=by
 unfold jk at h;split at h
 ·injection h with h
  subst h;exact KJ _
 split at h
 ·injection h with h
  subst h;exact KJ _
 ·exact De b hr _ _ _ h
theorem Dg(hr:cv B rc){a:Int}{c:List Tr}{mo:Tr}{e:Int}:∀(l:List Tr) (k n:Nat),kD B rc cx a c mo k l n= .error e ->e≠0
 |[],k,n,h=>by cases h
 |b::r,k,n,h=>by
  rcases bdJ_er h with h|⟨p,_,h⟩
  ·have:=xQ (mN h)
   omega
  rcases bdJ_er h with h|⟨p,_,h⟩
  ·exact mO hr h
  ·exact Dg hr r _ _ h
theorem Dh(hr:cv B rc){a:Int}{c:List Tr}{mo:Tr}{q:Unit×Nat}:∀(l:List Tr) (k n:Nat),kD B rc cx a c mo k l n= .ok q ->q.2<=n
 |[],k,n,h=>by
  injection h with h
  subst h;exact KJ _
 |b::r,k,n,h=>by
  obtain⟨p,h1,h⟩:=bF h;have e:=(iF h1).2;obtain⟨f,d,h⟩:=bF h;have g:=(kF hr d).2;have:=Dh hr r _ _ h;omega
theorem Di(hr:cv B rc){t:Tr}{e:Int}:∀(k i n:Nat),mH B rc cx t k i n= .error e ->e≠0
 |0,i,n,h=>by cases h
 |k+1,i,n,h=>by
  rcases bdJ_er h with h|⟨p,_,h⟩
  ·exact jn hr h
  ·exact Di hr k _ _ h
theorem Dj(a:GoodB B)(hr:cv B rc){t:Tr}{q:Unit×Nat}:∀(k i n:Nat),mH B rc cx t k i n= .ok q ->q.2<=n/\(0<k ->cx.length<=256)
 |0,i,n,h=>by
  injection h with h
  subst h;exact⟨KJ _,λh=>Oo⟩
 |k+1,i,n,h=>by
  obtain⟨p,h1,h⟩:=bF h;have b:=gj a hr h1;have:=Dj a hr k _ _ h;exact⟨Oo,λ_=>b.1⟩
theorem Dk(hr:cv B rc){t:Tr}{nb:Nat}{e:Int}:∀(k i n:Nat),lG B rc cx t nb k i n= .error e ->e≠0
 |0,i,n,h=>by cases h
 |k+1,i,n,h=>by
  rcases bdJ_er h with h|⟨p,_,h⟩
  ·exact mO hr h
  ·exact Dk hr k _ _ h
theorem Dl(hr:cv B rc){t:Tr}{nb:Nat}{q:Unit×Nat}:∀(k i n:Nat),lG B rc cx t nb k i n= .ok q ->q.2<=n
 |0,i,n,h=>by
  injection h with h
  subst h;exact KJ _
 |k+1,i,n,h=>by
  obtain⟨p,h1,h⟩:=bF h;have a:=(kF hr h1).2;have:=Dl hr k _ _ h;omega
end
section
variable{B:aq}{rc:RcJ}{cx:Ctx}
theorem Do{P:Prop}(t:Tr)(h:Ok .tm t)(h1:t.n.op=1 ->P)(h2:t.n.op=2 ->P)(d:t.n.op=8 ->P)(e:t.n.op=9 ->P)(a:t.n.op=10 ->P)(h4:t.n.op=4 ->P)(f:t.n.op=5 ->P)(i:t.n.op=6 ->P)(j:t.n.op=7 ->P)(b:t.n.op=11 ->P)(c:t.n.op=12 ->P):P:=by
 rcases tm_ops h with g|g|g|g|g|g|g|g|g|g|g
 ·exact h1 g
 ·exact h2 g
 ·exact h4 g
 ·exact f g
 ·exact i g
 ·exact j g
 ·exact d g
 ·exact e g
 ·exact a g
 ·exact b g
 ·exact c g
theorem I7(hr:cv B rc){t:Tr}{n:Nat}{e:Int}(h:ig B rc cx t n= .error e):e≠0:=by
 unfold ig at h;split at h
 ·cases h
 split at h
 ·unfold mI at h
  split at h
  ·injection h with h
   omega
  ·cases h
 split at h
 ·cases h
 split at h
 ·have:=xR (mN h)
  omega
 split at h
 ·have:=xS (mN h)
  omega
 split at h
 ·unfold mJ at h
  rcases bdJ_er h with h|⟨p,_,h⟩
  ·exact jn hr h
  rcases bdJ_er h with h|⟨q,_,h⟩
  ·exact jn hr h
  split at h
  ·injection h with h
   omega
  ·cases h
 split at h
 ·unfold mL at h
  rcases bdJ_er h with h|⟨p,_,h⟩
  ·exact jn hr h
  rcases bdJ_er h with h|⟨q,_,h⟩
  ·exact hr.er _ _ _ _ h
  have:=jU (mN h);omega
 split at h
 ·unfold lH at h
  rcases bdJ_er h with h|⟨p,_,h⟩
  ·exact hr.er _ _ _ _ h
  rcases bdJ_er h with h|⟨q,_,h⟩
  ·exact kG h
  split at h
  ·injection h with h
   omega
  rcases bdJ_er h with h|⟨q,_,h⟩
  ·exact mO hr h
  have:=iB (mN h);omega
 split at h
 ·unfold mM at h
  rcases bdJ_er h with h|⟨p,_,h⟩
  ·exact jn hr h
  rcases bdJ_er h with h|⟨q,_,h⟩
  ·exact mO hr h
  rcases bdJ_er h with h|⟨q,_,h⟩
  ·exact hr.er _ _ _ _ h
  have:=iB (mN h);omega
 split at h
 ·unfold jT at h
  simp only at h;rcases bdJ_er h with h|⟨p,_,h⟩
  ·exact hr.er _ _ _ _ h
  rcases bdJ_er h with h|⟨q,_,h⟩
  ·exact kG h
  split at h
  ·injection h with h
   omega
  split at h
  ·injection h with h
   omega
  rcases bdJ_er h with h|⟨q,_,h⟩
  ·exact hr.er _ _ _ _ h
  rcases bdJ_er h with h|⟨q,_,h⟩
  ·exact Dc _ _ _ _ _ h
  rcases bdJ_er h with h|⟨q,_,h⟩
  ·split at h
   ·exact Df hr h
   ·cases h
  split at h
  ·injection h with h
   omega
  rcases bdJ_er h with h|⟨q,_,h⟩
  ·exact Dg hr _ _ _ h
  have:=hO (mN h);omega
 ·unfold kE at h
  rcases bdJ_er h with h|⟨p,_,h⟩
  ·exact Di hr _ _ _ h
  split at h
  ·injection h with h
   omega
  rcases bdJ_er h with h|⟨p,_,h⟩
  ·exact Dk hr _ _ _ h
  cases h
theorem I8(c:GoodB B)(hr:cv B rc){t:Tr}{n:Nat}{q:Tr×Nat}(h:ig B rc cx t n= .ok q):q.2<=n:=by
 unfold ig at h;split at h
 ·injection h with h
  subst h;exact KJ _
 split at h
 ·unfold mI at h
  split at h
  ·cases h
  ·injection h with h
   subst h;exact KJ _
 split at h
 ·injection h with h
  subst h;exact KJ _
 split at h
 ·exact Nat.le_of_eq (iF h).2
 split at h
 ·exact Nat.le_of_eq (iF h).2
 split at h
 ·unfold mJ at h
  obtain⟨d,a,h⟩:=bF h;obtain⟨e,b,h⟩:=bF h;have f:=(gj c hr a).2.1;have g:=(gj c hr b).2.1;split at h
  ·cases h
  ·injection h with h
   subst h;simp only;omega
 split at h
 ·unfold mL at h
  obtain⟨d,a,h⟩:=bF h;obtain⟨e,b,h⟩:=bF h;have f:=(gj c hr a).2.1;have g:=hr.le _ _ _ _ b;have k:=(iF h).2;omega
 split at h
 ·unfold lH at h
  obtain⟨d,a,h⟩:=bF h;obtain⟨e,b,h⟩:=bF h;have f:=hr.le _ _ _ _ a;have g:=(oW b).2.2;split at h
  ·cases h
  obtain⟨l,i,h⟩:=bF h;have k:=(kF hr i).2;have m:=(iF h).2;omega
 split at h
 ·unfold mM at h
  obtain⟨d,a,h⟩:=bF h;obtain⟨e,b,h⟩:=bF h;obtain⟨l,i,h⟩:=bF h;have f:=(gj c hr a).2.1;have g:=(kF hr b).2;have k:=hr.le _ _ _ _ i;have m:=(iF h).2;omega
 split at h
 ·unfold jT at h
  simp only at h;obtain⟨d,a,h⟩:=bF h;obtain⟨e,b,h⟩:=bF h;have f:=hr.le _ _ _ _ a;have g:=(oW b).2.2;split at h
  ·cases h
  split at h
  ·cases h
  obtain⟨l,i,h⟩:=bF h;obtain⟨o,p,h⟩:=bF h;obtain⟨r,j,h⟩:=bF h;have k:=hr.le _ _ _ _ i;have m:=xV _ _ _ _ _ p;have u:r.2<=o.2:=by
   split at j
   ·exact xW c hr j
   ·injection j with j
    subst j;exact KJ _
  split at h
  ·cases h
  obtain⟨v,s,h⟩:=bF h;have x:=Dh hr _ _ _ s;have y:=(iF h).2;omega
 ·unfold kE at h
  obtain⟨d,a,h⟩:=bF h;have f:=(Dj c hr _ _ _ a).1;split at h
  ·cases h
  obtain⟨e,b,h⟩:=bF h;have g:=Dl hr _ _ _ b;injection h with h
  subst h;simp only;omega
theorem Dq{α:Type}{l:List α}{i:Nat}{d:α}(h:i<l.length):l.getD i d∈l:=by
 rw[List.getD_eq_getElem?_getD,List.getElem?_eq_getElem h];exact List.getElem_mem h
theorem I9(k:GoodB B)(hr:cv B rc)(a:CxOk B cx)(p:cx.length<=260){t:Tr}(c:Ft (QB B) (cx.length:Int) t){n:Nat}{q:Tr×Nat}(h:ig B rc cx t n= .ok q):Ft (QB B) (cx.length:Int) q.1:=by
 have r:(0:Int)<=(cx.length:Int):=Oo
 unfold ig at h;split at h
 ·rename_i g
  injection h with h
  subst h;obtain⟨Q,ks⟩:=t;obtain⟨R,S,_⟩:=c.var_lt g;obtain⟨T,c2⟩:=a _ _ (mA R S);have:=T.lift (qk B) (b:=Q.a+1) Oo Oo Oo;refine this.mono ?_;omega
 split at h
 ·unfold mI at h
  rename_i g;split at h
  ·cases h
  ·rename_i A
   injection h with h
   subst h;exact Da (.inr rfl) (xN (qC c g) Oo)
 split at h
 ·rename_i g
  injection h with h
  subst h;obtain⟨i,x,ty,bo,L,l,U,D⟩:=k.dfn c.node' g;simp only;rw[U,D.type,gW D.ft.ok];exact(D.ft.wk λm V=>nK (Nat.le_of_lt (aI l)) V).mono r
 split at h
 ·rename_i g
  have E:=db c.ok.pl;exact(I2 k (xd c.node' g E.2.2.1) (iF h).1).mono r
 split at h
 ·rename_i g
  have E:=db c.ok.pl;exact(I3 k (jK c.node' (.inl g)) E.1 (sQ c.node' g) (iF h).1).mono r
 split at h
 ·unfold mJ at h
  rename_i g;obtain⟨_,d,e⟩:=dU c (.inl g);obtain⟨s,f,h⟩:=bF h;obtain⟨u,o,h⟩:=bF h;obtain⟨M,N,F⟩:=jm k hr a d f;obtain⟨b1,W,X⟩:=jm k hr (a.snoc d λx l=>by cases l) (t:=kidD t 1) (by rw[bL];exact e.mono Oo) o;split at h
  ·cases h
  ·rename_i A
   injection h with h
   subst h;exact Da W (xO F X Oo)
 split at h
 ·unfold mL at h
  rename_i g;obtain⟨_,d,e⟩:=dU c (.inr g);obtain⟨s,f,h⟩:=bF h;obtain⟨u,o,h⟩:=bF h;obtain⟨M,N,F⟩:=jm k hr a d f;have:=hr.ft _ _ _ _ (a.snoc d λx l=>by cases l) (by rw[bL];omega) (by rw[bL];exact e.mono Oo) o;rw[bL]at this;refine kB (qk B) (this.mono Od) (λi y j=>?_) (iF h).1;have L:=aI j;obtain rfl:i=0:=by simp at L;omega
  simp only[List.getElem?_cons_zero,Option.some.injEq]at j;subst j;exact d.mono Oo
 split at h
 ·unfold lH at h
  rename_i g;obtain⟨_,d,e⟩:=qA c g;obtain⟨s,f,h⟩:=bF h;obtain⟨u,o,h⟩:=bF h;have H:=hr.ft _ _ _ _ a p d f;obtain⟨_,_,I⟩:=iG k a H o;split at h
  ·cases h
  rename_i A;obtain⟨O,K,h⟩:=bF h;obtain⟨_,z0,Y⟩:=dU I.head (.inl Oo);have:=iy (qk B) (v:=0) (Y.mono Oo) e r Oo Oo Oo (iF h).1;exact this.mono Oo
 split at h
 ·unfold mM at h
  rename_i g;obtain⟨_,d,e,Z⟩:=nM c g;obtain⟨s,f,h⟩:=bF h;obtain⟨u,o,h⟩:=bF h;obtain⟨O,K,h⟩:=bF h;obtain⟨M,N,F⟩:=jm k hr a d f;have:=hr.ft _ _ _ _ (a.snoc d λx l=>by injection l with l;rw[<- l];exact e) (by rw[bL];omega) (by rw[bL];exact Z.mono Oo) K;rw[bL]at this;have:=iy (qk B) (v:=0) (this.mono Oo) e r Oo Oo Oo (iF h).1;exact this.mono Oo
 split at h
 ·rename_i g
  obtain⟨l1,l2,l3,P⟩:=qD c g;unfold jT at h;simp only at h;obtain⟨s,f,h⟩:=bF h;obtain⟨u,o,h⟩:=bF h;split at h
  ·cases h
  split at h
  ·cases h
  obtain⟨O,K,h⟩:=bF h;obtain⟨p4,h4,h⟩:=bF h;obtain⟨p5,h5,h⟩:=bF h;split at h
  ·cases h
  obtain⟨p6,h6,h⟩:=bF h;have d:Ft (QB B) (cx.length:Int) ((kidsT t).getD 0 (varX 0)):=P _ (Dq Oo);have e:Ft (QB B) (cx.length:Int) ((kidsT t).getD 1 (varX 0)):=P _ (Dq Oo);have H:=hr.ft _ _ _ _ a p e f;obtain⟨_,_,I⟩:=iG k a H o;refine fL (qk B) d (λy j=>?_) (iF h).1;rcases List.mem_append.1 j with j|j
  ·exact I.args _ (List.mem_of_mem_drop j)
  ·simp only[List.mem_singleton]at j
   subst j;exact e
 ·rename_i A g2 g8 g9 a0 g4 g5 g6 g7 a4
  have z:t.n.op=12:=by
   have:=tm_ops c.ok;omega
  have hl:=dM c.ok z;unfold kE at h;obtain⟨s,f,h⟩:=bF h;split at h
  ·cases h
  obtain⟨u,o,h⟩:=bF h;injection h with h
  subst h;exact(ib c z (i:=t.n.a.toNat) Oo).2.2.1
theorem Ja(a:GoodB B)(hr:cv B rc):cv B (ig B rc):=
 ⟨λcx t n q b c d h=>I9 a hr b c d h,λcx t n q h=>I8 a hr h,λcx t n e h=>I7 hr h⟩
theorem kH(a:GoodB B):∀(g:Nat),cv B (dD B g)
 |0=>⟨λcx t n q h1 h2 h3 h=>by simp[dD]at h,λcx t n q h=>by simp[dD]at h,λcx t n e h=>by simp[dD]at h;omega⟩
 |g+1=>Ja a (kH a g)
end
mutual
theorem fr':∀(x:Tr) (s:Md),okT cnt nx x s ->∀m∈row x,aw m=true
 | .mk n ks,s,h,m,hm=>by
  obtain⟨h1,h2⟩:=h;simp only[row,JJ]at hm;rcases hm with rfl|hm
  ·cases s with
   |tm=>exact(eb h1).1
   |fn=>
    simp only[cnt]at h1;split at h1
    ·rename_i q;exact q.2
    ·cases h1
   |am=>
    simp only[cnt]at h1;split at h1
    ·rename_i q;exact q.2
    ·cases h1
  ·exact na' ks n s 0 h2 m hm
theorem na':∀(l:List Tr) (n:Nd) (s:Md) (k:Nat),okL cnt nx l n s k ->∀m∈rows l,aw m=true
 |[],n,s,k,_,m,hm=>by simp[rows]at hm
 |y::r,n,s,k,h,m,hm=>by
  obtain⟨h1,h2⟩:=h;simp only[rows,JW]at hm;rcases hm with hm|hm
  ·exact fr' y _ h1 m hm
  ·exact na' r n s (k+1) h2 m hm
end
def cw(B:aq)(known:Nat)(self:Int)(l:List Nd)(below:Int):Int:=
 if eg l≠0 then eg l else if jI (tr l) below=false then 8 else if l.any (λm=>!aT B known self m)=true then 8 else 0
def bQ(B:aq)(known:Nat)(self step:Int):List (List Nd) ->Int ->Int
 |[],_=>0
 |l::r,below=>if cw B known self l below≠0 then cw B known self l below else bQ B known self step r (below+step)
def gI(l:List Nd):Int:=if (l.getD 0 ⟨0,0,0⟩).op≠2 then 8 else 0
def fS(B:aq)(i:Nat)(x:bX):List iv ->Int
 |[]=>0
 |c::r=>if 16<c.args.length then 5 else if c.out.length≠x.indices.length then 8
  else if bQ B i i 1 c.args (x.params.length:Int)≠0 then bQ B i i 1 c.args (x.params.length:Int)
  else if bQ B i i 0 c.out ((x.params.length:Int)+(c.args.length:Int))≠0 then bQ B i i 0 c.out ((x.params.length:Int)+(c.args.length:Int))
  else fS B i x r
def bh(a b:Int):Int:=if a≠0 then a else b
def eS(B:aq)(i:Nat)(x:bX):Int:=
 if x.kind=1 then (if 0<x.type.length+x.body.length then 8 else if 16<x.params.length \/16<x.indices.length \/16<x.ctors.length then 5
  else bh (cw B i (-1) x.sort 0) (bh (gI x.sort) (bh (bQ B i (-1) 1 x.params 0) (bh (bQ B i (-1) 1 x.indices (x.params.length:Int)) (fS B i x x.ctors)))))
 else if x.kind=2 then (if 0<x.sort.length+x.params.length+x.indices.length+x.ctors.length then 8 else bQ B i (-1) 0 [x.type,x.body] 0)
 else 8
def jV(B:aq):List bX ->Nat ->Int
 |[],_=>0
 |x::r,i=>bh (eS B i x) (jV B r (i+1))
def lI(B:aq)(a:Int):Bool:=
 if a<0 \/(B.ents.length:Int)<=a \/(aP B a).kind≠1 then false
 else if (aP B a).sort.length≠2 \/((aP B a).sort.getD 0 ⟨0,0,0⟩).a≠1 \/(aP B a).sort.getD 1 ⟨0,0,0⟩≠⟨3,0,0⟩ \/0<(aP B a).params.length+(aP B a).indices.length \/(aP B a).ctors.length≠2 then false
 else decide (((aP B a).ctors.getD 0 default).args.length=0) && (decide (((aP B a).ctors.getD 1 default).args.length=1) && (decide ((((aP B a).ctors.getD 1 default).args.getD 0 []).length=1) && decide ((((aP B a).ctors.getD 1 default).args.getD 0 []).getD 0 ⟨0,0,0⟩=⟨9,a,0⟩)))
def lJ(B:aq):List (Int×Int) ->G ->Bool
 |[],_=>true
 |p::r,g=>if p.1<0 \/(B.ents.length:Int)<=p.1 \/(aP B p.1).kind≠2 \/p.2<1 \/3<p.2 \/0<(g p.1 (-1)).getD 0+(g (-1) p.2).getD 0 then false else lJ B r (putG (putG g p.1 (-1) 1) (-1) p.2 1)
def gJ(B:aq):Bool:=if (B.nat≠ -1/\lI B B.nat=false) \/(B.nat= -1/\0<B.prims.length)then false else lJ B B.prims λ_ _=>none
def cZ(B:aq):Int:=if oG B.vars B.orders≠0 then oG B.vars B.orders else if 64<B.ents.length then 5 else bh (jV B B.ents 0) (if gJ B=true then 0 else 22)
def eU(B:aq)(below:Int)(t:List Nd):Int:=if cZ B≠0 then cZ B else if below<0 then 1 else cw B B.ents.length (-1) t below
def gk(B:aq):List (List Nd×List Nd) ->Nat ->Int
 |[],_=>0
 |q::r,i=>if eU B i q.1≠0 then eU B i q.1 else if q.2.length=0 then gk B r (i+1)else if eU B i q.2≠0 then eU B i q.2 else gk B r (i+1)
def dO(B:aq)(c:List (List Nd×List Nd))(t:List Nd):Int:=
 if cZ B≠0 then cZ B else if 256<c.length then 5 else if gk B c 0≠0 then gk B c 0 else eU B c.length t
theorem mP{a b:Int}:bh a b=0↔a=0/\b=0:=by
 unfold bh;split
 ·rename_i h
  exact⟨λe=>absurd e h,λe=>absurd e.1 h⟩
 ·rename_i h
  exact⟨λe=>⟨Oo,e⟩,λe=>e.2⟩
theorem Jb{l:List Nd}(h:eg l=0):l.length<=4096/\l=row (tr l)/\Ok .tm (tr l):=by
 unfold eg at h;split at h
 ·cases h
 ·split at h
  ·rename_i e b
   obtain⟨x,a⟩:=Option.isSome_iff_exists.1 b;obtain⟨c,d⟩:=BC a;have:tr l=x:=by unfold tr;rw[a];rfl
   rw[this];exact⟨Oo,c,d⟩
  ·cases h
section
variable{B:aq}
theorem Dr{x:Tr}{N:Int}(b:0<=N):jI x N=true↔Bl x N:=by
 unfold jI;rw[List.all_eq_true];constructor
 ·intro h q a
  have:=h q a;simp only[decide_eq_true_eq]at this;omega
 ·intro h q a
  have:=h q a;simp only[decide_eq_true_eq];omega
theorem th{known:Nat}{self:Int}{l:List Nd}{N:Int}(c:0<=N)(h:cw B known self l N=0):l=row (tr l)/\Ft (bV B known self) N (tr l):=by
 unfold cw at h;split at h
 ·rename_i g;exact absurd h g
 rename_i k;obtain⟨d,a,e⟩:=Jb (l:=l) Oo;split at h
 ·cases h
 rename_i f;split at h
 ·cases h
 rename_i i;refine⟨a,e,by rw[<- a];exact d,(Dr c).1 (by simpa using f),λm b=>?_⟩;rw[<- a]at b;have:¬ (l.any λm=>!aT B known self m)=true:=i;rw[List.any_eq_true]at this;unfold bV;cases j:aT B known self m with
 |true=>rfl
 |false=>exact absurd ⟨m,b,by simp[j]⟩ this
theorem Jc{known:Nat}{self:Int}{x:Tr}{N:Int}(b:0<=N)(h:Ft (bV B known self) N x):cw B known self (row x) N=0:=by
 unfold cw;have d:=je h.ok h.len;rw[if_neg Oo,gW h.ok,if_neg (by rw[(Dr b).2 h.bl];simp),if_neg ?_];rw[List.any_eq_true];rintro⟨m,c,a⟩;have:=h.al m c;unfold bV at this;rw[this]at a;cases a
theorem oY{known:Nat}{self step:Int}(c:0<=step):∀(ls:List (List Nd)) (N:Int),0<=N ->bQ B known self step ls N=0 ->ls=(ls.map tr).map row/\∀(k:Nat) y,(ls.map tr)[k]?=some y ->Ft (bV B known self) (N+k*step) y
 |[],N,b,h=>⟨rfl,λk y a=>by simp at a⟩
 |l::r,N,b,h=>by
  simp only[bQ]at h;split at h
  ·rename_i g;exact absurd h g
  rename_i g;obtain⟨h1,h2⟩:=th (l:=l) b (Decidable.not_not.1 g);obtain⟨d,e⟩:=oY c r (N+step) Oo h;refine⟨?_,λk y a=>?_⟩
  ·rw[List.map_cons,List.map_cons,<- h1,<- d]
  ·cases k with
   |zero=>
    simp only[List.map_cons,List.getElem?_cons_zero,Option.some.injEq]at a;subst a;exact h2.mono Od
   |succ k=>
    simp only[List.map_cons,List.getElem?_cons_succ]at a;exact(e k y a).mono (by
     have:((k+1:Nat):Int)*step=(k:Int)*step+step:=by
      rw[Int.natCast_add,Int.add_mul];simp
     omega)
theorem Ds{i:Nat}{x:bX}:∀(cs:List iv),fS B i x cs=0 ->∀(k:Nat) c,cs[k]?=some c ->∃b go,GoodC B i x.params.length x.indices.length c b go
 |[],h,k,c,hc=>by simp at hc
 |c0::r,h,k,c,hc=>by
  simp only[fS]at h;split at h
  ·cases h
  split at h
  ·cases h
  split at h
  ·rename_i g;exact absurd h g
  split at h
  ·rename_i g;exact absurd h g
  rename_i o p d e;cases k with
  |succ k=>exact Ds r h k c (by simpa using hc)
  |zero=>
   simp only[List.getElem?_cons_zero,Option.some.injEq]at hc;subst hc;obtain⟨f,j⟩:=oY (step:=1) Oo c0.args (x.params.length:Int) Oo (Decidable.not_not.1 d);obtain⟨l,m⟩:=oY (step:=0) Oo c0.out ((x.params.length:Int)+(c0.args.length:Int)) Oo (Decidable.not_not.1 e);refine⟨c0.args.map tr,c0.out.map tr,f,l,OK,OK,λk y a=>(j k y a).mono Oo,λy a=>?_⟩;obtain⟨k,n⟩:=JH a;exact(m k y n).mono Od
theorem Jd{i:Nat}{x:bX}(h:eS B i x=0):(∃s j l,GoodF B i x s j l) \/∃ty bo,xb B i x ty bo:=by
 unfold eS at h;split at h
 ·rename_i d
  split at h
  ·cases h
  split at h
  ·cases h
  rename_i E F;obtain⟨b,h⟩:=mP.1 h;obtain⟨a,h⟩:=mP.1 h;obtain⟨m,h⟩:=mP.1 h;obtain⟨o,p⟩:=mP.1 h;obtain⟨f,g⟩:=th Oo b;obtain⟨q,r⟩:=oY (step:=1) Oo x.params 0 Oo m;obtain⟨q1,t⟩:=oY (step:=1) Oo x.indices (x.params.length:Int) Oo o;refine .inl ⟨tr x.sort,x.params.map tr,x.indices.map tr,d,f,g,?_,q,q1,OK,OK,Oo,λk y e=>(r k y e).mono Oo,λk y e=>(t k y e).mono Od,λk c u=>?_⟩
  ·unfold gI at a
   split at a
   ·cases a
   ·rename_i H
    have:(x.sort.getD 0 ⟨0,0,0⟩).op=(tr x.sort).n.op:=by
     rw[f,gW g.ok];obtain⟨n,I⟩:=tr x.sort;simp[row,Tr.n]
    omega
  ·obtain⟨v,z,A⟩:=Ds x.ctors p k c u
   exact⟨v,z,by simpa using A⟩
 split at h
 ·rename_i D d
  split at h
  ·cases h
  obtain⟨b,a⟩:=oY (step:=0) Oo [x.type,x.body] 0 Oo h;simp only[List.map_cons,List.map_nil,List.cons.injEq]at b;exact .inr ⟨tr x.type,tr x.body,d,b.1,b.2.1,(a 0 _ rfl).mono Od,(a 1 _ rfl).mono Od⟩
 ·cases h
theorem jS':∀(l:List bX) (i:Nat),jV B l i=0 ->∀(k:Nat) x,l[k]?=some x ->eS B (i+k) x=0
 |[],i,h,k,x,a=>by simp at a
 |y::r,i,h,k,x,a=>by
  obtain⟨h1,h2⟩:=mP.1 h;cases k with
  |zero=>
   simp only[List.getElem?_cons_zero,Option.some.injEq]at a;subst a;exact h1
  |succ k=>
   have:=jS' r (i+1) h2 k x (by simpa using a)
   rwa [show i+(k+1)=i+1+k by omega]
theorem Je(h:cZ B=0):GoodB B:=by
 unfold cZ at h;split at h
 ·rename_i g;exact absurd h g
 split at h
 ·cases h
 rename_i c d;obtain⟨a,e⟩:=mP.1 h;refine⟨Oo,Oo,λi x b=>?_⟩;have:=jS' B.ents 0 a i x b;rw[KW]at this;exact Jd this
theorem xX{t:List Nd}{N:Int}(a:0<=N)(h:eU B N t=0):t=row (tr t)/\Ft (QB B) N (tr t):=by
 unfold eU at h;split at h
 ·rename_i g;exact absurd h g
 rw[if_neg Oo]at h;exact th a h
theorem xY(hr:cZ B=0){x:Tr}{N:Int}(a:0<=N)(h:Ft (QB B) N x):eU B N (row x)=0:=by
 unfold eU;rw[if_neg Oo,if_neg Oo];exact Jc a h
def dW(c:List (List Nd×List Nd)):Ctx:=c.map λq=>(tr q.1,if q.2.length=0 then none else some (tr q.2))
theorem qv':∀(c:List (List Nd×List Nd)) (i:Nat),gk B c i=0 ->c=(dW c).map aA/\∀(k:Nat) q,(dW c)[k]?=some q ->Ft (QB B) ((i+k:Nat):Int) q.1/\∀x,q.2=some x ->Ft (QB B) ((i+k:Nat):Int) x
 |[],i,h=>⟨rfl,λk q p=>by simp[dW]at p⟩
 |q::r,i,h=>by
  simp only[gk]at h;split at h
  ·rename_i g;exact absurd h g
  rename_i s;obtain⟨h1,h2⟩:=xX (t:=q.1) (N:=(i:Int)) Oo (Decidable.not_not.1 s);have a:gk B r (i+1)=0 ->∀o:Option Tr,aA (tr q.1,o)=q ->(if q.2.length=0 then none else some (tr q.2))=o ->(∀x,o=some x ->Ft (QB B) (i:Int) x) ->q::r=(dW (q::r)).map aA/\∀(k:Nat) d,(dW (q::r))[k]?=some d ->Ft (QB B) ((i+k:Nat):Int) d.1/\∀x,d.2=some x ->Ft (QB B) ((i+k:Nat):Int) x:=λu o v l m=>by
   obtain⟨y,z⟩:=qv' r (i+1) u;have e:dW (q::r)=(tr q.1,o)::dW r:=by simp only[dW,List.map_cons,l]
   rw[e];refine⟨?_,λk d b=>?_⟩
   ·rw[List.map_cons,<- y,v]
   ·cases k with
    |zero=>
     simp only[List.getElem?_cons_zero,Option.some.injEq]at b;subst b;exact⟨h2,m⟩
    |succ k=>
     simp only[List.getElem?_cons_succ]at b;have:=z k d b
     rwa [show i+1+k=i+(k+1) by omega]at this
  split at h
  ·rename_i j
   refine a h none ?_ (by rw[if_pos j]) (λx f=>by cases f);have:q.2=[]:=List.length_eq_zero_iff.1 j;obtain⟨A,D⟩:=q;simp only at this h1;simp[aA,nS',this,<- h1]
  ·rename_i j
   split at h
   ·rename_i g;exact absurd h g
   rename_i E;obtain⟨n,F⟩:=xX (t:=q.2) (N:=(i:Int)) Oo (Decidable.not_not.1 E);refine a h (some (tr q.2)) ?_ (by rw[if_neg j]) (λx f=>by injection f with f;rw[<- f];exact F);obtain⟨A,D⟩:=q;simp only at h1 n;simp[aA,nS',<- h1,<- n]
theorem mQ{c:List (List Nd×List Nd)}{t:List Nd}(h:dO B c t=0):GoodB B/\cZ B=0/\c.length<=256/\c=(dW c).map aA/\CxOk B (dW c)/\t=row (tr t)/\Ft (QB B) (c.length:Int) (tr t):=by
 unfold dO at h;split at h
 ·rename_i g;exact absurd h g
 split at h
 ·cases h
 split at h
 ·rename_i g;exact absurd h g
 rename_i k l a;obtain⟨b,d⟩:=qv' c 0 (Decidable.not_not.1 a);obtain⟨e,f⟩:=xX (t:=t) (N:=(c.length:Int)) Oo h;refine⟨Je Oo,Oo,Oo,b,λi q j=>?_,e,f⟩;have:=d i q j
 rwa [KW]at this
theorem Dt(hr:cZ B=0):∀(c:Ctx) (i:Nat),(∀(k:Nat) q,c[k]?=some q ->Ft (QB B) ((i+k:Nat):Int) q.1/\∀x,q.2=some x ->Ft (QB B) ((i+k:Nat):Int) x) ->gk B (c.map aA) i=0
 |[],i,h=>rfl
 |q::r,i,h=>by
  have a:=h 0 q rfl;rw[Nat.add_zero]at a;have d:=Dt hr r (i+1) λk e b=>by
   have:=h (k+1) e (by simpa using b)
   rwa [show i+(k+1)=i+1+k by omega]at this
  simp only[List.map_cons,gk];have j:eU B (i:Int) (aA q).1=0:=xY hr Oo a.1;rw[if_neg Oo];split
  ·exact d
  ·rename_i g
   obtain⟨f,o⟩:=q;cases o with
   |none=>simp[aA,nS']at g
   |some x=>
    have l:eU B (i:Int) (aA (f,some x)).2=0:=xY hr Oo (a.2 x rfl);rw[if_neg Oo];exact d
theorem Du(hr:cZ B=0){c:Ctx}(hc:CxOk B c)(hl:c.length<=256){x:Tr}(a:Ft (QB B) (c.length:Int) x):dO B (c.map aA) (row x)=0:=by
 unfold dO;have:=Dt hr c 0 λk q b=>by rw[KW];exact hc k q b
 rw[if_neg Oo,if_neg OK,if_neg Oo];exact xY hr Oo (by simpa using a)
end
end Go.Proofs.YtjnjbghlemiklaaGreat
namespace Go.Proofs.YtjnjbghlemiklaaGreat
open Go.Wx Cd Tm Lv
def jW(t:List Nd):Option (Tr×List Nd):=match parse cnt nx t.length .tm t with
 |some (x,r)=>if gE' x=true then some (x,r)else none
 |none=>none
theorem xZ{x:Tr}(a:Ok .tm x)(r:List Nd):jW (row x++r)=some (x,r):=by
 unfold jW;rw[fA' (cnt:=cnt) (nx:=nx) x _ .tm r Od a.1];simp[a.2]
theorem x5{t:List Nd}{x:Tr}{r:List Nd}(h:jW t=some (x,r)):t=row x++r/\Ok .tm x:=by
 unfold jW at h;split at h
 ·rename_i y q a
  split at h
  ·rename_i b
   obtain⟨rfl,rfl⟩:y=x/\q=r:=by simpa using h
   obtain⟨c,d⟩:=cX' _ _ _ _ _ a;exact⟨c,d,b⟩
  ·cases h
 ·cases h
theorem Jf{x y:Tr}{r s:List Nd}(b:Ok .tm x)(c:Ok .tm y)(h:row x++r=row y++s):x=y/\r=s:=by
 have a:=xZ b r;rw[h,xZ c s]at a;simp only[Option.some.injEq,Prod.mk.injEq]at a;exact⟨a.1.symm,a.2.symm⟩
theorem ti{t:List Nd}{a:Nat}(ha:a<=t.length):endS t .tm a=(jW (t.drop a)).map λq=>t.length-q.2.length:=by
 unfold endS jW;rw[Bv (cnt:=cnt) (nx:=nx) (s:=Md.tm) (f:=t.length) (g:=(t.drop a).length) Od (KJ _)];cases parse cnt nx (t.drop a).length .tm (t.drop a)with
 |none=>rfl
 |some q=>
  obtain⟨x,r⟩:=q;simp only
  by_cases h:gE' x=true
  ·simp[h]
  ·simp[h]
theorem Dv{op:Int}:∀{K g:List Tr} {F b:List Nd} {i:Nat},K.length=g.length ->(∀k∈K,Ok .tm k) ->(∀k∈g,Ok .tm k) ->(op=12 ->∀j,i<=j ->j<i+K.length ->∃f l,F[j/2]?=some f/\b[j/2]?=some l) ->cd op F i K=cd op b i g ->K=g/\(op=12 ->∀j,i<=j ->j<i+K.length ->j%2=0 ->F[j/2]?=b[j/2]?)
 |[],[],F,b,i,_,_,_,_,_=>⟨rfl,λ_ j h1 h2=>by simp at h2;omega⟩
 |x::r,y::p,F,b,i,hl,m,d,n,h=>by
  simp only[cd]at h;have hr:(op=12/\i%2=0 ->F[i/2]?=b[i/2]?)/\row x++cd op F (i+1) r=row y++cd op b (i+1) p:=by
   by_cases c:op=12/\i%2=0
   ·obtain⟨f,l,h1,h2⟩:=n c.1 i (KJ _) Od
    rw[if_pos c,if_pos c,h1,h2]at h;simp only[Option.toList,List.cons_append,List.nil_append,List.cons.injEq]at h;exact⟨λ_=>by rw[h1,h2,h.1],h.2⟩
   ·rw[if_neg c,if_neg c]at h
    exact⟨λq=>absurd q c,by simpa using h⟩
  obtain⟨rfl,s⟩:=Jf (m x Od) (d y Od) hr.2;obtain⟨rfl,t⟩:=Dv (by simpa using hl) (λk h=>m k (by simp[h])) (λk h=>d k (by simp[h])) (λa j h1 h2=>n a j Oo OK) s;refine⟨rfl,λa j h1 h2 o=>?_⟩
  by_cases e:j=i
  ·subst e
   exact hr.1 ⟨a,o⟩
  ·exact t a j Oo (by simp at h2;omega) o
theorem x6{op:Int}{F:List Nd}{y:Tr}:∀(K:List Tr) (i:Nat),cd op F i (K++[y])=cd op F i K++((if op=12/\(i+K.length)%2=0 then (F[(i+K.length)/2]?).toList else [])++row y)
 |[],i=>by simp[cd]
 |x::r,i=>by
  simp only[List.cons_append,cd,x6 r (i+1),JV,List.append_assoc];rw[show i+1+r.length=i+(r.length+1) by omega]
theorem Dw{op:Int}{F b:List Nd}:∀(K:List Tr) (i:Nat),(op=12 ->∀j,i<=j ->j<i+K.length ->j%2=0 ->F[j/2]?=b[j/2]?) ->cd op F i K=cd op b i K
 |[],i,_=>rfl
 |x::r,i,h=>by
  simp only[cd];rw[Dw r (i+1) λa j h1 h2 h3=>h a j Oo OK h3]
  by_cases hc:op=12/\i%2=0
  ·rw[if_pos hc,if_pos hc,h hc.1 i (KJ _) Od hc.2]
  ·rw[if_neg hc,if_neg hc]
def ii(t:List Nd)(n:Nd)(i a:Nat):Option Nat:=
 if n.op=12 then (if i%2=0 then fZ t .fn (n.b.toNat-i/2) a else (endS t .tm a).bind (fZ t .fn (n.b.toNat-(i+1)/2)))
 else fZ t .tm ((bq n).toNat-i) a
def z6P:PV:=.agg [pI 0,pI 0,pI 0,.sl [],.sl [],.sl []]
theorem Dx{x:Tr}(t:Ok .tm x){j:Nat}{y:Tr}(d:(kidsT x)[j]?=some y):Ok .tm y:=by
 obtain⟨n,a⟩:=x;obtain⟨u,k,s⟩:=t.kids;obtain⟨F,H,v,z⟩:=eb u
 by_cases m:n.op=2
 ·simp[kidsT,m]at d
 ·by_cases b:n.op=12
  ·have e:kidsT (.mk n a)=a.flatMap (·.ks):=by simp[kidsT,b]
   rw[e]at d;have l:∀(i:Nat) f,a[i]?=some f ->Ok .fn f:=λi f l=>⟨by
    have:=iU a 0 i f k l
    rwa [show nx Md.tm n (0+i)= .fn by simp[nx,m,b]]at this,dE' a i f s l⟩
   obtain⟨f,o,c⟩:=vP' a (λf A=>by
    obtain⟨i,p⟩:=JH A;obtain⟨g,D,E,rfl,_⟩:=(l i f p).fn
    rfl) j y d
   obtain⟨g,D,E,rfl,_,_,q,r⟩:=(l _ f o).fn;simp only[Tr.ks]at c;rcases(show j%2=0 \/j%2=1 by omega)with h|h<;>rw[h]at c
   ·obtain rfl:=JB c;exact q
   ·obtain rfl:=JB c;exact r
  ·have e:kidsT (.mk n a)=a:=by simp[kidsT,m,b]
   rw[e]at d;have:=iU a 0 j y k d;rw[show nx Md.tm n (0+j)= .tm by simp[nx,m,b]]at this;exact⟨this,dE' a j y s d⟩
def gm(t:List Nd):PV:=match jW t with
 |some (x,r)=>.tup [bB x,pI ((t.length-r.length:Nat):Int),.bool true]
 |none=>.tup [z6P,pI 0,.bool false]
theorem x7{t:List Nd}(h:endS t .tm 0=none):PV.tup [z6P,pI 0,.bool false]=gm t:=by
 rw[ti Oo,List.drop_zero]at h;unfold gm;cases a:jW t with
 |none=>rfl
 |some q=>rw[a]at h;cases h
theorem Dy{t:List Nd}{e:Nat}(h:endS t .tm 0=some e):∃x,Ok .tm x/\t=row x++t.drop e/\(row x).length=e/\gm t= .tup [bB x,pI (e:Int),.bool true]:=by
 rw[ti Oo,List.drop_zero]at h;unfold gm;cases a:jW t with
 |none=>rw[a]at h;cases h
 |some q=>
  obtain⟨x,r⟩:=q;rw[a]at h;obtain⟨b,d⟩:=x5 a;simp only[Option.map_some,Option.some.injEq]at h;have f:=congrArg List.length b;rw[JK]at f;have c:(row x).length=e:=Oo
  refine⟨x,d,?_,c,by simp only[h]⟩;rw[<- c]
  conv=>lhs;rw[b]
  conv=>rhs;rw[b,List.drop_left]
theorem Jg{n:Nd}{r:List Nd}(h:aD n=false):endS (n::r) .tm 0=none:=by
 refine sJ _ _ λm a=>?_;obtain rfl:n=m:=by simpa using a
 simp only[cnt];rw[if_neg];rintro⟨b,c,d⟩;simp[aD,b,c,d]at h
theorem Jh{n:Nd}{r:List Nd}{x:Tr}(d:Ok .tm x)(h2:n.op=2){e:Nat}(h:n::r=row x++(n::r).drop e)(he:(row x).length=e):bB x= .agg (eJ n [] ((r.take (e-1)).map ndP) []):=by
 have a:=iA d;rw[a]at h;obtain⟨b,h⟩:=List.cons.inj h;have c:kidsT x=[]:=by
  obtain⟨m,g⟩:=x;obtain rfl:n=m:=b;simp[kidsT,h2]
 have f:funsT x=[]:=if_neg (by rw[<- b,h2];decide);rw[c]at h a;simp only[cd,JD]at h a;rw[a]at he;have:atmsT x=r.take (e-1):=by
  rw[h,<- he,JV,Nat.add_sub_cancel];exact List.take_left.symm
 show PV.agg (eJ _ _ _ _)=_;rw[c,f,this,<- b]
 rfl
theorem oZ{x:Tr}(u:Ok .tm x):((kidsT x).length:Int)=bq x.n/\aD x.n=true/\(x.n.op=12 ->2*(funsT x).length=(kidsT x).length):=by
 obtain⟨n,b⟩:=x;obtain⟨v,j,g⟩:=u.kids;obtain⟨c,z,d,l⟩:=eb v;have A:=mn c;have D:=db c;have m:aD n=true:=by simp[aD,c,z,d]
 show ((kidsT (.mk n b)).length:Int)=bq n/\aD n=true/\(n.op=12 ->2*(funsT (.mk n b)).length=(kidsT (.mk n b)).length)
 by_cases i:n.op=2
 ·have e:kidsT (.mk n b)=[]:=by simp[kidsT,i]
  rw[e];exact⟨by simp[bq,i],m,λh=>absurd h Oo⟩
 ·rw[if_neg i]at l
  by_cases a:n.op=12
  ·have s:aE n.b 1 4=true:=by simp[aw,a]at c;exact c.1
   have s:=dq.1 s;have o:bp n=n.b:=by simp[bp,a]
   have p:∀(r:List Tr) (k:Nat),okL cnt nx r n .tm k ->eN' r=true ->(r.flatMap (·.ks)).length=2*r.length:=by
    intro r
    induction r with
    |nil=>intros;rfl
    |cons y r E=>
     intro k o g;obtain⟨t,_,_⟩:=jH o g;rw[show nx Md.tm n 0= .fn by simp[nx,a]]at t;obtain⟨f,H,I,rfl,_⟩:=t.fn;simp only[List.flatMap_cons,JK,JV];rw[E (k+1) o.2 (nF g).2];simp[Tr.ks];omega
   have e:kidsT (.mk n b)=b.flatMap (·.ks):=by simp[kidsT,a]
   have F:funsT (.mk n b)=b.map (·.n):=if_pos a;rw[e,F,p b 0 j g,List.length_map];refine⟨?_,m,λ_=>rfl⟩;have q:IntKind.i64.wrap (2*n.b)=2*n.b:=by rw[IntKind.wrap_i64];omega
   simp[bq,a,q];omega
  ·have e:kidsT (.mk n b)=b:=by simp[kidsT,i,a]
   rw[e];refine⟨?_,m,λh=>absurd h a⟩;have q:IntKind.i64.wrap (2+n.b)=2+n.b:=by rw[IntKind.wrap_i64];omega
   have:bp n=bq n:=by
    simp only[bp,bq,a,d,if_false,q,or_false]
    repeat' split
    all_goals first|rfl|omega
   omega
theorem Ji{n:Nd}{r:List Nd}{x:Tr}{K:List Tr}{F:List Nd}(f:Ok .tm x)(h2:n.op≠2){e:Nat}(h:n::r=row x++(n::r).drop e)(he:(row x).length=e)(p:∀k∈K,Ok .tm k)(hl:(K.length:Int)=bq n)(l:n.op=12 ->2*F.length=K.length)(g:n.op≠12 ->F=[])(b:(n::r).take e=n::cd n.op F 0 K):bB x= .agg (eJ n (K.map trP) [] (F.map ndP)):=by
 have m:=iA f;have c:n=x.n:=by
  rw[m]at h;exact(List.cons.inj h).1
 have q:(n::r).take e=row x:=by
  conv=>lhs;rw[h]
  rw[<- he,List.take_left]
 have o:atmsT x=[]:=if_neg (by rw[<- c];exact h2);obtain⟨s,_,d⟩:=oZ f;rw[<- c]at s d;rw[q,m,o,<- c]at b;have b:=(List.cons.inj b).2;rw[List.nil_append]at b;obtain⟨t,u⟩:=Dv Oo (λk v=>by
  obtain⟨j,i⟩:=JH v;exact Dx f i) p (λa j _ i=>⟨_,_,List.getElem?_eq_getElem (by have:=d a;omega),List.getElem?_eq_getElem (by have:=l a;have:=d a;omega)⟩) b
 have y:funsT x=F:=by
  by_cases a:n.op=12
  ·have:=d a
   have:=l a;refine List.ext_getElem? λj=>?_
   by_cases i:j<F.length
   ·have:=u a (2*j) Oo Oo Oo
    rwa [show 2*j/2=j by omega]at this
   ·rw[List.getElem?_eq_none Oo,List.getElem?_eq_none Oo]
  ·rw[g a]
   exact if_neg (by rw[<- c];exact a)
 show PV.agg (eJ _ _ _ _)=_;rw[t,y,o,<- c]
 rfl
end Go.Proofs.YtjnjbghlemiklaaGreat
