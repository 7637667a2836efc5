import Derived.Test.YtdfeclpphaccnaaGreatMs08
set_option linter.all false
set_option maxHeartbeats 4000000
open Cd Go.Wx Lv Tm
namespace Go.Q
theorem vG{x:Tr}(s:Ok .tm x)(a:x.n.op=12){i:Nat}(hi:i<x.n.b.toNat):∃f,x.ks[i]?=some f/\Ok .tm (kidD x (2*i))/\Ok .tm (kidD x (2*i+1))/\f= .mk f.n [kidD x (2*i),kidD x (2*i+1)]/\
  (row x)[1+(rows (x.ks.take i)).length]?=some f.n/\f.n.op=13/\0<=f.n.a/\f.n.a<=15/\
  row x=(x.n::(rows (x.ks.take i)++[f.n]))++(row (kidD x (2*i))++(row (kidD x (2*i+1))++rows (x.ks.drop (i+1))))/\row x=(x.n::(rows (x.ks.take i)++(f.n::row (kidD x (2*i)))))++(row (kidD x (2*i+1))++rows (x.ks.drop (i+1)))/\
  (rows (x.ks.take (i+1))).length=(rows (x.ks.take i)).length+(1+((row (kidD x (2*i))).length+(row (kidD x (2*i+1))).length))/\(kidsT x).drop (2*i)=kidD x (2*i)::kidD x (2*i+1)::(kidsT x).drop (2*(i+1)):=by
 have X:=dp s a;have Y:=fA s a;obtain⟨f,t,_⟩:=ay (l:=x.ks) (k:=i);obtain⟨N,O,c,m,u,v,A,_,D,P,R⟩:=lM s a t;have E:kidsT x=x.ks.flatMap (·.ks):=by
  obtain⟨n,Z⟩:=x;have a:n.op=12:=a;have S:n.op≠2:=Uo
  simp only[kidsT,KY S,KX a,Tr.ks]
 have F:∀k∈x.ks,k.ks.length=2:=λg T=>by
  obtain⟨j,L⟩:=JH T;obtain⟨U,V,e,_⟩:=lM s a L;rw[e]
  rfl
 have b:∀j,j<2 ->(kidsT x)[2*i+j]?=f.ks[j]?:=λj L=>by
  obtain⟨y,d,_⟩:=ay (l:=kidsT x) (k:=2*i+j);have H:=d;rw[E]at d;obtain⟨g,o,p⟩:=xh' x.ks F _ y d;rw[show (2*i+j)/2=i by omega,t]at o;obtain rfl:=JB o;rw[show (2*i+j)%2=j by omega]at p;rw[H,p]
 have q:=b 0 Uo;have r:=b 1 Uo;rw[c]at q r;simp only[Tr.ks,Nat.add_zero,List.getElem?_cons_zero,List.getElem?_cons_succ]at q r;have d0:kidD x (2*i)=N:=by simp[kidD,q]
 have d1:kidD x (2*i+1)=O:=by simp[kidD,r]
 rw[d0,d1];have I:aX f.n.a 0 15=true:=by
  have:aX f.n.a 0 15=true/\f.n.b=0:=by simpa[aG,m]using u
  exact this.1
 have:=dE.1 I;refine⟨f,t,v,A,c,D,m,this.1,this.2,P,R,?_,?_⟩
 ·rw[dB t,bF',JK,c]
  simp[rows,row];omega
 ·obtain⟨y,d,W⟩:=ay (aM q)
  obtain⟨z,M,K⟩:=ay (aM r);rw[q]at d;rw[r]at M;obtain rfl:=JB d;obtain rfl:=JB M;rw[W,K]
  rfl
def dB':Nat ->Tr ->Bool
 |0,t=>decide (t.n.op=4) && decide ((headT (kidD t 0)).n.op=9)
 |p+1,t=>decide (t.n.op=4) && dB' p (kidD t 1)
def iD(rc:RcF):Nat ->Tr ->List Int ->Bool
 |0,t,m=>rc t m
 |r+1,t,m=>decide (t.n.op=5) && (rc (kidD t 0) m && iD rc r (kidD t 1) (m++[if r=0 then 1 else 0]))
def Far(v:Value)(X:List Nat):Prop:=∀g,v.ownBlock=some g ->g ∉ X
def ib(n j:Nat):List Int:=(List.range n).map λi=>if i<j then (100+(i:Int))else 0
theorem Mq{n j:Nat}(h:j<n):(ib n j).set j (100+(j:Int))=ib n (j+1):=by
 apply List.ext_getElem
 ·simp[ib]
 ·intro i a b
  simp only[ib,List.getElem_set,List.getElem_map,List.getElem_range]
  by_cases e:j=i
  ·subst e
   rw[KX rfl,KX Uo]
  ·rw[KY e]
   by_cases q:i<j
   ·rw[KX q,KX Uo]
   ·rw[KY q,KY Uo]
theorem Mr{n:Nat}{pl:List Int}(h:pl.length=n):Mk pl (ib n n):=λv a=>by
 obtain⟨i,b,rfl⟩:=List.mem_map.1 a;have:=List.mem_range.1 b;rw[KX this];exact .inr (.inr (.inr ⟨i,Uo,rfl⟩))
def lV(x:Tr):List Tr:=(List.range x.n.b.toNat).map λi=>kidD x (2*i)
def jr(x:Tr):List Tr:=(List.range x.n.b.toNat).map λi=>kidD x (2*i+1)
def pj(B:ak)(x:Tr)(i:Nat):Bool:=dB' ((placesM x).getD i 0).toNat (kidD x (2*i)) && iD (fB B (placesM x) 4096) (((placesM x).getD i 0).toNat+1) (kidD x (2*i+1)) (ib x.n.b.toNat x.n.b.toNat)
def lW(B:ak)(x:Tr):Nat ->Nat ->Int
 |0,_=>0
 |k+1,i=>if pj B x i=true then lW B x k (i+1)else 18
def gw(B:ak)(x:Tr):Int:=lW B x x.n.b.toNat 0
def bk(ys:List Tr)(x:Tr):Except Int Tr:=if 4096<(row (eX 4 ys x)).length then .error 9 else .ok (eX 4 ys x)
def ie(B:ak)(a:Int):List Tr:=(aR B a).params.map tr
def kc(B:ak)(a:Int):List Tr:=(aR B a).indices.map tr
def gx(B:ak)(a:Int):Except Int Tr:=(bk (kc B a) (tr (aR B a).sort)).bind (bk (ie B a))
def varsM(n:Nat)(fr:Int):List Tr:=(List.range n).map λk=>varX (fr+((n-1-k:Nat):Int))
def ja(B:ak)(a b:Int):List Tr:=(cS B a b).args.map tr
def vH(B:ak)(a b:Int):List Tr:=(cS B a b).out.map tr
def ig(B:ak)(a b:Int):Except Int Tr:=
 (aO (.mk ⟨9,a,0⟩ []) (varsM (ie B a).length ((ja B a b).length:Int)++vH B a b)).bind λt=>(bk (ja B a b) t).bind (bk (ie B a))
def cQ(ps:List Tr)(cg:Int):Nat ->Tr ->Except Int Tr
 |0,t=>.ok t
 |i+1,t=>(bq t (aK (ps.getD i (varX 0)) i 0) cg).bind (cQ ps cg i)
def jt(B:ak)(a b:Int)(ps:List Tr)(mo:Tr):Except Int Tr:=
 (aO (.mk ⟨10,a,b⟩ []) (varsM (ie B a).length ((ja B a b).length:Int)++varsM (ja B a b).length 0)).bind λmade=>
  (aO (aK mo (((ie B a).length+(ja B a b).length:Nat):Int) 0) (vH B a b++[made])).bind λt=>(bk (ja B a b) t).bind (cQ ps 0 (ie B a).length)
theorem vJ{l:List Tr}(h:∀y∈l,Ok .tm y):(l.map row).map tr=l:=by
 rw[List.map_map];have:∀y∈l,(tr∘row) y=id y:=λy a=>jJ (h y a);rw[List.map_congr_left this,List.map_id]
section
variable{B:ak}
theorem GoodF.ps_eq{i:Nat}{x:bY}{s:Tr}{ps c:List Tr}(hi:B.ents[i]?=some x)(h:GoodF B i x s ps c):ie B (i:Int)=ps/\kc B (i:Int)=c/\tr (aR B (i:Int)).sort=s:=by
 unfold ie kc;rw[sA hi,h.params,h.indices,h.sort];refine⟨vJ λy a=>?_,vJ λy a=>?_,jJ h.fs.ok⟩
 ·obtain⟨k,b⟩:=JH a
  exact(h.fp k y b).ok
 ·obtain⟨k,b⟩:=JH a
  exact(h.fi k y b).ok
theorem GoodC.ag_eq{i k:Nat}{x:bY}(hi:B.ents[i]?=some x){j l:Nat}{c:gZ}(hc:x.ctors[k]?=some c){d go:List Tr}(h:GoodC B i j l c d go):ja B (i:Int) (k:Int)=d/\vH B (i:Int) (k:Int)=go/\cS B (i:Int) (k:Int)=c:=by
 have a:cS B (i:Int) (k:Int)=c:=by simp[cS,sA hi,hc]
 unfold ja vH;rw[a,h.args,h.out];refine⟨vJ λy b=>?_,vJ λy b=>(h.fo y b).ok,rfl⟩;obtain⟨k,m⟩:=JH b;exact(h.fa k y m).ok
theorem lX{Q:Nd ->Prop}{N:Int}(a:Qk Q){ys:List Tr}{x z:Tr}(b:Ft Q (N+ys.length) x)(c:∀(i:Nat) y,ys[i]?=some y ->Ft Q (N+i) y)(h:bk ys x= .ok z):Ft Q N z:=by
 unfold bk at h;split at h
 ·cases h
 ·injection h with h
  subst h;exact Ft.bind a (.inl rfl) b c Uo
theorem Ms(d:GoodB B){a:Int}(ha:bF B B.ents.length a=true){z:Tr}(h:gx B a= .ok z):Ft (QB B) 0 z:=by
 obtain⟨i,x,s,n,o,rfl,_,b,p,c⟩:=d.fam ha (KJ _);obtain⟨q,r,u⟩:=c.ps_eq b;unfold gx at h;rw[q,r,u]at h;cases j:bk o s with
 |error E=>rw[j]at h;cases h
 |ok t=>
  rw[j]at h;have v:Ft (QB B) 0 s:=c.fs.wk λm A=>mZ (Nat.le_of_lt (aM b)) A;have D:=lX (qk B) (N:=(n.length:Int)) (v.mono Uo) (λk y l=>(c.up_i d b l).mono Ud) j;exact lX (qk B) (N:=0) (D.mono Uo) (λk y l=>(c.up_p d b l).mono Uo) h
theorem lY{Q:Nd ->Prop}(a:Qk Q){n:Nat}{fr:Int}(d:0<=fr)(hl:fr+n<=1000):∀y∈varsM n fr,Ft Q (fr+n) y:=λy b=>by
 obtain⟨k,c,rfl⟩:=List.mem_map.1 b;have:=List.mem_range.1 c;exact Ft.varX a Uo Uo Uo
theorem pk{Q:Nd ->Prop}{N:Int}{n:Nd}(a:aG n=true)(b:n.op=9 \/n.op=10)(c:Q n):Ft Q N (.mk n []):=
 Ft.one a Uo Uo Uo (by rcases b with h|h<;>simp[bv,h]) c λh=>Uo
theorem kW(b:GoodB B){a:Int}(ha:bF B B.ents.length a=true):0<=a/\a<=63:=by
 simp only[bF,Bool.and_eq_true,decide_eq_true_eq]at ha;have:=b.len;omega
theorem Mu(q:GoodB B){a b:Int}(ha:bF B B.ents.length a=true)(F:0<=b)(hb:b<(aR B a).ctors.length){z:Tr}(h:ig B a b= .ok z):Ft (QB B) 0 z:=by
 have H:=kW q ha;obtain⟨i,x,s,m,U,rfl,_,n,r,j⟩:=q.fam ha (KJ _);obtain⟨I,V,W⟩:=j.ps_eq n;obtain⟨k,rfl⟩:∃k:Nat,b=(k:Int):=⟨b.toNat,Uo⟩
 rw[r]at hb;obtain⟨c,E,_⟩:=ay (l:=x.ctors) (k:=k);obtain⟨o,K,p⟩:=j.ct k c E;obtain⟨L,M,X⟩:=p.ag_eq n E;have O:=j.lp;have P:=p.la;unfold ig at h;rw[I,L,M]at h;cases v:aO (.mk ⟨9,(i:Int),0⟩ []) (varsM m.length (o.length:Int)++K)with
 |error R=>rw[v]at h;cases h
 |ok t=>
  rw[v]at h;have A:Ft (QB B) ((m.length+o.length:Nat):Int) (.mk ⟨9,(i:Int),0⟩ []):=pk (by simp[aG,aX];omega) (.inl rfl) (by
   simp only[QB,cw,bg];simp[ha])
  have S:=gG (qk B) A (λy d=>by
   rcases List.mem_append.1 d with d|d
   ·exact(lY (qk B) Uo Uo y d).mono Uo
   ·exact p.up_o n j.kind d) v
  cases D:bk o t with
  |error R=>rw[show (Except.ok t).bind _=(bk o t).bind (bk m)from rfl,D]at h;cases h
  |ok u=>
   rw[show (Except.ok t).bind _=(bk o t).bind (bk m)from rfl,D]at h;have T:=lX (qk B) (N:=(m.length:Int)) (S.mono Uo) (λk y d=>(p.up_a n j.kind d).mono Uo) D;exact lX (qk B) (N:=0) (T.mono Uo) (λk y d=>(j.up_p q n d).mono Uo) h
theorem Ah{Q:Nd ->Prop}{N cg:Int}(c:Qk Q)(o:0<=N)(q:N<=90000)(hm:0<=cg)(d:cg<=1000){ps:List Tr}(n:∀y∈ps,Ft Q N y):∀(i:Nat) (t z:Tr),i<=ps.length ->i<=1000 ->Ft Q (N+i+cg) t ->cQ ps cg i t= .ok z ->Ft Q (N+cg) z
 |0,t,z,_,_,j,h=>by
  simp only[cQ,Except.ok.injEq]at h;subst h;exact j.mono Ud
 |i+1,t,z,hi,r,j,h=>by
  simp only[cQ]at h;obtain⟨p,a,_⟩:=ay (l:=ps) (k:=i);have e:ps.getD i (varX 0)=p:=by rw[QK,a];rfl
  rw[e]at h;have s:=(n p (JQ a)).lift c (b:=(i:Int)) Uo Uo Uo;cases m:bq t (aK p i 0) cg with
  |error A=>rw[m]at h;cases h
  |ok y=>
   rw[m]at h;have u:=jk c (N:=N+i) (v:=cg) (j.mono Uo) s Uo Uo hm Uo m;exact Ah c o q hm d n i y z Uo Uo u h
theorem Fv(M:GoodB B){N:Int}(S:0<=N)(T:N<=90000){a b:Int}(ha:bF B B.ents.length a=true)(U:0<=b)(hb:b<(aR B a).ctors.length){p:List Tr}(V:∀y∈p,Ft (QB B) N y)(A:p.length=(ie B a).length){mo:Tr}(D:Ft (QB B) N mo){z:Tr}(h:jt B a b p mo= .ok z):Ft (QB B) N z:=by
 have W:=kW M ha;obtain⟨i,x,s,m,qi,rfl,_,r,q,o⟩:=M.fam ha (KJ _);obtain⟨O,e2,e3⟩:=o.ps_eq r;obtain⟨k,rfl⟩:∃k:Nat,b=(k:Int):=⟨b.toNat,Uo⟩
 rw[q]at hb;obtain⟨c,P,_⟩:=ay (l:=x.ctors) (k:=k);obtain⟨n,E,v⟩:=o.ct k c P;obtain⟨X,Y,e6⟩:=v.ag_eq r P;have Z:=o.lp;have a0:=v.la;have a1:=o.lc;unfold jt at h;rw[O,X,Y]at h;rw[O]at A;cases F:aO (.mk ⟨10,(i:Int),(k:Int)⟩ []) (varsM m.length (n.length:Int)++varsM n.length 0)with
 |error R=>rw[F]at h;cases h
 |ok d=>
  rw[F]at h;have H:Ft (QB B) ((m.length+n.length:Nat):Int) (.mk ⟨10,(i:Int),(k:Int)⟩ []):=pk (by simp[aG,aX];omega) (.inr rfl) (by
   simp only[QB,cw,bg];simp[ha,q];omega)
  have I:=gG (qk B) H (λy j=>by
   rcases List.mem_append.1 j with j|j
   ·exact(lY (qk B) Uo Uo y j).mono Uo
   ·exact(lY (qk B) Uo Uo y j).mono Uo) F
  have hm:=D.lift (qk B) (b:=((m.length+n.length:Nat):Int)) Uo Uo Uo;cases K:aO (aK mo ((m.length+n.length:Nat):Int) 0) (E++[d])with
  |error R=>rw[show (Except.ok d).bind _=(aO (aK mo ((m.length+n.length:Nat):Int) 0) (E++[d])).bind _ from rfl,K]at h;cases h
  |ok t=>
   rw[show (Except.ok d).bind _=(aO (aK mo ((m.length+n.length:Nat):Int) 0) (E++[d])).bind _ from rfl,K]at h;have ht:=gG (qk B) hm (λy j=>by
    rcases List.mem_append.1 j with j|j
    ·exact(v.up_o r o.kind j).mono Uo
    ·obtain rfl:y=d:=by simpa using j
     exact I.mono Uo) K
   cases L:bk n t with
   |error R=>rw[show (Except.ok t).bind _=(bk n t).bind (cQ p 0 m.length)from rfl,L]at h;cases h
   |ok u=>
    rw[show (Except.ok t).bind _=(bk n t).bind (cQ p 0 m.length)from rfl,L]at h;have hu:=lX (qk B) (N:=N+m.length) (ht.mono Uo) (λk y j=>(v.up_a r o.kind j).mono Uo) L;have:=Ah (qk B) (cg:=0) S T Uo Uo V m.length u z Uo Uo (hu.mono Uo) h;exact this.mono Uo
end
def VsO(C:Mem)(n0:Nat)(w:World)(v:Value)(ys:List Tr):Prop:=∃os,Own rVal 29 n0 w v os/\uJ (λb o t=>(C b o t \/New n0 w b o t)/\some b≠v.ownBlock) os ys
section
variable{C:Mem}{w:World}{B:ak}
def TyP(C:Mem)(w:World)(r:Except Int Tr)(e:Ending)(w':World):Prop:=
 (match r with
  | .ok z=>∃u,e= .returned (.tuple #[u,iV 0])/\TmV (Cn C w w') z u
  | .error er=>e= .returned (.tuple #[.slice none 0 0,iV er])/\er≠0)/\Kp [] w w'
end
def aJ{α β:Type}(m:Except Int (α×Nat))(k:α ->Nat ->Except Int (β×Nat)):Except Int (β×Nat):=match m with
 | .error e=>.error e
 | .ok q=>k q.1 q.2
def di{α:Type}(m:Except Int α)(n:Nat):Except Int (α×Nat):=match m with
 | .error e=>.error e
 | .ok x=>.ok (x,n)
def dz(B:ak)(cx:Ctx)(t:Tr)(n:Nat):Except Int (Tr×Nat):=if 256<cx.length then .error 5 else dW B cx t (n:Int)
def ii(B:ak)(cx:Ctx)(x y:Tr)(u:Bool)(n:Nat):Except Int (Bool×Nat):=if 256<cx.length then .error 5 else lS B cx x y (n:Int) u
abbrev RcJ:=Ctx ->Tr ->Nat ->Except Int (Tr×Nat)
def fd(kind:Int)(l:List Atom):Tr:=.mk ⟨2,kind,(l.length:Int)⟩ (l.map λa=>.mk ⟨3,a.var,a.add⟩ [])
def dP(B:ak)(rc:RcJ)(cx:Ctx)(t:Tr)(n:Nat):Except Int ((Int×List Atom)×Nat):=
 aJ (rc cx t n) λty n=>aJ (dz B cx ty n) λz n=>if (headT z).n.op≠2 \/0<(argsT z).length then .error 11 else .ok (((headT z).n.a,bX (headT z)),n)
def fP(B:ak)(rc:RcJ)(cx:Ctx)(t ty:Tr)(n:Nat):Except Int (Unit×Nat):=
 aJ (rc cx t n) λz n=>aJ (ii B cx z ty true n) λb n=>if b=true then .ok ((),n)else .error 13
def jP(B:ak)(a:Int)(ps:List Tr)(i ni:Nat):Except Int Tr:=
 if i<ni then cQ ps (i:Int) ps.length ((kc B a).getD i (varX 0))else aO (.mk ⟨9,a,0⟩ []) (ps.map (λp=>aK p ni 0)++varsM ni 0)
def ju(B:ak)(a:Int)(ps:List Tr)(ni:Nat):Nat ->Nat ->Ctx ->Tr ->Nat ->Except Int (Int×Nat)
 |0,_,cx,m,n=>aJ (dz B cx m n) λf n=>if (headT f).n.op≠2 \/0<(argsT f).length then .error 16 else .ok ((headT f).n.a,n)
 |k+1,i,cx,m,n=>aJ (dz B cx m n) λf n=>if (headT f).n.op≠4 \/0<(argsT f).length then .error 16 else
   aJ (di (jP B a ps i ni) n) λw n=>aJ (ii B cx (kidD (headT f) 0) w false n) λb n=>if b=true then ju B a ps ni k (i+1) (cx++[(kidD (headT f) 0,none)]) (kidD (headT f) 1) n else .error 16
def qC(B:ak)(cx:Ctx)(a:Int)(ps:List Tr)(m:Tr)(n:Nat):Except Int (Int×Nat):=ju B a ps (kc B a).length ((kc B a).length+1) 0 cx m n
def nj(B:ak)(rc:RcJ):Ctx ->List Tr ->Nat ->Except Int (Bool×Nat)
 |_,[],n=>.ok (true,n)
 |cx,a::r,n=>aJ (dP B rc cx a n) λq n=>if q.1≠0 then .ok (false,n)else nj B rc (cx++[(a,none)]) r n
def cr(ps:List Tr):Ctx:=ps.map λp=>(p,none)
def ke(B:ak)(rc:RcJ)(a:Int)(n:Nat):Except Int (Bool×Nat):=
 if (aR B a).ctors.length=0 then .ok (true,n)else if 1<(aR B a).ctors.length then .ok (false,n)else nj B rc (cr (ie B a)) (ja B a 0) n
def lZ(B:ak)(rc:RcJ)(cx:Ctx)(a:Int)(ps:List Tr)(mo:Tr):Nat ->List Tr ->Nat ->Except Int (Unit×Nat)
 |_,[],n=>.ok ((),n)
 |k,b::r,n=>aJ (di (jt B a (k:Int) ps mo) n) λty n=>aJ (fP B rc cx b ty n) λ_ n=>lZ B rc cx a ps mo (k+1) r n
def kg(B:ak)(rc:RcJ)(cx:Ctx)(nd:Nd)(ks:List Tr)(n:Nat):Except Int (Tr×Nat):=
 let np:=(ie B nd.a).length
 let mo:=ks.getD 0 (varX 0)
 let sc:=ks.getD 1 (varX 0)
 aJ (rc cx sc n) λty n=>aJ (dz B cx ty n) λz n=>
  if (headT z).n.op≠9 \/(headT z).n.a≠nd.a \/(argsT z).length≠np+(kc B nd.a).length then .error 14
  else if (ks.drop 2).length≠(aR B nd.a).ctors.length then .error 15
  else aJ (rc cx mo n) λmt n=>aJ (qC B cx nd.a ((argsT z).take np) mt n) λkind n=>
   aJ (if (tr (aR B nd.a).sort).n.a=0/\kind=1 then ke B rc nd.a n else .ok (true,n)) λs n=>if s=false then .error 17 else
    aJ (lZ B rc cx nd.a ((argsT z).take np) mo 0 (ks.drop 2) n) λ_ n=>di (aO mo ((argsT z).drop np++[sc])) n
def nk(B:ak)(rc:RcJ)(cx:Ctx)(t:Tr):Nat ->Nat ->Nat ->Except Int (Unit×Nat)
 |0,_,n=>.ok ((),n)
 |k+1,i,n=>aJ (dP B rc cx (kidD t (2*i)) n) λ_ n=>nk B rc cx t k (i+1) n
def nl(B:ak)(rc:RcJ)(cx:Ctx)(t:Tr)(nb:Nat):Nat ->Nat ->Nat ->Except Int (Unit×Nat)
 |0,_,n=>.ok ((),n)
 |k+1,i,n=>aJ (fP B rc cx (kidD t (2*i+1)) (aK (kidD t (2*i)) nb 0) n) λ_ n=>nl B rc cx t nb k (i+1) n
def ma(B:ak)(rc:RcJ)(cx:Ctx)(t:Tr)(n:Nat):Except Int (Tr×Nat):=
 aJ (nk B rc cx t t.n.b.toNat 0 n) λ_ n=>if gw B t≠0 then .error (gw B t)else
  aJ (nl B rc (cx++aQ t) t t.n.b.toNat t.n.b.toNat 0 n) λ_ n=>.ok (kidD t (2*t.n.a.toNat),n)
def ot(t:Tr)(n:Nat):Except Int (Tr×Nat):=if dy (bX t) 1≠0 then .error (dy (bX t) 1)else .ok (fd 1 (fZ (bX t) 1),n)
def ou(B:ak)(rc:RcJ)(cx:Ctx)(t:Tr)(n:Nat):Except Int (Tr×Nat):=
 aJ (dP B rc cx (kidD t 0) n) λp n=>aJ (dP B rc (cx++[(kidD t 0,none)]) (kidD t 1) n) λq n=>
  if cK p.2 q.2≠0 then .error (cK p.2 q.2)else .ok (fd q.1 (dx p.2 q.2),n)
def ov(B:ak)(rc:RcJ)(cx:Ctx)(t:Tr)(n:Nat):Except Int (Tr×Nat):=
 aJ (dP B rc cx (kidD t 0) n) λ_ n=>aJ (rc (cx++[(kidD t 0,none)]) (kidD t 1) n) λz n=>di (bk [kidD t 0] z) n
def ow(B:ak)(rc:RcJ)(cx:Ctx)(t:Tr)(n:Nat):Except Int (Tr×Nat):=
 aJ (rc cx (kidD t 0) n) λty n=>aJ (dz B cx ty n) λz n=>if (headT z).n.op≠4 \/0<(argsT z).length then .error 12 else
  aJ (fP B rc cx (kidD t 1) (kidD (headT z) 0) n) λ_ n=>di (bq (kidD (headT z) 1) (kidD t 1) 0) n
def ox(B:ak)(rc:RcJ)(cx:Ctx)(t:Tr)(n:Nat):Except Int (Tr×Nat):=
 aJ (dP B rc cx (kidD t 0) n) λ_ n=>aJ (fP B rc cx (kidD t 1) (kidD t 0) n) λ_ n=>
  aJ (rc (cx++[(kidD t 0,some (kidD t 1))]) (kidD t 2) n) λz n=>di (bq z (kidD t 1) 0) n
def jv(B:ak)(rc:RcJ)(cx:Ctx)(t:Tr)(n:Nat):Except Int (Tr×Nat):=
 if t.n.op=1 then .ok (aK (fY cx t.n.a).1 (t.n.a+1) 0,n)
 else if t.n.op=2 then ot t n
 else if t.n.op=8 then .ok (tr (aR B t.n.a).type,n)
 else if t.n.op=9 then di (gx B t.n.a) n
 else if t.n.op=10 then di (ig B t.n.a t.n.b) n
 else if t.n.op=4 then ou B rc cx t n
 else if t.n.op=5 then ov B rc cx t n
 else if t.n.op=6 then ow B rc cx t n
 else if t.n.op=7 then ox B rc cx t n
 else if t.n.op=11 then kg B rc cx t.n (kidsT t) n
 else ma B rc cx t n
def gb(B:ak):Nat ->RcJ
 |0,_,_,_=>.error 10
 |g+1,cx,t,n=>jv B (gb B g) cx t n
structure cG(B:ak)(rc:RcJ):Prop where
 ft:∀cx t n q,CxOk B cx ->cx.length<=260 ->Ft (QB B) (cx.length:Int) t ->rc cx t n= .ok q ->Ft (QB B) (cx.length:Int) q.1
 le:∀cx t n q,rc cx t n= .ok q ->q.2<=n
 er:∀cx t n e,rc cx t n= .error e ->e≠0
theorem aN{α β:Type}{m:Except Int (α×Nat)}{k:α ->Nat ->Except Int (β×Nat)}{q:β×Nat}(h:aJ m k= .ok q):∃p,m= .ok p/\k p.1 p.2= .ok q:=by
 unfold aJ at h;split at h
 ·cases h
 ·rename_i p
  exact⟨p,rfl,h⟩
theorem bdJ_er{α β:Type}{m:Except Int (α×Nat)}{k:α ->Nat ->Except Int (β×Nat)}{e:Int}(h:aJ m k= .error e):m= .error e \/∃p,m= .ok p/\k p.1 p.2= .error e:=by
 unfold aJ at h;split at h
 ·injection h with h
  subst h;exact .inl rfl
 ·rename_i p
  exact .inr ⟨p,rfl,h⟩
theorem jw{α:Type}{m:Except Int α}{n:Nat}{q:α×Nat}(h:di m n= .ok q):m= .ok q.1/\q.2=n:=by
 unfold di at h;split at h
 ·cases h
 ·injection h with h
  subst h;exact⟨rfl,rfl⟩
theorem oy{α:Type}{m:Except Int α}{n:Nat}{e:Int}(h:di m n= .error e):m= .error e:=by
 unfold di at h;split at h
 ·injection h with h
  subst h
  rfl
 ·cases h
section
variable{B:ak}{rc:RcJ}{cx:Ctx}
theorem pm{t:Tr}{n:Nat}{q:Tr×Nat}(h:dz B cx t n= .ok q):cx.length<=256/\dW B cx t (n:Int)= .ok q/\q.2<=n:=by
 unfold dz at h;split at h
 ·cases h
 ·exact⟨Uo,h,sK h⟩
theorem vL{x y:Tr}{u:Bool}{n:Nat}{q:Bool×Nat}(h:ii B cx x y u n= .ok q):cx.length<=256/\q.2<=n:=by
 unfold ii at h;split at h
 ·cases h
 ·refine⟨Uo,?_⟩
  unfold lS at h;have:=lR B _ _ _ _ _ _ _ h;unfold bA at this;omega
theorem jb(b:GoodB B)(a:CxOk B cx){x:Tr}{n:Nat}{q:Tr×Nat}(c:Ft (QB B) (cx.length:Int) x)(h:dz B cx x n= .ok q):cx.length<=256/\q.2<=n/\Ft (QB B) (cx.length:Int) q.1:=by
 obtain⟨d,i,j⟩:=pm h;exact⟨d,j,(vD b a Uo c i).1⟩
theorem fQ(d:GoodB B)(hr:cG B rc){t:Tr}{n:Nat}{q:(Int×List Atom)×Nat}(h:dP B rc cx t n= .ok q):cx.length<=256/\q.2<=n/\(CxOk B cx ->Ft (QB B) (cx.length:Int) t ->∃s,Ft (QB B) (cx.length:Int) s/\s.n.op=2/\q.1=(s.n.a,bX s)):=by
 unfold dP at h;obtain⟨p,b,h⟩:=aN h;obtain⟨z,c,h⟩:=aN h;obtain⟨c1,m,i⟩:=pm c;split at h
 ·cases h
 ·rename_i g
  injection h with h
  subst h;refine⟨c1,KQ i (hr.le _ _ _ _ b),λa j=>⟨headT z.1,?_,Uo,rfl⟩⟩;have l:=hr.ft cx t n p a Uo j b;exact(jb d a l c).2.2.head
theorem mb(hr:cG B rc){t ty:Tr}{n:Nat}{q:Unit×Nat}(h:fP B rc cx t ty n= .ok q):cx.length<=256/\q.2<=n:=by
 unfold fP at h;obtain⟨p,a,h⟩:=aN h;obtain⟨z,b,h⟩:=aN h;obtain⟨c1,c⟩:=vL b;split at h
 ·injection h with h
  subst h;exact⟨c1,KQ c (hr.le _ _ _ _ a)⟩
 ·cases h
structure kh(vars:Int)(l:List Atom):Prop where
 lo:1<=l.length
 hi:l.length<=4
 up:(l.map Atom.var).Pairwise (· < ·)
 at_:∀x∈l,0<=x.var/\x.var<=16/\x.var<=vars/\0<=x.add/\x.add<=1000
theorem sL{x:Tr}{N:Int}(p:Ft (QB B) N x)(h2:x.n.op=2):kh B.vars (bX x):=by
 obtain⟨A,q,r,j⟩:=Fo p.ok h2;have K:=p.ok.pl;have t:(x.n.a=0 \/x.n.a=1)/\aX x.n.b 1 4=true:=by simpa[aG,h2]using K
 have L:=dE.1 t.2;have u:=p.al;have i:=p.ok.2;obtain⟨n,M⟩:=x;have h2:n.op=2:=h2;simp only[Tr.ks,Tr.n]at r q j L;simp only[gQ',KX h2,Bool.and_eq_true]at i;refine⟨by simp[bX,Tr.ks];omega,by simp[bX,Tr.ks];omega,?_,?_⟩
 ·have:∀(l:List Tr) (c:Int),rS' c l=true ->(∀y∈l,c<y.n.a)/\(l.map λy=>y.n.a).Pairwise (· < ·):=by
   intro l
   induction l with
   |nil=>intro c _;exact⟨(λy d=>by cases d),List.Pairwise.nil⟩
   |cons z l O=>
    intro c h;simp only[rS',Bool.and_eq_true,decide_eq_true_eq]at h;obtain⟨D,P⟩:=O z.n.a h.2;refine⟨λy d=>?_,?_⟩
    ·rcases List.mem_cons.1 d with rfl|d
     ·exact h.1
     ·have:=D y d;omega
    ·rw[List.map_cons,List.pairwise_cons]
     refine⟨λy d=>?_,P⟩;obtain⟨R,v,rfl⟩:=List.mem_map.1 d;exact D R v
  have:=(this M (-1) i.1).2
  simpa[bX,Tr.ks,List.map_map,Function.comp_def]using this
 ·intro y d
  obtain⟨k,E,rfl⟩:=List.mem_map.1 d;obtain⟨S,T⟩:=j k E;have U:=zf (lJ.1 u).2 E;obtain⟨⟨o,a,b⟩,s⟩:=k;have F:=(lJ.1 U).1;obtain rfl:o=3:=S;have m:aX a 0 16=true/\aX b 0 1000=true:=by simpa[aG,Tr.n]using T
  have H:=dE.1 m.1;have I:=dE.1 m.2;simp[QB,cw,bg]at F;exact⟨H.1,H.2,F,I.1,I.2⟩
theorem Fw{N:Int}{kind:Int}(E:kind=0 \/kind=1){l:List Atom}(h:kh B.vars l):Ft (QB B) N (fd kind l):=by
 have D:(fd kind l).ks.length=l.length:=by simp[fd,Tr.ks]
 have o:row (fd kind l)=⟨2,kind,(l.length:Int)⟩::l.map λa=>⟨3,a.var,a.add⟩:=by
  unfold fd;simp only[row]
  congr 1
  induction l with
  |nil=>rfl
  |cons a l i=>
   simp only[List.map_cons,rows,row];have:∀(l:List Atom),rows (l.map λa=>(.mk ⟨3,a.var,a.add⟩ []:Tr))=l.map λa=>⟨3,a.var,a.add⟩:=by
    intro l
    induction l with
    |nil=>rfl
    |cons b l i=>simp[rows,row,i]
   rw[this]
   rfl
 have v:aG ⟨2,kind,(l.length:Int)⟩=true:=by
  have p:=h.lo;have r:=h.hi;simp only[aG];rw[KY UO,KX trivial];simp only[Bool.and_eq_true,Bool.or_eq_true,decide_eq_true_eq,dE];exact⟨E,Uo,Uo⟩
 have y:∀a∈l,aG ⟨3,a.var,a.add⟩=true:=λa j=>by
  have:=h.at_ a j;simp only[aG];rw[KY UO,KY UO,KX trivial];simp only[Bool.and_eq_true,dE];omega
 refine⟨⟨⟨?_,?_⟩,?_⟩,?_,?_,?_⟩
 ·simp only[cnt,v]
  rw[KX ⟨trivial,UO,UO⟩];simp
 ·have:∀(l:List Atom) (k:Nat),(∀a∈l,aG ⟨3,a.var,a.add⟩=true) ->bC cnt nx (l.map λa=>(.mk ⟨3,a.var,a.add⟩ []:Tr)) ⟨2,kind,(l.length:Int)⟩ .tm k:=by
   have z:∀(n:Nd),n.op=2 ->∀(l:List Atom) (k:Nat),(∀a∈l,aG ⟨3,a.var,a.add⟩=true) ->bC cnt nx (l.map λa=>(.mk ⟨3,a.var,a.add⟩ []:Tr)) n .tm k:=by
    intro n F l
    induction l with
    |nil=>intro k _;trivial
    |cons b l i=>
     intro k s;refine⟨⟨?_,trivial⟩,i _ λa j=>s a (by simp[j])⟩;have A:nx Md.tm n k= .am:=by simp[nx,F]
     rw[A];simp[cnt,s b Ud]
   intro H k s;exact z _ rfl H k s
  exact this l 0 y
 ·have:∀(l:List Atom) (c:Int),(∀a∈l,c<a.var) ->(l.map Atom.var).Pairwise (· < ·) ->rS' c (l.map λa=>(.mk ⟨3,a.var,a.add⟩ []:Tr))=true:=by
   intro l
   induction l with
   |nil=>intro c _ _;rfl
   |cons b l i=>
    intro c p r;rw[List.map_cons,List.pairwise_cons]at r;simp only[List.map_cons,rS',Bool.and_eq_true,Tr.n];exact⟨KU (p b Ud),i b.var (λa j=>r.1 a.var (QD j)) r.2⟩
  have p:=this l (-1) (λa j=>by have:=h.at_ a j;omega) h.up;have I:∀(l:List Atom),fc' (l.map λa=>(.mk ⟨3,a.var,a.add⟩ []:Tr))=true:=by
   intro l
   induction l with
   |nil=>rfl
   |cons b l i=>simp[fc',gQ',i]
  simp[fd,gQ',p,I]
 ·rw[o]
  have:=h.hi;simp;omega
 ·intro q t
  exfalso;simp only[fd,varsT]at t;rw[KY UO]at t;have:∀(l:List Atom) (n:Nd) (K k d:Int),varsK (l.map λa=>(.mk ⟨3,a.var,a.add⟩ []:Tr)) n K k d=[]:=by
   intro l
   induction l with
   |nil=>intros;rfl
   |cons b l i=>intros;simp[varsK,varsT,i]
  rw[this]at t;cases t
 ·intro m u
  rw[o]at u;rcases List.mem_cons.1 u with rfl|u
  ·simp[QB,cw,bg]
  ·obtain⟨a,j,rfl⟩:=List.mem_map.1 u
   have:=h.at_ a j;simp[QB,cw,bg];omega
theorem Ai{vars:Int}{l:List Atom}(h:kh vars l)(he:dy l 1=0):kh vars (fZ l 1):=by
 have d:fZ l 1=iB l 1:=by unfold fZ;rw[KX he]
 rw[d];have c:(iB l 1).map Atom.var=l.map Atom.var:=by simp[iB,List.map_map,Function.comp_def]
 have a:∀x∈l,x.add+1<=1000:=by
  unfold dy at he;split at he
  ·cases he
  ·rw[KY UO]at he
   split at he
   ·cases he
   ·rename_i g
    intro x b;have:¬ (l.any λx=>decide (1000<x.add+1))=true:=g;rw[List.any_eq_true]at this
    by_cases q:1000<x.add+1
    ·exact absurd ⟨x,b,by simpa using q⟩ this
    ·omega
 refine⟨by simpa[iB]using h.lo,by simpa[iB]using h.hi,by rw[c];exact h.up,λy i=>?_⟩;obtain⟨x,b,rfl⟩:=List.mem_map.1 i;have:=h.at_ x b;have:=a x b;simp only;omega
theorem Aj{vars:Int}{a b:List Atom}(ha:kh vars a)(hb:kh vars b)(he:cK a b=0):kh vars (dx a b):=by
 have t:dx a b=maxL a b:=by unfold dx;rw[KX he]
 rw[t];have d:=z9 (mapF (a++b)) (List.range 17);have d:(maxL a b).map Atom.var=iA (mapF (a++b)) (List.range 17):=d;have m:(maxL a b).length<=4:=by
  unfold cK at he;split at he
  ·cases he
  ·split at he
   ·cases he
   ·omega
 have i:∀x v,mapF (a++b) x=some v ->∃y,(y∈a \/y∈b)/\y.var=x/\y.add=v:=λx v h=>by
  obtain⟨y,c,q,s⟩:=vB h;exact⟨y,List.mem_append.1 c,q,s⟩
 have o:∀y∈maxL a b,mapF (a++b) y.var=some y.add:=λy c=>by
  unfold maxL at c;obtain⟨v,_,j⟩:=List.mem_filterMap.1 c;cases h:mapF (a++b) v with
  |none=>rw[h]at j;cases j
  |some n=>
   rw[h]at j;obtain rfl:=JB j;exact h
 refine⟨?_,m,by rw[d];exact Aa _ _,λy c=>?_⟩
 ·obtain⟨y,c⟩:∃y,y∈a:=by
   cases a with
   |nil=>have:=ha.lo;simp at this
   |cons y r=>exact⟨y,Ud⟩
  have u:=ha.at_ y c;obtain⟨v,j,_⟩:=Mc (l:=a++b) (y:=y) (by simp[c]);have:(⟨y.var,v⟩:Atom)∈maxL a b:=by
   unfold maxL;refine List.mem_filterMap.2 ⟨y.var.toNat,List.mem_range.2 Uo,?_⟩;rw[show ((y.var.toNat:Nat):Int)=y.var by omega,j]
   rfl
  have:=List.length_pos_of_mem this;omega
 ·obtain⟨z,p,q,s⟩:=i _ _ (o y c)
  rw[<- q,<- s];rcases p with p|p
  ·exact ha.at_ z p
  ·exact hb.at_ z p
end
theorem tm_ops{x:Tr}(h:Ok .tm x):x.n.op=1 \/x.n.op=2 \/x.n.op=4 \/x.n.op=5 \/x.n.op=6 \/x.n.op=7 \/x.n.op=8 \/x.n.op=9 \/x.n.op=10 \/x.n.op=11 \/x.n.op=12:=by
 obtain⟨n,c⟩:=x;obtain⟨a,d,b,_⟩:=fq h.kids.1;simp only[Tr.n];simp only[aG]at a
 repeat' split at a
 all_goals first|omega|(exact absurd a UO)
theorem mc{Q:Nd ->Prop}{N:Int}{x:Tr}(h:Ft Q N x)(a:x.n.op=11):((kidsT x).length:Int)=2+x.n.b/\0<=x.n.b/\x.n.b<=16/\∀y∈kidsT x,Ft Q N y:=by
 obtain⟨b,c,d,i⟩:=hH h.ok a;exact⟨by rw[b];exact c,d,i,Af h Uo⟩
theorem Mv{x:Tr}(h:Ok .tm x)(h2:x.n.op=2):x.n.a=0 \/x.n.a=1:=by
 have a:=h.pl;have:(x.n.a=0 \/x.n.a=1)/\aX x.n.b 1 4=true:=by simpa[aG,h2]using a
 exact this.1
section
variable{B:ak}{rc:RcJ}{cx:Ctx}
theorem kX(d:GoodB B)(hr:cG B rc)(a:CxOk B cx){t:Tr}(i:Ft (QB B) (cx.length:Int) t){n:Nat}{q:(Int×List Atom)×Nat}(h:dP B rc cx t n= .ok q):cx.length<=256/\(q.1.1=0 \/q.1.1=1)/\kh B.vars q.1.2:=by
 obtain⟨j,o,l⟩:=fQ d hr h;obtain⟨s,b,c,m⟩:=l a i;rw[m];exact⟨j,Mv b.ok c,sL b c⟩
theorem bB{q:Tr×Option Tr}:(cx++[q]).length=cx.length+1:=Ud
theorem kY{ys:List Tr}{x:Tr}{e:Int}(h:bk ys x= .error e):e=9:=by
 unfold bk at h;split at h
 ·injection h with h;exact h.symm
 ·cases h
theorem ebind_er{α β:Type}{m:Except Int α}{k:α ->Except Int β}{e:Int}(h:m.bind k= .error e):m= .error e \/∃x,k x= .error e:=by
 cases m with
 |error a=>
  have h:Except.error a=Except.error e:=h;injection h with h
  exact .inl (by rw[h])
 |ok a=>exact .inr ⟨a,h⟩
theorem Ak{ps:List Tr}{cg:Int}{e:Int}:∀(i:Nat) (t:Tr),cQ ps cg i t= .error e ->e=9
 |0,t,h=>by cases h
 |i+1,t,h=>by
  rcases ebind_er h with h|⟨x,h⟩
  ·exact jp h
  ·exact Ak i x h
theorem Am{a b:Int}{ps:List Tr}{mo:Tr}{e:Int}(h:jt B a b ps mo= .error e):e=9:=by
 rcases ebind_er h with h|⟨x,h⟩
 ·exact iX h
 rcases ebind_er h with h|⟨y,h⟩
 ·exact iX h
 rcases ebind_er h with h|⟨y,h⟩
 ·exact kY h
 ·exact Ak _ _ h
theorem An{a:Int}{e:Int}(h:gx B a= .error e):e=9:=by
 rcases ebind_er h with h|⟨x,h⟩
 ·exact kY h
 ·exact kY h
theorem Ao{a b:Int}{e:Int}(h:ig B a b= .error e):e=9:=by
 rcases ebind_er h with h|⟨x,h⟩
 ·exact iX h
 rcases ebind_er h with h|⟨y,h⟩
 ·exact kY h
 ·exact kY h
theorem Mw{a:Int}{ps:List Tr}{i b:Nat}{e:Int}(h:jP B a ps i b= .error e):e=9:=by
 unfold jP at h;split at h
 ·exact Ak _ _ h
 ·exact iX h
theorem andE_er{m:Except Int (Bool×Nat)}{k:Nat ->Except Int (Bool×Nat)}{e:Int}(h:gL m k= .error e):m= .error e \/∃n,k n= .error e:=by
 unfold gL at h;split at h
 ·injection h with h
  subst h;exact .inl rfl
 ·rename_i q
  split at h
  ·exact .inr ⟨_,h⟩
  ·cases h
abbrev vM(rc:RcC):Prop:=∀cx x y u n e,rc cx x y u n= .error e ->e≠0
theorem Ap{rc:RcC}(hr:vM rc){e:Int}:∀(xs ys:List Tr) (n:Nat),dh rc cx xs ys n= .error e ->e≠0
 |x::r,y::s,n,h=>by
  rcases andE_er h with h|⟨m,h⟩
  ·exact hr _ _ _ _ _ _ h
  ·exact Ap hr r s _ h
 |[],ys,n,h=>by simp[dh]at h
 |x::r,[],n,h=>by simp[dh]at h
theorem Fx{rc:RcC}(hr:vM rc){c:Ctx}{e:Int}:∀(xs ys:List Tr) (n:Nat),eJ rc cx c xs ys n= .error e ->e≠0
 |x::a::r,y::b::s,n,h=>by
  rcases andE_er h with h|⟨m,h⟩
  ·exact hr _ _ _ _ _ _ h
  rcases andE_er h with h|⟨m,h⟩
  ·exact hr _ _ _ _ _ _ h
  ·exact Fx hr r s _ h
 |[],ys,n,h=>by simp[eJ]at h
 |[x],ys,n,h=>by simp[eJ]at h
 |x::a::r,[],n,h=>by simp[eJ]at h
 |x::a::r,[y],n,h=>by simp[eJ]at h
theorem Mx{rc:RcC}(hr:vM rc){f g:Tr}{u:Bool}{n:Nat}{e:Int}(h:jq B rc cx f g u n= .error e):e≠0:=by
 unfold jq at h;split at h
 ·cases h
 split at h
 ·rcases andE_er h with h|⟨m,h⟩
  ·exact hr _ _ _ _ _ _ h
  ·exact hr _ _ _ _ _ _ h
 split at h
 ·rcases andE_er h with h|⟨m,h⟩
  ·exact hr _ _ _ _ _ _ h
  ·exact hr _ _ _ _ _ _ h
 split at h
 ·split at h
  ·unfold nf at h
   split at h
   ·exact Fx hr _ _ _ h
   ·cases h
  ·cases h
 split at h
 ·exact Ap hr _ _ _ h
 ·cases h
theorem qD{x:Tr}{f:Int}{e:Int}(h:dW B cx x f= .error e):e≠0:=by
 have:=whnf_er _ _ _ _ _ h;omega
theorem sM(B:ak):∀(g:Nat),vM (db B g)
 |0,cx,x,y,u,n,e,h=>by
  simp only[db]at h;injection h with h
  omega
 |g+1,cx,x,y,u,n,e,h=>by
  simp only[db]at h;split at h
  ·injection h with h
   omega
  split at h
  ·cases h
  split at h
  ·injection h with h
   omega
  split at h
  ·rename_i er a
   injection h with h
   subst h;exact qD a
  split at h
  ·rename_i er a
   injection h with h
   subst h;exact qD a
  ·unfold ol at h
   split at h
   ·cases h
   rcases andE_er h with h|⟨m,h⟩
   ·exact Mx (sM B g) h
   ·exact Ap (sM B g) _ _ _ h
theorem ki{t:Tr}{n:Nat}{e:Int}(h:dz B cx t n= .error e):e≠0:=by
 unfold dz at h;split at h
 ·injection h with h
  omega
 ·exact qD h
theorem vO{x y:Tr}{u:Bool}{n:Nat}{e:Int}(h:ii B cx x y u n= .error e):e≠0:=by
 unfold ii at h;split at h
 ·injection h with h
  omega
 ·exact sM B _ _ _ _ _ _ _ h
theorem jc(hr:cG B rc){t:Tr}{n:Nat}{e:Int}(h:dP B rc cx t n= .error e):e≠0:=by
 rcases bdJ_er h with h|⟨p,_,h⟩
 ·exact hr.er _ _ _ _ h
 rcases bdJ_er h with h|⟨p,_,h⟩
 ·exact ki h
 split at h
 ·injection h with h
  omega
 ·cases h
theorem oz(hr:cG B rc){t ty:Tr}{n:Nat}{e:Int}(h:fP B rc cx t ty n= .error e):e≠0:=by
 rcases bdJ_er h with h|⟨p,_,h⟩
 ·exact hr.er _ _ _ _ h
 rcases bdJ_er h with h|⟨p,_,h⟩
 ·exact vO h
 split at h
 ·cases h
 ·injection h with h
  omega
theorem Fy{a:Int}{ps:List Tr}{b:Nat}{e:Int}:∀(k i:Nat) (cx:Ctx) (m:Tr) (n:Nat),ju B a ps b k i cx m n= .error e ->e≠0
 |0,i,cx,m,n,h=>by
  rcases bdJ_er h with h|⟨p,_,h⟩
  ·exact ki h
  split at h
  ·injection h with h
   omega
  ·cases h
 |k+1,i,cx,m,n,h=>by
  rcases bdJ_er h with h|⟨p,_,h⟩
  ·exact ki h
  split at h
  ·injection h with h
   omega
  rcases bdJ_er h with h|⟨p,_,h⟩
  ·have:=Mw (oy h)
   omega
  rcases bdJ_er h with h|⟨p,_,h⟩
  ·exact vO h
  split at h
  ·exact Fy k _ _ _ _ h
  ·injection h with h
   omega
theorem Aq{a:Int}{ps:List Tr}{b:Nat}{q:Int×Nat}:∀(k i:Nat) (cx:Ctx) (m:Tr) (n:Nat),ju B a ps b k i cx m n= .ok q ->q.2<=n
 |0,i,cx,m,n,h=>by
  obtain⟨p,h1,h⟩:=aN h;have:=(pm h1).2.2;split at h
  ·cases h
  ·injection h with h
   subst h;exact this
 |k+1,i,cx,m,n,h=>by
  obtain⟨p,h1,h⟩:=aN h;have j:=(pm h1).2.2;split at h
  ·cases h
  obtain⟨l,c,h⟩:=aN h;have o:=(jw c).2;obtain⟨r,d,h⟩:=aN h;have s:=(vL d).2;split at h
  ·have:=Aq k _ _ _ _ h
   omega
  ·cases h
theorem Fz(hr:cG B rc){e:Int}:∀(l:List Tr) (cx:Ctx) (n:Nat),nj B rc cx l n= .error e ->e≠0
 |[],cx,n,h=>by cases h
 |a::r,cx,n,h=>by
  rcases bdJ_er h with h|⟨p,_,h⟩
  ·exact jc hr h
  split at h
  ·cases h
  ·exact Fz hr r _ _ h
theorem FA(b:GoodB B)(hr:cG B rc){q:Bool×Nat}:∀(l:List Tr) (cx:Ctx) (n:Nat),nj B rc cx l n= .ok q ->q.2<=n
 |[],cx,n,h=>by
  injection h with h
  subst h;exact KJ _
 |a::r,cx,n,h=>by
  obtain⟨p,h1,h⟩:=aN h;have c:=(fQ b hr h1).2.1;split at h
  ·injection h with h
   subst h;exact c
  ·have:=FA b hr r _ _ h
   omega
theorem FB(hr:cG B rc){a:Int}{n:Nat}{e:Int}(h:ke B rc a n= .error e):e≠0:=by
 unfold ke at h;split at h
 ·cases h
 split at h
 ·cases h
 ·exact Fz hr _ _ _ h
theorem Ar(b:GoodB B)(hr:cG B rc){a:Int}{n:Nat}{q:Bool×Nat}(h:ke B rc a n= .ok q):q.2<=n:=by
 unfold ke at h;split at h
 ·injection h with h
  subst h;exact KJ _
 split at h
 ·injection h with h
  subst h;exact KJ _
 ·exact FA b hr _ _ _ h
theorem FC(hr:cG B rc){a:Int}{ps:List Tr}{mo:Tr}{e:Int}:∀(l:List Tr) (k n:Nat),lZ B rc cx a ps mo k l n= .error e ->e≠0
 |[],k,n,h=>by cases h
 |b::r,k,n,h=>by
  rcases bdJ_er h with h|⟨p,_,h⟩
  ·have:=Am (oy h)
   omega
  rcases bdJ_er h with h|⟨p,_,h⟩
  ·exact oz hr h
  ·exact FC hr r _ _ h
theorem FD(hr:cG B rc){a:Int}{ps:List Tr}{mo:Tr}{q:Unit×Nat}:∀(l:List Tr) (k n:Nat),lZ B rc cx a ps mo k l n= .ok q ->q.2<=n
 |[],k,n,h=>by
  injection h with h
  subst h;exact KJ _
 |b::r,k,n,h=>by
  obtain⟨p,h1,h⟩:=aN h;have d:=(jw h1).2;obtain⟨i,c,h⟩:=aN h;have j:=(mb hr c).2;have:=FD hr r _ _ h;omega
theorem FE(hr:cG B rc){t:Tr}{e:Int}:∀(k i n:Nat),nk B rc cx t k i n= .error e ->e≠0
 |0,i,n,h=>by cases h
 |k+1,i,n,h=>by
  rcases bdJ_er h with h|⟨p,_,h⟩
  ·exact jc hr h
  ·exact FE hr k _ _ h
theorem FF(a:GoodB B)(hr:cG B rc){t:Tr}{q:Unit×Nat}:∀(k i n:Nat),nk B rc cx t k i n= .ok q ->q.2<=n/\(0<k ->cx.length<=256)
 |0,i,n,h=>by
  injection h with h
  subst h;exact⟨KJ _,λh=>Uo⟩
 |k+1,i,n,h=>by
  obtain⟨p,h1,h⟩:=aN h;have b:=fQ a hr h1;have:=FF a hr k _ _ h;exact⟨Uo,λ_=>b.1⟩
theorem FG(hr:cG B rc){t:Tr}{nb:Nat}{e:Int}:∀(k i n:Nat),nl B rc cx t nb k i n= .error e ->e≠0
 |0,i,n,h=>by cases h
 |k+1,i,n,h=>by
  rcases bdJ_er h with h|⟨p,_,h⟩
  ·exact oz hr h
  ·exact FG hr k _ _ h
theorem FH(hr:cG B rc){t:Tr}{nb:Nat}{q:Unit×Nat}:∀(k i n:Nat),nl B rc cx t nb k i n= .ok q ->q.2<=n
 |0,i,n,h=>by
  injection h with h
  subst h;exact KJ _
 |k+1,i,n,h=>by
  obtain⟨p,h1,h⟩:=aN h;have a:=(mb hr h1).2;have:=FH hr k _ _ h;omega
end
section
variable{B:ak}{rc:RcJ}{cx:Ctx}
theorem FI{P:Prop}(t:Tr)(h:Ok .tm t)(h1:t.n.op=1 ->P)(h2:t.n.op=2 ->P)(d:t.n.op=8 ->P)(i:t.n.op=9 ->P)(a:t.n.op=10 ->P)(h4:t.n.op=4 ->P)(j:t.n.op=5 ->P)(l:t.n.op=6 ->P)(m:t.n.op=7 ->P)(b:t.n.op=11 ->P)(c:t.n.op=12 ->P):P:=by
 rcases tm_ops h with g|g|g|g|g|g|g|g|g|g|g
 ·exact h1 g
 ·exact h2 g
 ·exact h4 g
 ·exact j g
 ·exact l g
 ·exact m g
 ·exact d g
 ·exact i g
 ·exact a g
 ·exact b g
 ·exact c g
theorem My(hr:cG B rc){t:Tr}{n:Nat}{e:Int}(h:jv B rc cx t n= .error e):e≠0:=by
 unfold jv at h;split at h
 ·cases h
 split at h
 ·unfold ot at h
  split at h
  ·injection h with h
   omega
  ·cases h
 split at h
 ·cases h
 split at h
 ·have:=An (oy h)
  omega
 split at h
 ·have:=Ao (oy h)
  omega
 split at h
 ·unfold ou at h
  rcases bdJ_er h with h|⟨p,_,h⟩
  ·exact jc hr h
  rcases bdJ_er h with h|⟨q,_,h⟩
  ·exact jc hr h
  split at h
  ·injection h with h
   omega
  ·cases h
 split at h
 ·unfold ov at h
  rcases bdJ_er h with h|⟨p,_,h⟩
  ·exact jc hr h
  rcases bdJ_er h with h|⟨q,_,h⟩
  ·exact hr.er _ _ _ _ h
  have:=kY (oy h);omega
 split at h
 ·unfold ow at h
  rcases bdJ_er h with h|⟨p,_,h⟩
  ·exact hr.er _ _ _ _ h
  rcases bdJ_er h with h|⟨q,_,h⟩
  ·exact ki h
  split at h
  ·injection h with h
   omega
  rcases bdJ_er h with h|⟨q,_,h⟩
  ·exact oz hr h
  have:=jp (oy h);omega
 split at h
 ·unfold ox at h
  rcases bdJ_er h with h|⟨p,_,h⟩
  ·exact jc hr h
  rcases bdJ_er h with h|⟨q,_,h⟩
  ·exact oz hr h
  rcases bdJ_er h with h|⟨q,_,h⟩
  ·exact hr.er _ _ _ _ h
  have:=jp (oy h);omega
 split at h
 ·unfold kg at h
  simp only at h;rcases bdJ_er h with h|⟨p,_,h⟩
  ·exact hr.er _ _ _ _ h
  rcases bdJ_er h with h|⟨q,_,h⟩
  ·exact ki h
  split at h
  ·injection h with h
   omega
  split at h
  ·injection h with h
   omega
  rcases bdJ_er h with h|⟨q,_,h⟩
  ·exact hr.er _ _ _ _ h
  rcases bdJ_er h with h|⟨q,_,h⟩
  ·exact Fy _ _ _ _ _ h
  rcases bdJ_er h with h|⟨q,_,h⟩
  ·split at h
   ·exact FB hr h
   ·cases h
  split at h
  ·injection h with h
   omega
  rcases bdJ_er h with h|⟨q,_,h⟩
  ·exact FC hr _ _ _ h
  have:=iX (oy h);omega
 ·unfold ma at h
  rcases bdJ_er h with h|⟨p,_,h⟩
  ·exact FE hr _ _ _ h
  split at h
  ·injection h with h
   omega
  rcases bdJ_er h with h|⟨p,_,h⟩
  ·exact FG hr _ _ _ h
  cases h
theorem Mz(c:GoodB B)(hr:cG B rc){t:Tr}{n:Nat}{q:Tr×Nat}(h:jv B rc cx t n= .ok q):q.2<=n:=by
 unfold jv at h;split at h
 ·injection h with h
  subst h;exact KJ _
 split at h
 ·unfold ot at h
  split at h
  ·cases h
  ·injection h with h
   subst h;exact KJ _
 split at h
 ·injection h with h
  subst h;exact KJ _
 split at h
 ·exact Nat.le_of_eq (jw h).2
 split at h
 ·exact Nat.le_of_eq (jw h).2
 split at h
 ·unfold ou at h
  obtain⟨d,a,h⟩:=aN h;obtain⟨i,b,h⟩:=aN h;have j:=(fQ c hr a).2.1;have l:=(fQ c hr b).2.1;split at h
  ·cases h
  ·injection h with h
   subst h;simp only;omega
 split at h
 ·unfold ov at h
  obtain⟨d,a,h⟩:=aN h;obtain⟨i,b,h⟩:=aN h;have j:=(fQ c hr a).2.1;have l:=hr.le _ _ _ _ b;have p:=(jw h).2;omega
 split at h
 ·unfold ow at h
  obtain⟨d,a,h⟩:=aN h;obtain⟨i,b,h⟩:=aN h;have j:=hr.le _ _ _ _ a;have l:=(pm b).2.2;split at h
  ·cases h
  obtain⟨r,m,h⟩:=aN h;have p:=(mb hr m).2;have s:=(jw h).2;omega
 split at h
 ·unfold ox at h
  obtain⟨d,a,h⟩:=aN h;obtain⟨i,b,h⟩:=aN h;obtain⟨r,m,h⟩:=aN h;have j:=(fQ c hr a).2.1;have l:=(mb hr b).2;have p:=hr.le _ _ _ _ m;have s:=(jw h).2;omega
 split at h
 ·unfold kg at h
  simp only at h;obtain⟨d,a,h⟩:=aN h;obtain⟨i,b,h⟩:=aN h;have j:=hr.le _ _ _ _ a;have l:=(pm b).2.2;split at h
  ·cases h
  split at h
  ·cases h
  obtain⟨r,m,h⟩:=aN h;obtain⟨u,v,h⟩:=aN h;obtain⟨y,o,h⟩:=aN h;have p:=hr.le _ _ _ _ m;have s:=Aq _ _ _ _ _ v;have A:y.2<=u.2:=by
   split at o
   ·exact Ar c hr o
   ·injection o with o
    subst o;exact KJ _
  split at h
  ·cases h
  obtain⟨D,z,h⟩:=aN h;have E:=FD hr _ _ _ z;have F:=(jw h).2;omega
 ·unfold ma at h
  obtain⟨d,a,h⟩:=aN h;have j:=(FF c hr _ _ _ a).1;split at h
  ·cases h
  obtain⟨i,b,h⟩:=aN h;have l:=FH hr _ _ _ b;injection h with h
  subst h;simp only;omega
theorem FJ{α:Type}{l:List α}{i:Nat}{d:α}(h:i<l.length):l.getD i d∈l:=by
 rw[QK,List.getElem?_eq_getElem h];exact List.getElem_mem h
theorem MA(p:GoodB B)(hr:cG B rc)(a:CxOk B cx)(u:cx.length<=260){t:Tr}(c:Ft (QB B) (cx.length:Int) t){n:Nat}{q:Tr×Nat}(h:jv B rc cx t n= .ok q):Ft (QB B) (cx.length:Int) q.1:=by
 have z:(0:Int)<=(cx.length:Int):=Uo
 unfold jv at h;split at h
 ·rename_i g
  injection h with h
  subst h;obtain⟨S,ks⟩:=t;obtain⟨v0,T,_⟩:=c.var_lt g;obtain⟨c1,c2⟩:=a _ _ (oe v0 T);have:=c1.lift (qk B) (b:=S.a+1) Uo Uo Uo;refine this.mono ?_;omega
 split at h
 ·unfold ot at h
  rename_i g;split at h
  ·cases h
  ·rename_i F
   injection h with h
   subst h;exact Fw (.inr rfl) (Ai (sL c g) Uo)
 split at h
 ·rename_i g
  injection h with h
  subst h;obtain⟨i,x,ty,bo,M,r,U,H⟩:=p.dfn c.node' g;simp only;rw[U,H.type,jJ H.ft.ok];exact(H.ft.wk λm V=>mZ (Nat.le_of_lt (aM r)) V).mono z
 split at h
 ·rename_i g
  have I:=dn c.ok.pl;exact(Ms p (zy c.node' g I.2.2.1) (jw h).1).mono z
 split at h
 ·rename_i g
  have I:=dn c.ok.pl;exact(Mu p (iS c.node' (.inl g)) I.1 (uV c.node' g) (jw h).1).mono z
 split at h
 ·unfold ou at h
  rename_i g;obtain⟨_,d,j⟩:=dq c (.inl g);obtain⟨A,l,h⟩:=aN h;obtain⟨D,s,h⟩:=aN h;obtain⟨N,O,K⟩:=kX p hr a d l;obtain⟨b1,W,X⟩:=kX p hr (a.snoc d λx r=>by cases r) (t:=kidD t 1) (by rw[bB];exact j.mono Uo) s;split at h
  ·cases h
  ·rename_i F
   injection h with h
   subst h;exact Fw W (Aj K X Uo)
 split at h
 ·unfold ov at h
  rename_i g;obtain⟨_,d,j⟩:=dq c (.inr g);obtain⟨A,l,h⟩:=aN h;obtain⟨D,s,h⟩:=aN h;obtain⟨N,O,K⟩:=kX p hr a d l;have:=hr.ft _ _ _ _ (a.snoc d λx r=>by cases r) (by rw[bB];omega) (by rw[bB];exact j.mono Uo) s;rw[bB]at this;refine lX (qk B) (this.mono Ud) (λi y o=>?_) (jw h).1;have M:=aM o;obtain rfl:i=0:=by simp at M;omega
  simp only[List.getElem?_cons_zero,QZ]at o;subst o;exact d.mono Uo
 split at h
 ·unfold ow at h
  rename_i g;obtain⟨_,d,j⟩:=nc c g;obtain⟨A,l,h⟩:=aN h;obtain⟨D,s,h⟩:=aN h;have f1:=hr.ft _ _ _ _ a u d l;obtain⟨_,_,f2⟩:=jb p a f1 s;split at h
  ·cases h
  rename_i F;obtain⟨P,L,h⟩:=aN h;obtain⟨_,z0,Y⟩:=dq f2.head (.inl Uo);have:=jk (qk B) (v:=0) (Y.mono Uo) j z Uo Uo Uo (jw h).1;exact this.mono Uo
 split at h
 ·unfold ox at h
  rename_i g;obtain⟨_,d,j,Z⟩:=kU c g;obtain⟨A,l,h⟩:=aN h;obtain⟨D,s,h⟩:=aN h;obtain⟨P,L,h⟩:=aN h;obtain⟨N,O,K⟩:=kX p hr a d l;have:=hr.ft _ _ _ _ (a.snoc d λx r=>by injection r with r;rw[<- r];exact j) (by rw[bB];omega) (by rw[bB];exact Z.mono Uo) L;rw[bB]at this;have:=jk (qk B) (v:=0) (this.mono Uo) j z Uo Uo Uo (jw h).1;exact this.mono Uo
 split at h
 ·rename_i g
  obtain⟨l1,l2,l3,R⟩:=mc c g;unfold kg at h;simp only at h;obtain⟨A,l,h⟩:=aN h;obtain⟨D,s,h⟩:=aN h;split at h
  ·cases h
  split at h
  ·cases h
  obtain⟨P,L,h⟩:=aN h;obtain⟨p4,h4,h⟩:=aN h;obtain⟨p5,h5,h⟩:=aN h;split at h
  ·cases h
  obtain⟨p6,h6,h⟩:=aN h;have d:Ft (QB B) (cx.length:Int) ((kidsT t).getD 0 (varX 0)):=R _ (FJ Uo);have j:Ft (QB B) (cx.length:Int) ((kidsT t).getD 1 (varX 0)):=R _ (FJ Uo);have f1:=hr.ft _ _ _ _ a u j l;obtain⟨_,_,f2⟩:=jb p a f1 s;refine gG (qk B) d (λy o=>?_) (jw h).1;rcases List.mem_append.1 o with o|o
  ·exact f2.args _ (List.mem_of_mem_drop o)
  ·simp only[List.mem_singleton]at o
   subst o;exact j
 ·rename_i F g2 g8 g9 a0 g4 g5 g6 g7 a4
  have E:t.n.op=12:=by
   have:=tm_ops c.ok;omega
  have hl:=dp c.ok E;unfold ma at h;obtain⟨A,l,h⟩:=aN h;split at h
  ·cases h
  obtain⟨D,s,h⟩:=aN h;injection h with h
  subst h;exact(gM c E (i:=t.n.a.toNat) Uo).2.2.1
theorem MC(a:GoodB B)(hr:cG B rc):cG B (jv B rc):=
 ⟨λcx t n q b c d h=>MA a hr b c d h,λcx t n q h=>Mz a hr h,λcx t n e h=>My hr h⟩
theorem eN(a:GoodB B):∀(g:Nat),cG B (gb B g)
 |0=>⟨λcx t n q h1 h2 h3 h=>by simp[gb]at h,λcx t n q h=>by simp[gb]at h,λcx t n e h=>by simp[gb]at h;omega⟩
 |g+1=>MC a (eN a g)
end
mutual
theorem fD':∀(x:Tr) (s:Md),okT cnt nx x s ->∀m∈row x,aG m=true
 | .mk n ks,s,h,m,hm=>by
  obtain⟨h1,h2⟩:=h;simp only[row,JJ]at hm;rcases hm with rfl|hm
  ·cases s with
   |tm=>exact(fq h1).1
   |fn=>
    simp only[cnt]at h1;split at h1
    ·rename_i q;exact q.2
    ·cases h1
   |am=>
    simp only[cnt]at h1;split at h1
    ·rename_i q;exact q.2
    ·cases h1
  ·exact nW' ks n s 0 h2 m hm
theorem nW':∀(l:List Tr) (n:Nd) (s:Md) (k:Nat),bC cnt nx l n s k ->∀m∈rows l,aG m=true
 |[],n,s,k,_,m,hm=>by simp[rows]at hm
 |y::r,n,s,k,h,m,hm=>by
  obtain⟨h1,h2⟩:=h;simp only[rows,JW]at hm;rcases hm with hm|hm
  ·exact fD' y _ h1 m hm
  ·exact nW' r n s (k+1) h2 m hm
end
def cP(B:ak)(known:Nat)(self:Int)(l:List Nd)(below:Int):Int:=
 if fF l≠0 then fF l else if kK (tr l) below=false then 8 else if l.any (λm=>!bg B known self m)=true then 8 else 0
def bU(B:ak)(known:Nat)(self step:Int):List (List Nd) ->Int ->Int
 |[],_=>0
 |l::r,below=>if cP B known self l below≠0 then cP B known self l below else bU B known self step r (below+step)
def iE(l:List Nd):Int:=if (l.getD 0 ⟨0,0,0⟩).op≠2 then 8 else 0
def gO(B:ak)(i:Nat)(x:bY):List gZ ->Int
 |[]=>0
 |c::r=>if 16<c.args.length then 5 else if c.out.length≠x.indices.length then 8
  else if bU B i i 1 c.args (x.params.length:Int)≠0 then bU B i i 1 c.args (x.params.length:Int)
  else if bU B i i 0 c.out ((x.params.length:Int)+(c.args.length:Int))≠0 then bU B i i 0 c.out ((x.params.length:Int)+(c.args.length:Int))
  else gO B i x r
def bp(a b:Int):Int:=if a≠0 then a else b
def fR(B:ak)(i:Nat)(x:bY):Int:=
 if x.kind=1 then (if 0<x.type.length+x.body.length then 8 else if 16<x.params.length \/16<x.indices.length \/16<x.ctors.length then 5
  else bp (cP B i (-1) x.sort 0) (bp (iE x.sort) (bp (bU B i (-1) 1 x.params 0) (bp (bU B i (-1) 1 x.indices (x.params.length:Int)) (gO B i x x.ctors)))))
 else if x.kind=2 then (if 0<x.sort.length+x.params.length+x.indices.length+x.ctors.length then 8 else bU B i (-1) 0 [x.type,x.body] 0)
 else 8
def kZ(B:ak):List bY ->Nat ->Int
 |[],_=>0
 |x::r,i=>bp (fR B i x) (kZ B r (i+1))
def nm(B:ak)(a:Int):Bool:=
 if a<0 \/(B.ents.length:Int)<=a \/(aR B a).kind≠1 then false
 else if (aR B a).sort.length≠2 \/((aR B a).sort.getD 0 ⟨0,0,0⟩).a≠1 \/(aR B a).sort.getD 1 ⟨0,0,0⟩≠⟨3,0,0⟩ \/0<(aR B a).params.length+(aR B a).indices.length \/(aR B a).ctors.length≠2 then false
 else decide (((aR B a).ctors.getD 0 default).args.length=0) && (decide (((aR B a).ctors.getD 1 default).args.length=1) && (decide ((((aR B a).ctors.getD 1 default).args.getD 0 []).length=1) && decide ((((aR B a).ctors.getD 1 default).args.getD 0 []).getD 0 ⟨0,0,0⟩=⟨9,a,0⟩)))
def nq(B:ak):List (Int×Int) ->G ->Bool
 |[],_=>true
 |p::r,g=>if p.1<0 \/(B.ents.length:Int)<=p.1 \/(aR B p.1).kind≠2 \/p.2<1 \/3<p.2 \/0<(g p.1 (-1)).getD 0+(g (-1) p.2).getD 0 then false else nq B r (putG (putG g p.1 (-1) 1) (-1) p.2 1)
def iF(B:ak):Bool:=if (B.nat≠ -1/\nm B B.nat=false) \/(B.nat= -1/\0<B.prims.length)then false else nq B B.prims λ_ _=>none
def cT(B:ak):Int:=if qq B.vars B.orders≠0 then qq B.vars B.orders else if 64<B.ents.length then 5 else bp (kZ B B.ents 0) (if iF B=true then 0 else 22)
def gy(B:ak)(below:Int)(t:List Nd):Int:=if cT B≠0 then cT B else if below<0 then 1 else cP B B.ents.length (-1) t below
def jd(B:ak):List (List Nd×List Nd) ->Nat ->Int
 |[],_=>0
 |q::r,i=>if gy B i q.1≠0 then gy B i q.1 else if q.2.length=0 then jd B r (i+1)else if gy B i q.2≠0 then gy B i q.2 else jd B r (i+1)
def dX(B:ak)(c:List (List Nd×List Nd))(t:List Nd):Int:=
 if cT B≠0 then cT B else if 256<c.length then 5 else if jd B c 0≠0 then jd B c 0 else gy B c.length t
theorem oB{a b:Int}:bp a b=0↔a=0/\b=0:=by
 unfold bp;split
 ·rename_i h
  exact⟨λe=>absurd e h,λe=>absurd e.1 h⟩
 ·rename_i h
  exact⟨λe=>⟨Uo,e⟩,λe=>e.2⟩
theorem MD{l:List Nd}(h:fF l=0):l.length<=4096/\l=row (tr l)/\Ok .tm (tr l):=by
 unfold fF at h;split at h
 ·cases h
 ·split at h
  ·rename_i i b
   obtain⟨x,a⟩:=Option.isSome_iff_exists.1 b;obtain⟨c,d⟩:=DN a;have:tr l=x:=by unfold tr;rw[a];rfl
   rw[this];exact⟨Uo,c,d⟩
  ·cases h
section
variable{B:ak}
theorem ME{x:Tr}{N:Int}(b:0<=N):kK x N=true↔Bl x N:=by
 unfold kK;rw[List.all_eq_true];constructor
 ·intro h q a
  have:=h q a;simp only[decide_eq_true_eq]at this;omega
 ·intro h q a
  have:=h q a;simp only[decide_eq_true_eq];omega
theorem vQ{known:Nat}{self:Int}{l:List Nd}{N:Int}(c:0<=N)(h:cP B known self l N=0):l=row (tr l)/\Ft (cw B known self) N (tr l):=by
 unfold cP at h;split at h
 ·rename_i g;exact absurd h g
 rename_i p;obtain⟨d,a,i⟩:=MD (l:=l) Uo;split at h
 ·cases h
 rename_i j;split at h
 ·cases h
 rename_i n;refine⟨a,i,by rw[<- a];exact d,(ME c).1 (by simpa using j),λm b=>?_⟩;rw[<- a]at b;have:¬ (l.any λm=>!bg B known self m)=true:=n;rw[List.any_eq_true]at this;unfold cw;cases o:bg B known self m with
 |true=>rfl
 |false=>exact absurd ⟨m,b,by simp[o]⟩ this
theorem qE{known:Nat}{self step:Int}(c:0<=step):∀(ls:List (List Nd)) (N:Int),0<=N ->bU B known self step ls N=0 ->ls=(ls.map tr).map row/\∀(k:Nat) y,(ls.map tr)[k]?=some y ->Ft (cw B known self) (N+k*step) y
 |[],N,b,h=>⟨rfl,λk y a=>by simp at a⟩
 |l::r,N,b,h=>by
  simp only[bU]at h;split at h
  ·rename_i g;exact absurd h g
  rename_i g;obtain⟨h1,h2⟩:=vQ (l:=l) b (Decidable.not_not.1 g);obtain⟨d,i⟩:=qE c r (N+step) Uo h;refine⟨?_,λk y a=>?_⟩
  ·rw[List.map_cons,List.map_cons,<- h1,<- d]
  ·cases k with
   |zero=>
    simp only[List.map_cons,List.getElem?_cons_zero,QZ]at a;subst a;exact h2.mono Ud
   |succ k=>
    simp only[List.map_cons,List.getElem?_cons_succ]at a;exact(i k y a).mono (by
     have:((k+1:Nat):Int)*step=(k:Int)*step+step:=by
      rw[Int.natCast_add,Int.add_mul];simp
     omega)
theorem FK{i:Nat}{x:bY}:∀(cs:List gZ),gO B i x cs=0 ->∀(k:Nat) c,cs[k]?=some c ->∃b go,GoodC B i x.params.length x.indices.length c b go
 |[],h,k,c,hc=>by simp at hc
 |c0::r,h,k,c,hc=>by
  simp only[gO]at h;split at h
  ·cases h
  split at h
  ·cases h
  split at h
  ·rename_i g;exact absurd h g
  split at h
  ·rename_i g;exact absurd h g
  rename_i q s d j;cases k with
  |succ k=>exact FK r h k c (by simpa using hc)
  |zero=>
   simp only[List.getElem?_cons_zero,QZ]at hc;subst hc;obtain⟨l,m⟩:=qE (step:=1) Uo c0.args (x.params.length:Int) Uo (Decidable.not_not.1 d);obtain⟨n,o⟩:=qE (step:=0) Uo c0.out ((x.params.length:Int)+(c0.args.length:Int)) Uo (Decidable.not_not.1 j);refine⟨c0.args.map tr,c0.out.map tr,l,n,Uk,Uk,λk y a=>(m k y a).mono Uo,λy a=>?_⟩;obtain⟨k,p⟩:=JH a;exact(o k y p).mono Ud
theorem MF{i:Nat}{x:bY}(h:fR B i x=0):(∃s ps o,GoodF B i x s ps o) \/∃ty bo,zw B i x ty bo:=by
 unfold fR at h;split at h
 ·rename_i d
  split at h
  ·cases h
  split at h
  ·cases h
  rename_i H I;obtain⟨b,h⟩:=oB.1 h;obtain⟨a,h⟩:=oB.1 h;obtain⟨p,h⟩:=oB.1 h;obtain⟨q,r⟩:=oB.1 h;obtain⟨l,m⟩:=vQ Uo b;obtain⟨t,u⟩:=qE (step:=1) Uo x.params 0 Uo p;obtain⟨q1,v⟩:=qE (step:=1) Uo x.indices (x.params.length:Int) Uo q;refine .inl ⟨tr x.sort,x.params.map tr,x.indices.map tr,d,l,m,?_,t,q1,Uk,Uk,Uo,λk y j=>(u k y j).mono Uo,λk y j=>(v k y j).mono Ud,λk c z=>?_⟩
  ·unfold iE at a
   split at a
   ·cases a
   ·rename_i K
    have:(x.sort.getD 0 ⟨0,0,0⟩).op=(tr x.sort).n.op:=by
     rw[l,jJ m.ok];obtain⟨n,L⟩:=tr x.sort;simp[row,Tr.n]
    omega
  ·obtain⟨A,D,E⟩:=FK x.ctors r k c z
   exact⟨A,D,by simpa using E⟩
 split at h
 ·rename_i F d
  split at h
  ·cases h
  obtain⟨b,a⟩:=qE (step:=0) Uo [x.type,x.body] 0 Uo h;simp only[List.map_cons,List.map_nil,List.cons.injEq]at b;exact .inr ⟨tr x.type,tr x.body,d,b.1,b.2.1,(a 0 _ rfl).mono Ud,(a 1 _ rfl).mono Ud⟩
 ·cases h
theorem km':∀(l:List bY) (i:Nat),kZ B l i=0 ->∀(k:Nat) x,l[k]?=some x ->fR B (i+k) x=0
 |[],i,h,k,x,a=>by simp at a
 |y::r,i,h,k,x,a=>by
  obtain⟨h1,h2⟩:=oB.1 h;cases k with
  |zero=>
   simp only[List.getElem?_cons_zero,QZ]at a;subst a;exact h1
  |succ k=>
   have:=km' r (i+1) h2 k x (by simpa using a)
   rwa [show i+(k+1)=i+1+k by omega]
theorem MG(h:cT B=0):GoodB B:=by
 unfold cT at h;split at h
 ·rename_i g;exact absurd h g
 split at h
 ·cases h
 rename_i c d;obtain⟨a,j⟩:=oB.1 h;refine⟨Uo,Uo,λi x b=>?_⟩;have:=km' B.ents 0 a i x b;rw[KW]at this;exact MF this
theorem As{t:List Nd}{N:Int}(a:0<=N)(h:gy B N t=0):t=row (tr t)/\Ft (QB B) N (tr t):=by
 unfold gy at h;split at h
 ·rename_i g;exact absurd h g
 rw[KY Uo]at h;exact vQ a h
def eQ(c:List (List Nd×List Nd)):Ctx:=c.map λq=>(tr q.1,if q.2.length=0 then none else some (tr q.2))
theorem rh':∀(c:List (List Nd×List Nd)) (i:Nat),jd B c i=0 ->c=(eQ c).map aA/\∀(k:Nat) q,(eQ c)[k]?=some q ->Ft (QB B) ((i+k:Nat):Int) q.1/\∀x,q.2=some x ->Ft (QB B) ((i+k:Nat):Int) x
 |[],i,h=>⟨rfl,λk q s=>by simp[eQ]at s⟩
 |q::r,i,h=>by
  simp only[jd]at h;split at h
  ·rename_i g;exact absurd h g
  rename_i u;obtain⟨h1,h2⟩:=As (t:=q.1) (N:=(i:Int)) Uo (Decidable.not_not.1 u);have a:jd B r (i+1)=0 ->∀o:Option Tr,aA (tr q.1,o)=q ->(if q.2.length=0 then none else some (tr q.2))=o ->(∀x,o=some x ->Ft (QB B) (i:Int) x) ->q::r=(eQ (q::r)).map aA/\∀(k:Nat) d,(eQ (q::r))[k]?=some d ->Ft (QB B) ((i+k:Nat):Int) d.1/\∀x,d.2=some x ->Ft (QB B) ((i+k:Nat):Int) x:=λv o y m n=>by
   obtain⟨t1,t2⟩:=rh' r (i+1) v;have e:eQ (q::r)=(tr q.1,o)::eQ r:=by simp only[eQ,List.map_cons,m]
   rw[e];refine⟨?_,λk d b=>?_⟩
   ·rw[List.map_cons,<- t1,y]
   ·cases k with
    |zero=>
     simp only[List.getElem?_cons_zero,QZ]at b;subst b;exact⟨h2,n⟩
    |succ k=>
     simp only[List.getElem?_cons_succ]at b;have:=t2 k d b
     rwa [show i+1+k=i+(k+1) by omega]at this
  split at h
  ·rename_i l
   refine a h none ?_ (by rw[KX l]) (λx j=>by cases j);have:q.2=[]:=List.length_eq_zero_iff.1 l;obtain⟨z,A⟩:=q;simp only at this h1;simp[aA,nF',this,<- h1]
  ·rename_i l
   split at h
   ·rename_i g;exact absurd h g
   rename_i D;obtain⟨p,E⟩:=As (t:=q.2) (N:=(i:Int)) Uo (Decidable.not_not.1 D);refine a h (some (tr q.2)) ?_ (by rw[KY l]) (λx j=>by injection j with j;rw[<- j];exact E);obtain⟨z,A⟩:=q;simp only at h1 p;simp[aA,nF',<- h1,<- p]
theorem oC{c:List (List Nd×List Nd)}{t:List Nd}(h:dX B c t=0):GoodB B/\cT B=0/\c.length<=256/\c=(eQ c).map aA/\CxOk B (eQ c)/\t=row (tr t)/\Ft (QB B) (c.length:Int) (tr t):=by
 unfold dX at h;split at h
 ·rename_i g;exact absurd h g
 split at h
 ·cases h
 split at h
 ·rename_i g;exact absurd h g
 rename_i n o a;obtain⟨b,d⟩:=rh' c 0 (Decidable.not_not.1 a);obtain⟨j,l⟩:=As (t:=t) (N:=(c.length:Int)) Uo h;refine⟨MG Uo,Uo,Uo,b,λi q m=>?_,j,l⟩;have:=d i q m
 rwa [KW]at this
end
section
variable(f:Int ->Nd ->Tr)
mutual
def mT:Tr ->Int ->Int ->Tr
 | .mk n ks,d,nb=>if n.op=1 then f d n else .mk n (mK ks n nb 0 d)
def mK:List Tr ->Nd ->Int ->Int ->Int ->List Tr
 |[],_,_,_,_=>[]
 |x::r,n,nb,k,d=>mT x (d+arC n nb k) n.b::mK r n nb (k+1) d
end
end
theorem MH{n:Nd}(h1:n.op=1)(b:aG n=true):0<=n.a/\n.a<=1048576/\n.b=0:=by
 have a:aX n.a 0 1048576=true/\n.b=0:=by simpa[aG,h1]using b
 have:=dE.1 a.1;exact⟨this.1,this.2,a.2⟩
section
variable{f g f3:Int ->Nd ->Tr}{h:Int ->Nd ->Option Tr}
theorem sN{n:Nd}{ks:List Tr}{d nb:Int}(h1:n.op=1):mT f (.mk n ks) d nb=f d n:=by simp[mT,h1]
theorem po{n:Nd}{ks:List Tr}{d nb:Int}(h1:n.op≠1):mT f (.mk n ks) d nb= .mk n (mK f ks n nb 0 d):=by simp[mT,h1]
mutual
theorem xH':∀(x:Tr) (s:Md) (d nb:Int),okT cnt nx x s ->(∀q∈varsT x d nb,∀n:Nd,n.op=1 ->aG n=true ->n.a=q.1 ->h q.2 n=some (f q.2 n)) ->gT h x d nb=some (mT f x d nb)
 | .mk n ks,s,d,nb,b,H=>by
  have c:=fD' (.mk n ks) s b n (by simp[row]);obtain⟨l,i⟩:=b
  by_cases a:n.op=1
  ·simp only[gT,mT,KX a]
   exact H (n.a,d) (by simp[varsT,a]) n a c rfl
  ·simp only[gT,mT,KY a]
   rw[EY' ks n s nb 0 d 0 i λq j=>H q (by simpa[varsT,a]using j)]
theorem EY':∀(ks:List Tr) (n:Nd) (s:Md) (nb k d:Int) (j:Nat),bC cnt nx ks n s j ->(∀q∈varsK ks n nb k d,∀n:Nd,n.op=1 ->aG n=true ->n.a=q.1 ->h q.2 n=some (f q.2 n)) ->gK h ks n nb k d=some (mK f ks n nb k d)
 |[],n,s,nb,k,d,j,_,_=>rfl
 |x::r,n,s,nb,k,d,j,b,H=>by
  obtain⟨c,hr⟩:=b;simp only[gK,mK];rw[xH' x (nx s n j) _ _ c λq a=>H q (by simp[varsK,a]),EY' r n s nb (k+1) d (j+1) hr λq a=>H q (by simp[varsK,a])]
end
variable{e:Int}
mutual
theorem uU':∀(x:Tr) (s:Md) (d nb:Int),okT cnt nx x s ->(∀q∈varsT x d nb,∀n:Nd,n.op=1 ->aG n=true ->n.a=q.1 ->f (q.2+e) n=f3 q.2 n) ->mT f x (d+e) nb=mT f3 x d nb
 | .mk n ks,s,d,nb,b,H=>by
  have c:=fD' (.mk n ks) s b n (by simp[row]);obtain⟨l,i⟩:=b
  by_cases a:n.op=1
  ·rw[sN a,sN a]
   exact H (n.a,d) (by simp[varsT,a]) n a c rfl
  ·rw[po a,po a,zu' ks n s nb 0 d 0 i λq j=>H q (by simpa[varsT,a]using j)]
theorem zu':∀(ks:List Tr) (n:Nd) (s:Md) (nb k d:Int) (j:Nat),bC cnt nx ks n s j ->(∀q∈varsK ks n nb k d,∀n:Nd,n.op=1 ->aG n=true ->n.a=q.1 ->f (q.2+e) n=f3 q.2 n) ->mK f ks n nb k (d+e)=mK f3 ks n nb k d
 |[],n,s,nb,k,d,j,_,_=>rfl
 |x::r,n,s,nb,k,d,j,b,H=>by
  obtain⟨c,hr⟩:=b;simp only[mK];rw[show d+e+arC n nb k=d+arC n nb k+e by omega,uU' x (nx s n j) _ _ c λq a=>H q (by simp[varsK,a]),zu' r n s nb (k+1) d (j+1) hr λq a=>H q (by simp[varsK,a])]
end
mutual
theorem uV':∀(x:Tr) (s:Md) (d nb:Int),okT cnt nx x s ->(∀q∈varsT x d nb,∀n:Nd,n.op=1 ->aG n=true ->n.a=q.1 ->f (q.2+e) n= .mk n []) ->mT f x (d+e) nb=x
 | .mk n ks,s,d,nb,b,H=>by
  have c:=fD' (.mk n ks) s b n (by simp[row]);obtain⟨i,j⟩:=b
  by_cases a:n.op=1
  ·have:ks=[]:=List.length_eq_zero_iff.1 (qj i a)
   subst this;rw[sN a];exact H (n.a,d) (by simp[varsT,a]) n a c rfl
  ·rw[po a,uW' ks n s nb 0 d 0 j λq l=>H q (by simpa[varsT,a]using l)]
theorem uW':∀(ks:List Tr) (n:Nd) (s:Md) (nb k d:Int) (j:Nat),bC cnt nx ks n s j ->(∀q∈varsK ks n nb k d,∀n:Nd,n.op=1 ->aG n=true ->n.a=q.1 ->f (q.2+e) n= .mk n []) ->mK f ks n nb k (d+e)=ks
 |[],n,s,nb,k,d,j,_,_=>rfl
 |x::r,n,s,nb,k,d,j,b,H=>by
  obtain⟨c,hr⟩:=b;simp only[mK];rw[show d+e+arC n nb k=d+arC n nb k+e by omega,uV' x (nx s n j) _ _ c λq a=>H q (by simp[varsK,a]),uW' r n s nb (k+1) d (j+1) hr λq a=>H q (by simp[varsK,a])]
end
theorem Au{x:Tr}(c:x.n.op≠13)(d nb a:Int):mT f x d nb=mT f x d a:=by
 obtain⟨n,b⟩:=x;have c:n.op≠13:=c;have i:∀(b:List Tr) (k:Int),mK f b n nb k d=mK f b n a k d:=λb=>by
  induction b with
  |nil=>intro k;rfl
  |cons y r j=>intro k;simp only[mK,mU c,j]
 simp only[mT,i]
end
def MI(d:Int)(n:Nd):Nd:={n with a:=if d<=n.a then n.a+1 else n.a}
def MJ(d:Int)(n:Nd):Tr:=.mk (MI d n) []
def up(k:Int)(x:Tr):Tr:=mT MJ x k 0
section
variable{x:Tr}{k:Int}
def Sm(x:Tr):Prop:=∀q∈varsT x 0 0,q.1<=400000/\0<=q.2/\q.2<=20000
end
end Go.Q
