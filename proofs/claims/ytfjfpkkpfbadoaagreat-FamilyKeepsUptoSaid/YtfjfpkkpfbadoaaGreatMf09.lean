import Derived.Test.YtfjfpkkpfbadoaaGreatMf08
set_option linter.all false
set_option maxHeartbeats 4000000
open Cd Go.Wx Lv Tm
namespace Go.Q
theorem vG{x:Tr}(r:Ok .tm x)(a:x.n.op=12){i:Nat}(hi:i<x.n.b.toNat):∃f,x.ks[i]?=some f/\Ok .tm (kidD x (2*i))/\Ok .tm (kidD x (2*i+1))/\f= .mk f.n [kidD x (2*i),kidD x (2*i+1)]/\
  (row x)[1+(rows (x.ks.take i)).length]?=some f.n/\f.n.op=13/\0<=f.n.a/\f.n.a<=15/\
  row x=(x.n::(rows (x.ks.take i)++[f.n]))++(row (kidD x (2*i))++(row (kidD x (2*i+1))++rows (x.ks.drop (i+1))))/\row x=(x.n::(rows (x.ks.take i)++(f.n::row (kidD x (2*i)))))++(row (kidD x (2*i+1))++rows (x.ks.drop (i+1)))/\
  (rows (x.ks.take (i+1))).length=(rows (x.ks.take i)).length+(1+((row (kidD x (2*i))).length+(row (kidD x (2*i+1))).length))/\(kidsT x).drop (2*i)=kidD x (2*i)::kidD x (2*i+1)::(kidsT x).drop (2*(i+1)):=by
 have W:=dZ r a;have X:=gu r a;obtain⟨f,s,_⟩:=az (l:=x.ks) (k:=i);obtain⟨M,N,c,h,t,u,v,_,A,O,P⟩:=lA r a s;have D:kidsT x=x.ks.flatMap (·.ks):=by
  obtain⟨n,Y⟩:=x;have a:n.op=12:=a;have R:n.op≠2:=Uo
  simp only[kidsT,KY R,KX a,Tr.ks]
 have E:∀k∈x.ks,k.ks.length=2:=λg S=>by
  obtain⟨j,K⟩:=JH S;obtain⟨T,U,e,_⟩:=lA r a K;rw[e]
  rfl
 have b:∀j,j<2 ->(kidsT x)[2*i+j]?=f.ks[j]?:=λj K=>by
  obtain⟨y,d,_⟩:=az (l:=kidsT x) (k:=2*i+j);have F:=d;rw[D]at d;obtain⟨g,m,o⟩:=xc' x.ks E _ y d;rw[show (2*i+j)/2=i by omega,s]at m;obtain rfl:=JB m;rw[show (2*i+j)%2=j by omega]at o;rw[F,o]
 have p:=b 0 Uo;have q:=b 1 Uo;rw[c]at p q;simp only[Tr.ks,Nat.add_zero,List.getElem?_cons_zero,List.getElem?_cons_succ]at p q;have d0:kidD x (2*i)=M:=by simp[kidD,p]
 have d1:kidD x (2*i+1)=N:=by simp[kidD,q]
 rw[d0,d1];have H:aI f.n.a 0 15=true:=by
  have:aI f.n.a 0 15=true/\f.n.b=0:=by simpa[aw,h]using t
  exact this.1
 have:=dI.1 H;refine⟨f,s,u,v,c,A,h,this.1,this.2,O,P,?_,?_⟩
 ·rw[dP s,de',JK,c]
  simp[rows,row];omega
 ·obtain⟨y,d,V⟩:=az (aL p)
  obtain⟨z,L,I⟩:=az (aL q);rw[p]at d;rw[q]at L;obtain rfl:=JB d;obtain rfl:=JB L;rw[V,I]
  rfl
def dB':Nat ->Tr ->Bool
 |0,t=>decide (t.n.op=4) && decide ((headT (kidD t 0)).n.op=9)
 |p+1,t=>decide (t.n.op=4) && dB' p (kidD t 1)
def iq(rc:RcF):Nat ->Tr ->List Int ->Bool
 |0,t,m=>rc t m
 |r+1,t,m=>decide (t.n.op=5) && (rc (kidD t 0) m && iq rc r (kidD t 1) (m++[if r=0 then 1 else 0]))
def Far(v:Value)(X:List Nat):Prop:=∀g,v.ownBlock=some g ->g ∉ X
def gZ(n j:Nat):List Int:=(List.range n).map λi=>if i<j then (100+(i:Int))else 0
theorem Me{n j:Nat}(h:j<n):(gZ n j).set j (100+(j:Int))=gZ n (j+1):=by
 apply List.ext_getElem
 ·simp[gZ]
 ·intro i a b
  simp only[gZ,List.getElem_set,List.getElem_map,List.getElem_range]
  by_cases e:j=i
  ·subst e
   rw[KX rfl,KX Uo]
  ·rw[KY e]
   by_cases q:i<j
   ·rw[KX q,KX Uo]
   ·rw[KY q,KY Uo]
theorem Mf{n:Nat}{pl:List Int}(h:pl.length=n):Mk pl (gZ n n):=λv a=>by
 obtain⟨i,b,rfl⟩:=List.mem_map.1 a;have:=List.mem_range.1 b;rw[KX this];exact .inr (.inr (.inr ⟨i,Uo,rfl⟩))
def lO(x:Tr):List Tr:=(List.range x.n.b.toNat).map λi=>kidD x (2*i)
def jf(x:Tr):List Tr:=(List.range x.n.b.toNat).map λi=>kidD x (2*i+1)
def pd(B:ak)(x:Tr)(i:Nat):Bool:=dB' ((placesM x).getD i 0).toNat (kidD x (2*i)) && iq (fj B (placesM x) 4096) (((placesM x).getD i 0).toNat+1) (kidD x (2*i+1)) (gZ x.n.b.toNat x.n.b.toNat)
def lP(B:ak)(x:Tr):Nat ->Nat ->Int
 |0,_=>0
 |k+1,i=>if pd B x i=true then lP B x k (i+1)else 18
def gg(B:ak)(x:Tr):Int:=lP B x x.n.b.toNat 0
def bp(ys:List Tr)(x:Tr):Except Int Tr:=if 4096<(row (eU 4 ys x)).length then .error 9 else .ok (eU 4 ys x)
def gh(B:ak)(a:Int):List Tr:=(ax B a).params.map tr
def fq(B:ak)(a:Int):List Tr:=(ax B a).indices.map tr
def gj(B:ak)(a:Int):Except Int Tr:=(bp (fq B a) (tr (ax B a).sort)).bind (bp (gh B a))
def varsM(n:Nat)(fr:Int):List Tr:=(List.range n).map λk=>varX (fr+((n-1-k:Nat):Int))
def jY(B:ak)(a b:Int):List Tr:=(iZ B a b).args.map tr
def vH(B:ak)(a b:Int):List Tr:=(iZ B a b).out.map tr
def hH(B:ak)(a b:Int):Except Int Tr:=
 (aP (.mk ⟨9,a,0⟩ []) (varsM (gh B a).length ((jY B a b).length:Int)++vH B a b)).bind λt=>(bp (jY B a b) t).bind (bp (gh B a))
def cR(ps:List Tr)(cg:Int):Nat ->Tr ->Except Int Tr
 |0,t=>.ok t
 |i+1,t=>(bh t (aG (ps.getD i (varX 0)) i 0) cg).bind (cR ps cg i)
def jg(B:ak)(a b:Int)(ps:List Tr)(mo:Tr):Except Int Tr:=
 (aP (.mk ⟨10,a,b⟩ []) (varsM (gh B a).length ((jY B a b).length:Int)++varsM (jY B a b).length 0)).bind λmade=>
  (aP (aG mo (((gh B a).length+(jY B a b).length:Nat):Int) 0) (vH B a b++[made])).bind λt=>(bp (jY B a b) t).bind (cR ps 0 (gh B a).length)
theorem vJ{l:List Tr}(h:∀y∈l,Ok .tm y):(l.map row).map tr=l:=by
 rw[List.map_map];have:∀y∈l,(tr∘row) y=id y:=λy a=>iY (h y a);rw[List.map_congr_left this,List.map_id]
section
variable{B:ak}
theorem GoodF.ps_eq{i:Nat}{x:cf}{s:Tr}{c d:List Tr}(hi:B.ents[i]?=some x)(h:GoodF B i x s c d):gh B (i:Int)=c/\fq B (i:Int)=d/\tr (ax B (i:Int)).sort=s:=by
 unfold gh fq;rw[rr hi,h.params,h.indices,h.sort];refine⟨vJ λy a=>?_,vJ λy a=>?_,iY h.fs.ok⟩
 ·obtain⟨k,b⟩:=JH a
  exact(h.fp k y b).ok
 ·obtain⟨k,b⟩:=JH a
  exact(h.fi k y b).ok
theorem GoodC.ag_eq{i k:Nat}{x:cf}(hi:B.ents[i]?=some x){np ni:Nat}{c:dy}(hc:x.ctors[k]?=some c){d go:List Tr}(h:GoodC B i np ni c d go):jY B (i:Int) (k:Int)=d/\vH B (i:Int) (k:Int)=go/\iZ B (i:Int) (k:Int)=c:=by
 have a:iZ B (i:Int) (k:Int)=c:=by simp[iZ,rr hi,hc]
 unfold jY vH;rw[a,h.args,h.out];refine⟨vJ λy b=>?_,vJ λy b=>(h.fo y b).ok,rfl⟩;obtain⟨k,e⟩:=JH b;exact(h.fa k y e).ok
theorem lQ{Q:Nd ->Prop}{N:Int}(a:Qk Q){ys:List Tr}{x z:Tr}(b:Ft Q (N+ys.length) x)(c:∀(i:Nat) y,ys[i]?=some y ->Ft Q (N+i) y)(h:bp ys x= .ok z):Ft Q N z:=by
 unfold bp at h;split at h
 ·cases h
 ·injection h with h
  subst h;exact Ft.bind a (.inl rfl) b c Uo
theorem Mg(d:GoodB B){a:Int}(ha:bF B B.ents.length a=true){z:Tr}(h:gj B a= .ok z):Ft (QB B) 0 z:=by
 obtain⟨i,x,s,g,j,rfl,_,b,l,c⟩:=d.fam ha (KJ _);obtain⟨n,o,p⟩:=c.ps_eq b;unfold gj at h;rw[n,o,p]at h;cases e:bp j s with
 |error v=>rw[e]at h;cases h
 |ok t=>
  rw[e]at h;have q:Ft (QB B) 0 s:=c.fs.wk λm r=>my (Nat.le_of_lt (aL b)) r;have u:=lQ (qk B) (N:=(g.length:Int)) (q.mono Uo) (λk y f=>(c.up_i d b f).mono Ud) e;exact lQ (qk B) (N:=0) (u.mono Uo) (λk y f=>(c.up_p d b f).mono Uo) h
theorem lR{Q:Nd ->Prop}(a:Qk Q){n:Nat}{fr:Int}(d:0<=fr)(hl:fr+n<=1000):∀y∈varsM n fr,Ft Q (fr+n) y:=λy b=>by
 obtain⟨k,c,rfl⟩:=List.mem_map.1 b;have:=List.mem_range.1 c;exact Ft.varX a Uo Uo Uo
theorem pe{Q:Nd ->Prop}{N:Int}{n:Nd}(a:aw n=true)(b:n.op=9 \/n.op=10)(c:Q n):Ft Q N (.mk n []):=
 Ft.one a Uo Uo Uo (by rcases b with h|h<;>simp[bw,h]) c λh=>Uo
theorem kQ(b:GoodB B){a:Int}(ha:bF B B.ents.length a=true):0<=a/\a<=63:=by
 simp only[bF,Bool.and_eq_true,decide_eq_true_eq]at ha;have:=b.len;omega
theorem Mh(n:GoodB B){a b:Int}(ha:bF B B.ents.length a=true)(A:0<=b)(hb:b<(ax B a).ctors.length){z:Tr}(h:hH B a b= .ok z):Ft (QB B) 0 z:=by
 have D:=kQ n ha;obtain⟨i,x,s,f,R,rfl,_,g,o,e⟩:=n.fam ha (KJ _);obtain⟨E,S,T⟩:=e.ps_eq g;obtain⟨k,rfl⟩:∃k:Nat,b=(k:Int):=⟨b.toNat,Uo⟩
 rw[o]at hb;obtain⟨c,v,_⟩:=az (l:=x.ctors) (k:=k);obtain⟨j,F,m⟩:=e.ct k c v;obtain⟨H,I,U⟩:=m.ag_eq g v;have K:=e.lp;have L:=m.la;unfold hH at h;rw[E,H,I]at h;cases p:aP (.mk ⟨9,(i:Int),0⟩ []) (varsM f.length (j.length:Int)++F)with
 |error M=>rw[p]at h;cases h
 |ok t=>
  rw[p]at h;have q:Ft (QB B) ((f.length+j.length:Nat):Int) (.mk ⟨9,(i:Int),0⟩ []):=pe (by simp[aw,aI];omega) (.inl rfl) (by
   simp only[QB,cr,aY];simp[ha])
  have O:=gv (qk B) q (λy d=>by
   rcases List.mem_append.1 d with d|d
   ·exact(lR (qk B) Uo Uo y d).mono Uo
   ·exact m.up_o g e.kind d) p
  cases r:bp j t with
  |error M=>rw[show (Except.ok t).bind _=(bp j t).bind (bp f)from rfl,r]at h;cases h
  |ok u=>
   rw[show (Except.ok t).bind _=(bp j t).bind (bp f)from rfl,r]at h;have P:=lQ (qk B) (N:=(f.length:Int)) (O.mono Uo) (λk y d=>(m.up_a g e.kind d).mono Uo) r;exact lQ (qk B) (N:=0) (P.mono Uo) (λk y d=>(e.up_p n g d).mono Uo) h
theorem zP{Q:Nd ->Prop}{N cg:Int}(d:Qk Q)(n:0<=N)(o:N<=90000)(hm:0<=cg)(f:cg<=1000){a:List Tr}(m:∀y∈a,Ft Q N y):∀(i:Nat) (t z:Tr),i<=a.length ->i<=1000 ->Ft Q (N+i+cg) t ->cR a cg i t= .ok z ->Ft Q (N+cg) z
 |0,t,z,_,_,g,h=>by
  simp only[cR,Except.ok.injEq]at h;subst h;exact g.mono Ud
 |i+1,t,z,hi,q,g,h=>by
  simp only[cR]at h;obtain⟨p,c,_⟩:=az (l:=a) (k:=i);have e:a.getD i (varX 0)=p:=by rw[QK,c];rfl
  rw[e]at h;have r:=(m p (JQ c)).lift d (b:=(i:Int)) Uo Uo Uo;cases j:bh t (aG p i 0) cg with
  |error u=>rw[j]at h;cases h
  |ok y=>
   rw[j]at h;have s:=gQ d (N:=N+i) (v:=cg) (g.mono Uo) r Uo Uo hm Uo j;exact zP d n o hm f m i y z Uo Uo s h
theorem Fl(H:GoodB B){N:Int}(M:0<=N)(O:N<=90000){a b:Int}(ha:bF B B.ents.length a=true)(P:0<=b)(hb:b<(ax B a).ctors.length){m:List Tr}(R:∀y∈m,Ft (QB B) N y)(hql:m.length=(gh B a).length){mo:Tr}(q:Ft (QB B) N mo){z:Tr}(h:jg B a b m mo= .ok z):Ft (QB B) N z:=by
 have S:=kQ H ha;obtain⟨i,x,s,f,qi,rfl,_,o,n,j⟩:=H.fam ha (KJ _);obtain⟨I,e2,e3⟩:=j.ps_eq o;obtain⟨k,rfl⟩:∃k:Nat,b=(k:Int):=⟨b.toNat,Uo⟩
 rw[n]at hb;obtain⟨c,K,_⟩:=az (l:=x.ctors) (k:=k);obtain⟨g,r,p⟩:=j.ct k c K;obtain⟨T,U,e6⟩:=p.ag_eq o K;have V:=j.lp;have W:=p.la;have X:=j.lc;unfold jg at h;rw[I,T,U]at h;rw[I]at hql;cases v:aP (.mk ⟨10,(i:Int),(k:Int)⟩ []) (varsM f.length (g.length:Int)++varsM g.length 0)with
 |error L=>rw[v]at h;cases h
 |ok d=>
  rw[v]at h;have A:Ft (QB B) ((f.length+g.length:Nat):Int) (.mk ⟨10,(i:Int),(k:Int)⟩ []):=pe (by simp[aw,aI];omega) (.inr rfl) (by
   simp only[QB,cr,aY];simp[ha,n];omega)
  have D:=gv (qk B) A (λy e=>by
   rcases List.mem_append.1 e with e|e
   ·exact(lR (qk B) Uo Uo y e).mono Uo
   ·exact(lR (qk B) Uo Uo y e).mono Uo) v
  have Y:=q.lift (qk B) (b:=((f.length+g.length:Nat):Int)) Uo Uo Uo;cases E:aP (aG mo ((f.length+g.length:Nat):Int) 0) (r++[d])with
  |error L=>rw[show (Except.ok d).bind _=(aP (aG mo ((f.length+g.length:Nat):Int) 0) (r++[d])).bind _ from rfl,E]at h;cases h
  |ok t=>
   rw[show (Except.ok d).bind _=(aP (aG mo ((f.length+g.length:Nat):Int) 0) (r++[d])).bind _ from rfl,E]at h;have Z:=gv (qk B) Y (λy e=>by
    rcases List.mem_append.1 e with e|e
    ·exact(p.up_o o j.kind e).mono Uo
    ·obtain rfl:y=d:=by simpa using e
     exact D.mono Uo) E
   cases F:bp g t with
   |error L=>rw[show (Except.ok t).bind _=(bp g t).bind (cR m 0 f.length)from rfl,F]at h;cases h
   |ok u=>
    rw[show (Except.ok t).bind _=(bp g t).bind (cR m 0 f.length)from rfl,F]at h;have hu:=lQ (qk B) (N:=N+f.length) (Z.mono Uo) (λk y e=>(p.up_a o j.kind e).mono Uo) F;have:=zP (qk B) (cg:=0) M O Uo Uo R f.length u z Uo Uo (hu.mono Uo) h;exact this.mono Uo
end
def VsO(C:Mem)(n0:Nat)(w:World)(v:Value)(ys:List Tr):Prop:=∃os,Own rVal 39 n0 w v os/\uj (λb o t=>(C b o t \/New n0 w b o t)/\some b≠v.ownBlock) os ys
section
variable{C:Mem}{w:World}{B:ak}
def TyP(C:Mem)(w:World)(r:Except Int Tr)(e:Ending)(w':World):Prop:=
 (match r with
  | .ok z=>∃u,e= .returned (.tuple #[u,iV 0])/\TmV (Cn C w w') z u
  | .error er=>e= .returned (.tuple #[.slice none 0 0,iV er])/\er≠0)/\Kp [] w w'
end
def aQ{α β:Type}(m:Except Int (α×Nat))(k:α ->Nat ->Except Int (β×Nat)):Except Int (β×Nat):=match m with
 | .error e=>.error e
 | .ok q=>k q.1 q.2
def cU{α:Type}(m:Except Int α)(n:Nat):Except Int (α×Nat):=match m with
 | .error e=>.error e
 | .ok x=>.ok (x,n)
def fx(B:ak)(cx:Ctx)(t:Tr)(n:Nat):Except Int (Tr×Nat):=if 256<cx.length then .error 5 else eg B cx t (n:Int)
def gB(B:ak)(cx:Ctx)(x y:Tr)(u:Bool)(n:Nat):Except Int (Bool×Nat):=if 256<cx.length then .error 5 else lL B cx x y (n:Int) u
abbrev RcJ:=Ctx ->Tr ->Nat ->Except Int (Tr×Nat)
def eW(kind:Int)(l:List Atom):Tr:=.mk ⟨2,kind,(l.length:Int)⟩ (l.map λa=>.mk ⟨3,a.var,a.add⟩ [])
def dD(B:ak)(rc:RcJ)(cx:Ctx)(t:Tr)(n:Nat):Except Int ((Int×List Atom)×Nat):=
 aQ (rc cx t n) λty n=>aQ (fx B cx ty n) λz n=>if (headT z).n.op≠2 \/0<(argsT z).length then .error 11 else .ok (((headT z).n.a,bq (headT z)),n)
def dU(B:ak)(rc:RcJ)(cx:Ctx)(t ty:Tr)(n:Nat):Except Int (Unit×Nat):=
 aQ (rc cx t n) λz n=>aQ (gB B cx z ty true n) λb n=>if b=true then .ok ((),n)else .error 13
def jA(B:ak)(a:Int)(ps:List Tr)(i ni:Nat):Except Int Tr:=
 if i<ni then cR ps (i:Int) ps.length ((fq B a).getD i (varX 0))else aP (.mk ⟨9,a,0⟩ []) (ps.map (λp=>aG p ni 0)++varsM ni 0)
def iM(B:ak)(a:Int)(ps:List Tr)(ni:Nat):Nat ->Nat ->Ctx ->Tr ->Nat ->Except Int (Int×Nat)
 |0,_,cx,m,n=>aQ (fx B cx m n) λf n=>if (headT f).n.op≠2 \/0<(argsT f).length then .error 16 else .ok ((headT f).n.a,n)
 |k+1,i,cx,m,n=>aQ (fx B cx m n) λf n=>if (headT f).n.op≠4 \/0<(argsT f).length then .error 16 else
   aQ (cU (jA B a ps i ni) n) λw n=>aQ (gB B cx (kidD (headT f) 0) w false n) λb n=>if b=true then iM B a ps ni k (i+1) (cx++[(kidD (headT f) 0,none)]) (kidD (headT f) 1) n else .error 16
def qq(B:ak)(cx:Ctx)(a:Int)(ps:List Tr)(m:Tr)(n:Nat):Except Int (Int×Nat):=iM B a ps (fq B a).length ((fq B a).length+1) 0 cx m n
def mV(B:ak)(rc:RcJ):Ctx ->List Tr ->Nat ->Except Int (Bool×Nat)
 |_,[],n=>.ok (true,n)
 |cx,a::r,n=>aQ (dD B rc cx a n) λq n=>if q.1≠0 then .ok (false,n)else mV B rc (cx++[(a,none)]) r n
def cV(ps:List Tr):Ctx:=ps.map λp=>(p,none)
def jZ(B:ak)(rc:RcJ)(a:Int)(n:Nat):Except Int (Bool×Nat):=
 if (ax B a).ctors.length=0 then .ok (true,n)else if 1<(ax B a).ctors.length then .ok (false,n)else mV B rc (cV (gh B a)) (jY B a 0) n
def lS(B:ak)(rc:RcJ)(cx:Ctx)(a:Int)(ps:List Tr)(mo:Tr):Nat ->List Tr ->Nat ->Except Int (Unit×Nat)
 |_,[],n=>.ok ((),n)
 |k,b::r,n=>aQ (cU (jg B a (k:Int) ps mo) n) λty n=>aQ (dU B rc cx b ty n) λ_ n=>lS B rc cx a ps mo (k+1) r n
def kR(B:ak)(rc:RcJ)(cx:Ctx)(nd:Nd)(ks:List Tr)(n:Nat):Except Int (Tr×Nat):=
 let np:=(gh B nd.a).length
 let mo:=ks.getD 0 (varX 0)
 let sc:=ks.getD 1 (varX 0)
 aQ (rc cx sc n) λty n=>aQ (fx B cx ty n) λz n=>
  if (headT z).n.op≠9 \/(headT z).n.a≠nd.a \/(argsT z).length≠np+(fq B nd.a).length then .error 14
  else if (ks.drop 2).length≠(ax B nd.a).ctors.length then .error 15
  else aQ (rc cx mo n) λmt n=>aQ (qq B cx nd.a ((argsT z).take np) mt n) λkind n=>
   aQ (if (tr (ax B nd.a).sort).n.a=0/\kind=1 then jZ B rc nd.a n else .ok (true,n)) λs n=>if s=false then .error 17 else
    aQ (lS B rc cx nd.a ((argsT z).take np) mo 0 (ks.drop 2) n) λ_ n=>cU (aP mo ((argsT z).drop np++[sc])) n
def n8(B:ak)(rc:RcJ)(cx:Ctx)(t:Tr):Nat ->Nat ->Nat ->Except Int (Unit×Nat)
 |0,_,n=>.ok ((),n)
 |k+1,i,n=>aQ (dD B rc cx (kidD t (2*i)) n) λ_ n=>n8 B rc cx t k (i+1) n
def mW(B:ak)(rc:RcJ)(cx:Ctx)(t:Tr)(nb:Nat):Nat ->Nat ->Nat ->Except Int (Unit×Nat)
 |0,_,n=>.ok ((),n)
 |k+1,i,n=>aQ (dU B rc cx (kidD t (2*i+1)) (aG (kidD t (2*i)) nb 0) n) λ_ n=>mW B rc cx t nb k (i+1) n
def lT(B:ak)(rc:RcJ)(cx:Ctx)(t:Tr)(n:Nat):Except Int (Tr×Nat):=
 aQ (n8 B rc cx t t.n.b.toNat 0 n) λ_ n=>if gg B t≠0 then .error (gg B t)else
  aQ (mW B rc (cx++bv t) t t.n.b.toNat t.n.b.toNat 0 n) λ_ n=>.ok (kidD t (2*t.n.a.toNat),n)
def n9(t:Tr)(n:Nat):Except Int (Tr×Nat):=if dC (bq t) 1≠0 then .error (dC (bq t) 1)else .ok (eW 1 (fS (bq t) 1),n)
def oa(B:ak)(rc:RcJ)(cx:Ctx)(t:Tr)(n:Nat):Except Int (Tr×Nat):=
 aQ (dD B rc cx (kidD t 0) n) λp n=>aQ (dD B rc (cx++[(kidD t 0,none)]) (kidD t 1) n) λq n=>
  if cI p.2 q.2≠0 then .error (cI p.2 q.2)else .ok (eW q.1 (dB p.2 q.2),n)
def od(B:ak)(rc:RcJ)(cx:Ctx)(t:Tr)(n:Nat):Except Int (Tr×Nat):=
 aQ (dD B rc cx (kidD t 0) n) λ_ n=>aQ (rc (cx++[(kidD t 0,none)]) (kidD t 1) n) λz n=>cU (bp [kidD t 0] z) n
def oe(B:ak)(rc:RcJ)(cx:Ctx)(t:Tr)(n:Nat):Except Int (Tr×Nat):=
 aQ (rc cx (kidD t 0) n) λty n=>aQ (fx B cx ty n) λz n=>if (headT z).n.op≠4 \/0<(argsT z).length then .error 12 else
  aQ (dU B rc cx (kidD t 1) (kidD (headT z) 0) n) λ_ n=>cU (bh (kidD (headT z) 1) (kidD t 1) 0) n
def og(B:ak)(rc:RcJ)(cx:Ctx)(t:Tr)(n:Nat):Except Int (Tr×Nat):=
 aQ (dD B rc cx (kidD t 0) n) λ_ n=>aQ (dU B rc cx (kidD t 1) (kidD t 0) n) λ_ n=>
  aQ (rc (cx++[(kidD t 0,some (kidD t 1))]) (kidD t 2) n) λz n=>cU (bh z (kidD t 1) 0) n
def j3(B:ak)(rc:RcJ)(cx:Ctx)(t:Tr)(n:Nat):Except Int (Tr×Nat):=
 if t.n.op=1 then .ok (aG (fR cx t.n.a).1 (t.n.a+1) 0,n)
 else if t.n.op=2 then n9 t n
 else if t.n.op=8 then .ok (tr (ax B t.n.a).type,n)
 else if t.n.op=9 then cU (gj B t.n.a) n
 else if t.n.op=10 then cU (hH B t.n.a t.n.b) n
 else if t.n.op=4 then oa B rc cx t n
 else if t.n.op=5 then od B rc cx t n
 else if t.n.op=6 then oe B rc cx t n
 else if t.n.op=7 then og B rc cx t n
 else if t.n.op=11 then kR B rc cx t.n (kidsT t) n
 else lT B rc cx t n
def eu(B:ak):Nat ->RcJ
 |0,_,_,_=>.error 10
 |g+1,cx,t,n=>j3 B (eu B g) cx t n
structure cF(B:ak)(rc:RcJ):Prop where
 ft:∀cx t n q,CxOk B cx ->cx.length<=260 ->Ft (QB B) (cx.length:Int) t ->rc cx t n= .ok q ->Ft (QB B) (cx.length:Int) q.1
 le:∀cx t n q,rc cx t n= .ok q ->q.2<=n
 er:∀cx t n e,rc cx t n= .error e ->e≠0
theorem bC{α β:Type}{m:Except Int (α×Nat)}{k:α ->Nat ->Except Int (β×Nat)}{q:β×Nat}(h:aQ m k= .ok q):∃p,m= .ok p/\k p.1 p.2= .ok q:=by
 unfold aQ at h;split at h
 ·cases h
 ·rename_i p
  exact⟨p,rfl,h⟩
theorem bdJ_er{α β:Type}{m:Except Int (α×Nat)}{k:α ->Nat ->Except Int (β×Nat)}{e:Int}(h:aQ m k= .error e):m= .error e \/∃p,m= .ok p/\k p.1 p.2= .error e:=by
 unfold aQ at h;split at h
 ·injection h with h
  subst h;exact .inl rfl
 ·rename_i p
  exact .inr ⟨p,rfl,h⟩
theorem jh{α:Type}{m:Except Int α}{n:Nat}{q:α×Nat}(h:cU m n= .ok q):m= .ok q.1/\q.2=n:=by
 unfold cU at h;split at h
 ·cases h
 ·injection h with h
  subst h;exact⟨rfl,rfl⟩
theorem oh{α:Type}{m:Except Int α}{n:Nat}{e:Int}(h:cU m n= .error e):m= .error e:=by
 unfold cU at h;split at h
 ·injection h with h
  subst h
  rfl
 ·cases h
section
variable{B:ak}{rc:RcJ}{cx:Ctx}
theorem qr{t:Tr}{n:Nat}{q:Tr×Nat}(h:fx B cx t n= .ok q):cx.length<=256/\eg B cx t (n:Int)= .ok q/\q.2<=n:=by
 unfold fx at h;split at h
 ·cases h
 ·exact⟨Uo,h,sH h⟩
theorem qs{x y:Tr}{u:Bool}{n:Nat}{q:Bool×Nat}(h:gB B cx x y u n= .ok q):cx.length<=256/\q.2<=n:=by
 unfold gB at h;split at h
 ·cases h
 ·refine⟨Uo,?_⟩
  unfold lL at h;have:=lK B _ _ _ _ _ _ _ h;unfold bK at this;omega
theorem jB(b:GoodB B)(a:CxOk B cx){x:Tr}{n:Nat}{q:Tr×Nat}(c:Ft (QB B) (cx.length:Int) x)(h:fx B cx x n= .ok q):cx.length<=256/\q.2<=n/\Ft (QB B) (cx.length:Int) q.1:=by
 obtain⟨d,e,f⟩:=qr h;exact⟨d,f,(vF b a Uo c e).1⟩
theorem fA(d:GoodB B)(hr:cF B rc){t:Tr}{n:Nat}{q:(Int×List Atom)×Nat}(h:dD B rc cx t n= .ok q):cx.length<=256/\q.2<=n/\(CxOk B cx ->Ft (QB B) (cx.length:Int) t ->∃s,Ft (QB B) (cx.length:Int) s/\s.n.op=2/\q.1=(s.n.a,bq s)):=by
 unfold dD at h;obtain⟨p,b,h⟩:=bC h;obtain⟨z,c,h⟩:=bC h;obtain⟨e,k,f⟩:=qr c;split at h
 ·cases h
 ·rename_i g
  injection h with h
  subst h;refine⟨e,KQ f (hr.le _ _ _ _ b),λa i=>⟨headT z.1,?_,Uo,rfl⟩⟩;have j:=hr.ft cx t n p a Uo i b;exact(jB d a j c).2.2.head
theorem jC(hr:cF B rc){t ty:Tr}{n:Nat}{q:Unit×Nat}(h:dU B rc cx t ty n= .ok q):cx.length<=256/\q.2<=n:=by
 unfold dU at h;obtain⟨p,a,h⟩:=bC h;obtain⟨z,b,h⟩:=bC h;obtain⟨c,d⟩:=qs b;split at h
 ·injection h with h
  subst h;exact⟨c,KQ d (hr.le _ _ _ _ a)⟩
 ·cases h
structure j4(vars:Int)(l:List Atom):Prop where
 lo:1<=l.length
 hi:l.length<=4
 up:(l.map Atom.var).Pairwise (· < ·)
 at_:∀x∈l,0<=x.var/\x.var<=16/\x.var<=vars/\0<=x.add/\x.add<=1000
theorem sI{x:Tr}{N:Int}(i:Ft (QB B) N x)(h2:x.n.op=2):j4 B.vars (bq x):=by
 obtain⟨u,j,m,f⟩:=Ff i.ok h2;have H:=i.ok.pl;have p:(x.n.a=0 \/x.n.a=1)/\aI x.n.b 1 4=true:=by simpa[aw,h2]using H
 have I:=dI.1 p.2;have q:=i.al;have e:=i.ok.2;obtain⟨n,K⟩:=x;have h2:n.op=2:=h2;simp only[Tr.ks,Tr.n]at m j f I;simp only[gF',KX h2,Bool.and_eq_true]at e;refine⟨by simp[bq,Tr.ks];omega,by simp[bq,Tr.ks];omega,?_,?_⟩
 ·have:∀(l:List Tr) (c:Int),rT' c l=true ->(∀y∈l,c<y.n.a)/\(l.map λy=>y.n.a).Pairwise (· < ·):=by
   intro l
   induction l with
   |nil=>intro c _;exact⟨(λy d=>by cases d),List.Pairwise.nil⟩
   |cons z l L=>
    intro c h;simp only[rT',Bool.and_eq_true,decide_eq_true_eq]at h;obtain⟨v,M⟩:=L z.n.a h.2;refine⟨λy d=>?_,?_⟩
    ·rcases List.mem_cons.1 d with rfl|d
     ·exact h.1
     ·have:=v y d;omega
    ·rw[List.map_cons,List.pairwise_cons]
     refine⟨λy d=>?_,M⟩;obtain⟨O,r,rfl⟩:=List.mem_map.1 d;exact v O r
  have:=(this K (-1) e.1).2
  simpa[bq,Tr.ks,List.map_map,Function.comp_def]using this
 ·intro y d
  obtain⟨k,A,rfl⟩:=List.mem_map.1 d;obtain⟨t,P⟩:=f k A;have R:=xI (lw.1 q).2 A;obtain⟨⟨o,a,b⟩,s⟩:=k;have D:=(lw.1 R).1;have t:o=3:=t;subst t;have g:aI a 0 16=true/\aI b 0 1000=true:=by simpa[aw,Tr.n]using P
  have E:=dI.1 g.1;have F:=dI.1 g.2;simp[QB,cr,aY]at D;exact⟨E.1,E.2,D,F.1,F.2⟩
theorem Fm{N:Int}{kind:Int}(y:kind=0 \/kind=1){l:List Atom}(h:j4 B.vars l):Ft (QB B) N (eW kind l):=by
 have x:(eW kind l).ks.length=l.length:=by simp[eW,Tr.ks]
 have g:row (eW kind l)=⟨2,kind,(l.length:Int)⟩::l.map λa=>⟨3,a.var,a.add⟩:=by
  unfold eW;simp only[row]
  congr 1
  induction l with
  |nil=>rfl
  |cons a l e=>
   simp only[List.map_cons,rows,row];have:∀(l:List Atom),rows (l.map λa=>(.mk ⟨3,a.var,a.add⟩ []:Tr))=l.map λa=>⟨3,a.var,a.add⟩:=by
    intro l
    induction l with
    |nil=>rfl
    |cons b l e=>simp[rows,row,e]
   rw[this]
   rfl
 have s:aw ⟨2,kind,(l.length:Int)⟩=true:=by
  have i:=h.lo;have j:=h.hi;simp only[aw];rw[KY UO,KX trivial];simp only[Bool.and_eq_true,Bool.or_eq_true,decide_eq_true_eq,dI];exact⟨y,Uo,Uo⟩
 have t:∀a∈l,aw ⟨3,a.var,a.add⟩=true:=λa f=>by
  have:=h.at_ a f;simp only[aw];rw[KY UO,KY UO,KX trivial];simp only[Bool.and_eq_true,dI];omega
 refine⟨⟨⟨?_,?_⟩,?_⟩,?_,?_,?_⟩
 ·simp only[cnt,s]
  rw[KX ⟨trivial,UO,UO⟩];simp
 ·have:∀(l:List Atom) (k:Nat),(∀a∈l,aw ⟨3,a.var,a.add⟩=true) ->bH cnt nx (l.map λa=>(.mk ⟨3,a.var,a.add⟩ []:Tr)) ⟨2,kind,(l.length:Int)⟩ .tm k:=by
   have u:∀(n:Nd),n.op=2 ->∀(l:List Atom) (k:Nat),(∀a∈l,aw ⟨3,a.var,a.add⟩=true) ->bH cnt nx (l.map λa=>(.mk ⟨3,a.var,a.add⟩ []:Tr)) n .tm k:=by
    intro n z l
    induction l with
    |nil=>intro k _;trivial
    |cons b l e=>
     intro k o;refine⟨⟨?_,trivial⟩,e _ λa f=>o a (by simp[f])⟩;have v:nx Md.tm n k= .am:=by simp[nx,z]
     rw[v];simp[cnt,o b Ud]
   intro A k o;exact u _ rfl A k o
  exact this l 0 t
 ·have:∀(l:List Atom) (c:Int),(∀a∈l,c<a.var) ->(l.map Atom.var).Pairwise (· < ·) ->rT' c (l.map λa=>(.mk ⟨3,a.var,a.add⟩ []:Tr))=true:=by
   intro l
   induction l with
   |nil=>intro c _ _;rfl
   |cons b l e=>
    intro c i j;rw[List.map_cons,List.pairwise_cons]at j;simp only[List.map_cons,rT',Bool.and_eq_true,Tr.n];exact⟨KU (i b Ud),e b.var (λa f=>j.1 a.var (QD f)) j.2⟩
  have i:=this l (-1) (λa f=>by have:=h.at_ a f;omega) h.up;have D:∀(l:List Atom),eV' (l.map λa=>(.mk ⟨3,a.var,a.add⟩ []:Tr))=true:=by
   intro l
   induction l with
   |nil=>rfl
   |cons b l e=>simp[eV',gF',e]
  simp[eW,gF',i,D]
 ·rw[g]
  have:=h.hi;simp;omega
 ·intro q p
  exfalso;simp only[eW,varsT]at p;rw[KY UO]at p;have:∀(l:List Atom) (n:Nd) (E k d:Int),varsK (l.map λa=>(.mk ⟨3,a.var,a.add⟩ []:Tr)) n E k d=[]:=by
   intro l
   induction l with
   |nil=>intros;rfl
   |cons b l e=>intros;simp[varsK,varsT,e]
  rw[this]at p;cases p
 ·intro m r
  rw[g]at r;rcases List.mem_cons.1 r with rfl|r
  ·simp[QB,cr,aY]
  ·obtain⟨a,f,rfl⟩:=List.mem_map.1 r
   have:=h.at_ a f;simp[QB,cr,aY];omega
theorem zQ{vars:Int}{l:List Atom}(h:j4 vars l)(he:dC l 1=0):j4 vars (fS l 1):=by
 have d:fS l 1=io l 1:=by unfold fS;rw[KX he]
 rw[d];have c:(io l 1).map Atom.var=l.map Atom.var:=by simp[io,List.map_map,Function.comp_def]
 have a:∀x∈l,x.add+1<=1000:=by
  unfold dC at he;split at he
  ·cases he
  ·rw[KY UO]at he
   split at he
   ·cases he
   ·rename_i g
    intro x b;have:¬ (l.any λx=>decide (1000<x.add+1))=true:=g;rw[List.any_eq_true]at this
    by_cases q:1000<x.add+1
    ·exact absurd ⟨x,b,by simpa using q⟩ this
    ·omega
 refine⟨by simpa[io]using h.lo,by simpa[io]using h.hi,by rw[c];exact h.up,λy e=>?_⟩;obtain⟨x,b,rfl⟩:=List.mem_map.1 e;have:=h.at_ x b;have:=a x b;simp only;omega
theorem zR{vars:Int}{a b:List Atom}(ha:j4 vars a)(hb:j4 vars b)(he:cI a b=0):j4 vars (dB a b):=by
 have o:dB a b=maxL a b:=by unfold dB;rw[KX he]
 rw[o];have d:=zH (mapF (a++b)) (List.range 17);have d:(maxL a b).map Atom.var=ik (mapF (a++b)) (List.range 17):=d;have g:(maxL a b).length<=4:=by
  unfold cI at he;split at he
  ·cases he
  ·split at he
   ·cases he
   ·omega
 have e:∀x v,mapF (a++b) x=some v ->∃y,(y∈a \/y∈b)/\y.var=x/\y.add=v:=λx v h=>by
  obtain⟨y,c,k,m⟩:=vD h;exact⟨y,List.mem_append.1 c,k,m⟩
 have i:∀y∈maxL a b,mapF (a++b) y.var=some y.add:=λy c=>by
  unfold maxL at c;obtain⟨v,_,f⟩:=List.mem_filterMap.1 c;cases h:mapF (a++b) v with
  |none=>rw[h]at f;cases f
  |some n=>
   rw[h]at f;obtain rfl:=JB f;exact h
 refine⟨?_,g,by rw[d];exact zI _ _,λy c=>?_⟩
 ·obtain⟨y,c⟩:∃y,y∈a:=by
   cases a with
   |nil=>have:=ha.lo;simp at this
   |cons y r=>exact⟨y,Ud⟩
  have p:=ha.at_ y c;obtain⟨v,f,_⟩:=L1 (l:=a++b) (y:=y) (by simp[c]);have:(⟨y.var,v⟩:Atom)∈maxL a b:=by
   unfold maxL;refine List.mem_filterMap.2 ⟨y.var.toNat,List.mem_range.2 Uo,?_⟩;rw[show ((y.var.toNat:Nat):Int)=y.var by omega,f]
   rfl
  have:=List.length_pos_of_mem this;omega
 ·obtain⟨z,j,k,m⟩:=e _ _ (i y c)
  rw[<- k,<- m];rcases j with j|j
  ·exact ha.at_ z j
  ·exact hb.at_ z j
end
theorem tm_ops{x:Tr}(h:Ok .tm x):x.n.op=1 \/x.n.op=2 \/x.n.op=4 \/x.n.op=5 \/x.n.op=6 \/x.n.op=7 \/x.n.op=8 \/x.n.op=9 \/x.n.op=10 \/x.n.op=11 \/x.n.op=12:=by
 obtain⟨n,c⟩:=x;obtain⟨a,d,b,_⟩:=eS h.kids.1;simp only[Tr.n];simp only[aw]at a
 repeat' split at a
 all_goals first|omega|(exact absurd a UO)
theorem sJ{Q:Nd ->Prop}{N:Int}{x:Tr}(h:Ft Q N x)(a:x.n.op=11):((kidsT x).length:Int)=2+x.n.b/\0<=x.n.b/\x.n.b<=16/\∀y∈kidsT x,Ft Q N y:=by
 obtain⟨b,c,d,e⟩:=gP h.ok a;exact⟨by rw[b];exact c,d,e,zN h Uo⟩
theorem Mi{x:Tr}(h:Ok .tm x)(h2:x.n.op=2):x.n.a=0 \/x.n.a=1:=by
 have a:=h.pl;have:(x.n.a=0 \/x.n.a=1)/\aI x.n.b 1 4=true:=by simpa[aw,h2]using a
 exact this.1
section
variable{B:ak}{rc:RcJ}{cx:Ctx}
theorem jD(d:GoodB B)(hr:cF B rc)(a:CxOk B cx){t:Tr}(e:Ft (QB B) (cx.length:Int) t){n:Nat}{q:(Int×List Atom)×Nat}(h:dD B rc cx t n= .ok q):cx.length<=256/\(q.1.1=0 \/q.1.1=1)/\j4 B.vars q.1.2:=by
 obtain⟨f,j,g⟩:=fA d hr h;obtain⟨s,b,c,i⟩:=g a e;rw[i];exact⟨f,Mi b.ok c,sI b c⟩
theorem bQ{q:Tr×Option Tr}:(cx++[q]).length=cx.length+1:=Ud
theorem kS{ys:List Tr}{x:Tr}{e:Int}(h:bp ys x= .error e):e=9:=by
 unfold bp at h;split at h
 ·injection h with h;exact h.symm
 ·cases h
theorem ebind_er{α β:Type}{m:Except Int α}{k:α ->Except Int β}{e:Int}(h:m.bind k= .error e):m= .error e \/∃x,k x= .error e:=by
 cases m with
 |error a=>
  have h:Except.error a=Except.error e:=h;injection h with h
  exact .inl (by rw[h])
 |ok a=>exact .inr ⟨a,h⟩
theorem zS{a:List Tr}{cg:Int}{e:Int}:∀(i:Nat) (t:Tr),cR a cg i t= .error e ->e=9
 |0,t,h=>by cases h
 |i+1,t,h=>by
  rcases ebind_er h with h|⟨x,h⟩
  ·exact gY h
  ·exact zS i x h
theorem zT{a b:Int}{c:List Tr}{mo:Tr}{e:Int}(h:jg B a b c mo= .error e):e=9:=by
 rcases ebind_er h with h|⟨x,h⟩
 ·exact iI h
 rcases ebind_er h with h|⟨y,h⟩
 ·exact iI h
 rcases ebind_er h with h|⟨y,h⟩
 ·exact kS h
 ·exact zS _ _ h
theorem zU{a:Int}{e:Int}(h:gj B a= .error e):e=9:=by
 rcases ebind_er h with h|⟨x,h⟩
 ·exact kS h
 ·exact kS h
theorem zV{a b:Int}{e:Int}(h:hH B a b= .error e):e=9:=by
 rcases ebind_er h with h|⟨x,h⟩
 ·exact iI h
 rcases ebind_er h with h|⟨y,h⟩
 ·exact kS h
 ·exact kS h
theorem Mj{a:Int}{b:List Tr}{i ni:Nat}{e:Int}(h:jA B a b i ni= .error e):e=9:=by
 unfold jA at h;split at h
 ·exact zS _ _ h
 ·exact iI h
theorem andE_er{m:Except Int (Bool×Nat)}{k:Nat ->Except Int (Bool×Nat)}{e:Int}(h:gz m k= .error e):m= .error e \/∃n,k n= .error e:=by
 unfold gz at h;split at h
 ·injection h with h
  subst h;exact .inl rfl
 ·rename_i q
  split at h
  ·exact .inr ⟨_,h⟩
  ·cases h
abbrev vL(rc:RcC):Prop:=∀cx x y u n e,rc cx x y u n= .error e ->e≠0
theorem zX{rc:RcC}(hr:vL rc){e:Int}:∀(xs ys:List Tr) (n:Nat),di rc cx xs ys n= .error e ->e≠0
 |x::r,y::s,n,h=>by
  rcases andE_er h with h|⟨m,h⟩
  ·exact hr _ _ _ _ _ _ h
  ·exact zX hr r s _ h
 |[],ys,n,h=>by simp[di]at h
 |x::r,[],n,h=>by simp[di]at h
theorem Fo{rc:RcC}(hr:vL rc){c:Ctx}{e:Int}:∀(xs ys:List Tr) (n:Nat),eo rc cx c xs ys n= .error e ->e≠0
 |x::a::r,y::b::s,n,h=>by
  rcases andE_er h with h|⟨m,h⟩
  ·exact hr _ _ _ _ _ _ h
  rcases andE_er h with h|⟨m,h⟩
  ·exact hr _ _ _ _ _ _ h
  ·exact Fo hr r s _ h
 |[],ys,n,h=>by simp[eo]at h
 |[x],ys,n,h=>by simp[eo]at h
 |x::a::r,[],n,h=>by simp[eo]at h
 |x::a::r,[y],n,h=>by simp[eo]at h
theorem Ml{rc:RcC}(hr:vL rc){f g:Tr}{u:Bool}{n:Nat}{e:Int}(h:je B rc cx f g u n= .error e):e≠0:=by
 unfold je at h;split at h
 ·cases h
 split at h
 ·rcases andE_er h with h|⟨m,h⟩
  ·exact hr _ _ _ _ _ _ h
  ·exact hr _ _ _ _ _ _ h
 split at h
 ·rcases andE_er h with h|⟨m,h⟩
  ·exact hr _ _ _ _ _ _ h
  ·exact hr _ _ _ _ _ _ h
 split at h
 ·split at h
  ·unfold mS at h
   split at h
   ·exact Fo hr _ _ _ h
   ·cases h
  ·cases h
 split at h
 ·exact zX hr _ _ _ h
 ·cases h
theorem sK{x:Tr}{f:Int}{e:Int}(h:eg B cx x f= .error e):e≠0:=by
 have:=whnf_er _ _ _ _ _ h;omega
theorem sL(B:ak):∀(g:Nat),vL (df B g)
 |0,cx,x,y,u,n,e,h=>by
  simp only[df]at h;injection h with h
  omega
 |g+1,cx,x,y,u,n,e,h=>by
  simp only[df]at h;split at h
  ·injection h with h
   omega
  split at h
  ·cases h
  split at h
  ·injection h with h
   omega
  split at h
  ·rename_i er a
   injection h with h
   subst h;exact sK a
  split at h
  ·rename_i er a
   injection h with h
   subst h;exact sK a
  ·unfold nY at h
   split at h
   ·cases h
   rcases andE_er h with h|⟨m,h⟩
   ·exact Ml (sL B g) h
   ·exact zX (sL B g) _ _ _ h
theorem lU{t:Tr}{n:Nat}{e:Int}(h:fx B cx t n= .error e):e≠0:=by
 unfold fx at h;split at h
 ·injection h with h
  omega
 ·exact sK h
theorem sM{x y:Tr}{u:Bool}{n:Nat}{e:Int}(h:gB B cx x y u n= .error e):e≠0:=by
 unfold gB at h;split at h
 ·injection h with h
  omega
 ·exact sL B _ _ _ _ _ _ _ h
theorem ir(hr:cF B rc){t:Tr}{n:Nat}{e:Int}(h:dD B rc cx t n= .error e):e≠0:=by
 rcases bdJ_er h with h|⟨p,_,h⟩
 ·exact hr.er _ _ _ _ h
 rcases bdJ_er h with h|⟨p,_,h⟩
 ·exact lU h
 split at h
 ·injection h with h
  omega
 ·cases h
theorem kT(hr:cF B rc){t ty:Tr}{n:Nat}{e:Int}(h:dU B rc cx t ty n= .error e):e≠0:=by
 rcases bdJ_er h with h|⟨p,_,h⟩
 ·exact hr.er _ _ _ _ h
 rcases bdJ_er h with h|⟨p,_,h⟩
 ·exact sM h
 split at h
 ·cases h
 ·injection h with h
  omega
theorem Fp{a:Int}{b:List Tr}{ni:Nat}{e:Int}:∀(k i:Nat) (cx:Ctx) (m:Tr) (n:Nat),iM B a b ni k i cx m n= .error e ->e≠0
 |0,i,cx,m,n,h=>by
  rcases bdJ_er h with h|⟨p,_,h⟩
  ·exact lU h
  split at h
  ·injection h with h
   omega
  ·cases h
 |k+1,i,cx,m,n,h=>by
  rcases bdJ_er h with h|⟨p,_,h⟩
  ·exact lU h
  split at h
  ·injection h with h
   omega
  rcases bdJ_er h with h|⟨p,_,h⟩
  ·have:=Mj (oh h)
   omega
  rcases bdJ_er h with h|⟨p,_,h⟩
  ·exact sM h
  split at h
  ·exact Fp k _ _ _ _ h
  ·injection h with h
   omega
theorem zY{a:Int}{b:List Tr}{ni:Nat}{q:Int×Nat}:∀(k i:Nat) (cx:Ctx) (m:Tr) (n:Nat),iM B a b ni k i cx m n= .ok q ->q.2<=n
 |0,i,cx,m,n,h=>by
  obtain⟨p,h1,h⟩:=bC h;have:=(qr h1).2.2;split at h
  ·cases h
  ·injection h with h
   subst h;exact this
 |k+1,i,cx,m,n,h=>by
  obtain⟨p,h1,h⟩:=bC h;have e:=(qr h1).2.2;split at h
  ·cases h
  obtain⟨f,c,h⟩:=bC h;have g:=(jh c).2;obtain⟨j,d,h⟩:=bC h;have l:=(qs d).2;split at h
  ·have:=zY k _ _ _ _ h
   omega
  ·cases h
theorem Fq(hr:cF B rc){e:Int}:∀(l:List Tr) (cx:Ctx) (n:Nat),mV B rc cx l n= .error e ->e≠0
 |[],cx,n,h=>by cases h
 |a::r,cx,n,h=>by
  rcases bdJ_er h with h|⟨p,_,h⟩
  ·exact ir hr h
  split at h
  ·cases h
  ·exact Fq hr r _ _ h
theorem Fs(b:GoodB B)(hr:cF B rc){q:Bool×Nat}:∀(l:List Tr) (cx:Ctx) (n:Nat),mV B rc cx l n= .ok q ->q.2<=n
 |[],cx,n,h=>by
  injection h with h
  subst h;exact KJ _
 |a::r,cx,n,h=>by
  obtain⟨p,h1,h⟩:=bC h;have c:=(fA b hr h1).2.1;split at h
  ·injection h with h
   subst h;exact c
  ·have:=Fs b hr r _ _ h
   omega
theorem Fu(hr:cF B rc){a:Int}{n:Nat}{e:Int}(h:jZ B rc a n= .error e):e≠0:=by
 unfold jZ at h;split at h
 ·cases h
 split at h
 ·cases h
 ·exact Fq hr _ _ _ h
theorem zZ(b:GoodB B)(hr:cF B rc){a:Int}{n:Nat}{q:Bool×Nat}(h:jZ B rc a n= .ok q):q.2<=n:=by
 unfold jZ at h;split at h
 ·injection h with h
  subst h;exact KJ _
 split at h
 ·injection h with h
  subst h;exact KJ _
 ·exact Fs b hr _ _ _ h
theorem Fv(hr:cF B rc){a:Int}{c:List Tr}{mo:Tr}{e:Int}:∀(l:List Tr) (k n:Nat),lS B rc cx a c mo k l n= .error e ->e≠0
 |[],k,n,h=>by cases h
 |b::r,k,n,h=>by
  rcases bdJ_er h with h|⟨p,_,h⟩
  ·have:=zT (oh h)
   omega
  rcases bdJ_er h with h|⟨p,_,h⟩
  ·exact kT hr h
  ·exact Fv hr r _ _ h
theorem Fw(hr:cF B rc){a:Int}{c:List Tr}{mo:Tr}{q:Unit×Nat}:∀(l:List Tr) (k n:Nat),lS B rc cx a c mo k l n= .ok q ->q.2<=n
 |[],k,n,h=>by
  injection h with h
  subst h;exact KJ _
 |b::r,k,n,h=>by
  obtain⟨p,h1,h⟩:=bC h;have e:=(jh h1).2;obtain⟨f,d,h⟩:=bC h;have g:=(jC hr d).2;have:=Fw hr r _ _ h;omega
theorem Fx(hr:cF B rc){t:Tr}{e:Int}:∀(k i n:Nat),n8 B rc cx t k i n= .error e ->e≠0
 |0,i,n,h=>by cases h
 |k+1,i,n,h=>by
  rcases bdJ_er h with h|⟨p,_,h⟩
  ·exact ir hr h
  ·exact Fx hr k _ _ h
theorem Fy(a:GoodB B)(hr:cF B rc){t:Tr}{q:Unit×Nat}:∀(k i n:Nat),n8 B rc cx t k i n= .ok q ->q.2<=n/\(0<k ->cx.length<=256)
 |0,i,n,h=>by
  injection h with h
  subst h;exact⟨KJ _,λh=>Uo⟩
 |k+1,i,n,h=>by
  obtain⟨p,h1,h⟩:=bC h;have b:=fA a hr h1;have:=Fy a hr k _ _ h;exact⟨Uo,λ_=>b.1⟩
theorem Fz(hr:cF B rc){t:Tr}{nb:Nat}{e:Int}:∀(k i n:Nat),mW B rc cx t nb k i n= .error e ->e≠0
 |0,i,n,h=>by cases h
 |k+1,i,n,h=>by
  rcases bdJ_er h with h|⟨p,_,h⟩
  ·exact kT hr h
  ·exact Fz hr k _ _ h
theorem FA(hr:cF B rc){t:Tr}{nb:Nat}{q:Unit×Nat}:∀(k i n:Nat),mW B rc cx t nb k i n= .ok q ->q.2<=n
 |0,i,n,h=>by
  injection h with h
  subst h;exact KJ _
 |k+1,i,n,h=>by
  obtain⟨p,h1,h⟩:=bC h;have a:=(jC hr h1).2;have:=FA hr k _ _ h;omega
end
section
variable{B:ak}{rc:RcJ}{cx:Ctx}
theorem FB{P:Prop}(t:Tr)(h:Ok .tm t)(h1:t.n.op=1 ->P)(h2:t.n.op=2 ->P)(d:t.n.op=8 ->P)(e:t.n.op=9 ->P)(a:t.n.op=10 ->P)(h4:t.n.op=4 ->P)(f:t.n.op=5 ->P)(i:t.n.op=6 ->P)(j:t.n.op=7 ->P)(b:t.n.op=11 ->P)(c:t.n.op=12 ->P):P:=by
 rcases tm_ops h with g|g|g|g|g|g|g|g|g|g|g
 ·exact h1 g
 ·exact h2 g
 ·exact h4 g
 ·exact f g
 ·exact i g
 ·exact j g
 ·exact d g
 ·exact e g
 ·exact a g
 ·exact b g
 ·exact c g
theorem Mm(hr:cF B rc){t:Tr}{n:Nat}{e:Int}(h:j3 B rc cx t n= .error e):e≠0:=by
 unfold j3 at h;split at h
 ·cases h
 split at h
 ·unfold n9 at h
  split at h
  ·injection h with h
   omega
  ·cases h
 split at h
 ·cases h
 split at h
 ·have:=zU (oh h)
  omega
 split at h
 ·have:=zV (oh h)
  omega
 split at h
 ·unfold oa at h
  rcases bdJ_er h with h|⟨p,_,h⟩
  ·exact ir hr h
  rcases bdJ_er h with h|⟨q,_,h⟩
  ·exact ir hr h
  split at h
  ·injection h with h
   omega
  ·cases h
 split at h
 ·unfold od at h
  rcases bdJ_er h with h|⟨p,_,h⟩
  ·exact ir hr h
  rcases bdJ_er h with h|⟨q,_,h⟩
  ·exact hr.er _ _ _ _ h
  have:=kS (oh h);omega
 split at h
 ·unfold oe at h
  rcases bdJ_er h with h|⟨p,_,h⟩
  ·exact hr.er _ _ _ _ h
  rcases bdJ_er h with h|⟨q,_,h⟩
  ·exact lU h
  split at h
  ·injection h with h
   omega
  rcases bdJ_er h with h|⟨q,_,h⟩
  ·exact kT hr h
  have:=gY (oh h);omega
 split at h
 ·unfold og at h
  rcases bdJ_er h with h|⟨p,_,h⟩
  ·exact ir hr h
  rcases bdJ_er h with h|⟨q,_,h⟩
  ·exact kT hr h
  rcases bdJ_er h with h|⟨q,_,h⟩
  ·exact hr.er _ _ _ _ h
  have:=gY (oh h);omega
 split at h
 ·unfold kR at h
  simp only at h;rcases bdJ_er h with h|⟨p,_,h⟩
  ·exact hr.er _ _ _ _ h
  rcases bdJ_er h with h|⟨q,_,h⟩
  ·exact lU h
  split at h
  ·injection h with h
   omega
  split at h
  ·injection h with h
   omega
  rcases bdJ_er h with h|⟨q,_,h⟩
  ·exact hr.er _ _ _ _ h
  rcases bdJ_er h with h|⟨q,_,h⟩
  ·exact Fp _ _ _ _ _ h
  rcases bdJ_er h with h|⟨q,_,h⟩
  ·split at h
   ·exact Fu hr h
   ·cases h
  split at h
  ·injection h with h
   omega
  rcases bdJ_er h with h|⟨q,_,h⟩
  ·exact Fv hr _ _ _ h
  have:=iI (oh h);omega
 ·unfold lT at h
  rcases bdJ_er h with h|⟨p,_,h⟩
  ·exact Fx hr _ _ _ h
  split at h
  ·injection h with h
   omega
  rcases bdJ_er h with h|⟨p,_,h⟩
  ·exact Fz hr _ _ _ h
  cases h
theorem Mn(c:GoodB B)(hr:cF B rc){t:Tr}{n:Nat}{q:Tr×Nat}(h:j3 B rc cx t n= .ok q):q.2<=n:=by
 unfold j3 at h;split at h
 ·injection h with h
  subst h;exact KJ _
 split at h
 ·unfold n9 at h
  split at h
  ·cases h
  ·injection h with h
   subst h;exact KJ _
 split at h
 ·injection h with h
  subst h;exact KJ _
 split at h
 ·exact Nat.le_of_eq (jh h).2
 split at h
 ·exact Nat.le_of_eq (jh h).2
 split at h
 ·unfold oa at h
  obtain⟨d,a,h⟩:=bC h;obtain⟨e,b,h⟩:=bC h;have f:=(fA c hr a).2.1;have g:=(fA c hr b).2.1;split at h
  ·cases h
  ·injection h with h
   subst h;simp only;omega
 split at h
 ·unfold od at h
  obtain⟨d,a,h⟩:=bC h;obtain⟨e,b,h⟩:=bC h;have f:=(fA c hr a).2.1;have g:=hr.le _ _ _ _ b;have k:=(jh h).2;omega
 split at h
 ·unfold oe at h
  obtain⟨d,a,h⟩:=bC h;obtain⟨e,b,h⟩:=bC h;have f:=hr.le _ _ _ _ a;have g:=(qr b).2.2;split at h
  ·cases h
  obtain⟨l,i,h⟩:=bC h;have k:=(jC hr i).2;have m:=(jh h).2;omega
 split at h
 ·unfold og at h
  obtain⟨d,a,h⟩:=bC h;obtain⟨e,b,h⟩:=bC h;obtain⟨l,i,h⟩:=bC h;have f:=(fA c hr a).2.1;have g:=(jC hr b).2;have k:=hr.le _ _ _ _ i;have m:=(jh h).2;omega
 split at h
 ·unfold kR at h
  simp only at h;obtain⟨d,a,h⟩:=bC h;obtain⟨e,b,h⟩:=bC h;have f:=hr.le _ _ _ _ a;have g:=(qr b).2.2;split at h
  ·cases h
  split at h
  ·cases h
  obtain⟨l,i,h⟩:=bC h;obtain⟨o,p,h⟩:=bC h;obtain⟨r,j,h⟩:=bC h;have k:=hr.le _ _ _ _ i;have m:=zY _ _ _ _ _ p;have u:r.2<=o.2:=by
   split at j
   ·exact zZ c hr j
   ·injection j with j
    subst j;exact KJ _
  split at h
  ·cases h
  obtain⟨v,s,h⟩:=bC h;have x:=Fw hr _ _ _ s;have y:=(jh h).2;omega
 ·unfold lT at h
  obtain⟨d,a,h⟩:=bC h;have f:=(Fy c hr _ _ _ a).1;split at h
  ·cases h
  obtain⟨e,b,h⟩:=bC h;have g:=FA hr _ _ _ b;injection h with h
  subst h;simp only;omega
theorem FC{α:Type}{l:List α}{i:Nat}{d:α}(h:i<l.length):l.getD i d∈l:=by
 rw[QK,List.getElem?_eq_getElem h];exact List.getElem_mem h
theorem Mo(k:GoodB B)(hr:cF B rc)(a:CxOk B cx)(p:cx.length<=260){t:Tr}(c:Ft (QB B) (cx.length:Int) t){n:Nat}{q:Tr×Nat}(h:j3 B rc cx t n= .ok q):Ft (QB B) (cx.length:Int) q.1:=by
 have r:(0:Int)<=(cx.length:Int):=Uo
 unfold j3 at h;split at h
 ·rename_i g
  injection h with h
  subst h;obtain⟨O,ks⟩:=t;obtain⟨P,R,_⟩:=c.var_lt g;obtain⟨S,c2⟩:=a _ _ (nH P R);have:=S.lift (qk B) (b:=O.a+1) Uo Uo Uo;refine this.mono ?_;omega
 split at h
 ·unfold n9 at h
  rename_i g;split at h
  ·cases h
  ·rename_i A
   injection h with h
   subst h;exact Fm (.inr rfl) (zQ (sI c g) Uo)
 split at h
 ·rename_i g
  injection h with h
  subst h;obtain⟨i,x,ty,bo,I,l,T,D⟩:=k.dfn c.node' g;simp only;rw[T,D.type,iY D.ft.ok];exact(D.ft.wk λm U=>my (Nat.le_of_lt (aL l)) U).mono r
 split at h
 ·rename_i g
  have E:=dn c.ok.pl;exact(Mg k (x5 c.node' g E.2.2.1) (jh h).1).mono r
 split at h
 ·rename_i g
  have E:=dn c.ok.pl;exact(Mh k (kA c.node' (.inl g)) E.1 (uA c.node' g) (jh h).1).mono r
 split at h
 ·unfold oa at h
  rename_i g;obtain⟨_,d,e⟩:=eV c (.inl g);obtain⟨s,f,h⟩:=bC h;obtain⟨u,o,h⟩:=bC h;obtain⟨K,L,F⟩:=jD k hr a d f;obtain⟨b1,V,W⟩:=jD k hr (a.snoc d λx l=>by cases l) (t:=kidD t 1) (by rw[bQ];exact e.mono Uo) o;split at h
  ·cases h
  ·rename_i A
   injection h with h
   subst h;exact Fm V (zR F W Uo)
 split at h
 ·unfold od at h
  rename_i g;obtain⟨_,d,e⟩:=eV c (.inr g);obtain⟨s,f,h⟩:=bC h;obtain⟨u,o,h⟩:=bC h;obtain⟨K,L,F⟩:=jD k hr a d f;have:=hr.ft _ _ _ _ (a.snoc d λx l=>by cases l) (by rw[bQ];omega) (by rw[bQ];exact e.mono Uo) o;rw[bQ]at this;refine lQ (qk B) (this.mono Ud) (λi y j=>?_) (jh h).1;have I:=aL j;obtain rfl:i=0:=by simp at I;omega
  simp only[List.getElem?_cons_zero,QZ]at j;subst j;exact d.mono Uo
 split at h
 ·unfold oe at h
  rename_i g;obtain⟨_,d,e⟩:=sG c g;obtain⟨s,f,h⟩:=bC h;obtain⟨u,o,h⟩:=bC h;have f1:=hr.ft _ _ _ _ a p d f;obtain⟨_,_,f2⟩:=jB k a f1 o;split at h
  ·cases h
  rename_i A;obtain⟨M,H,h⟩:=bC h;obtain⟨_,z0,X⟩:=eV f2.head (.inl Uo);have:=gQ (qk B) (v:=0) (X.mono Uo) e r Uo Uo Uo (jh h).1;exact this.mono Uo
 split at h
 ·unfold og at h
  rename_i g;obtain⟨_,d,e,Y⟩:=o9 c g;obtain⟨s,f,h⟩:=bC h;obtain⟨u,o,h⟩:=bC h;obtain⟨M,H,h⟩:=bC h;obtain⟨K,L,F⟩:=jD k hr a d f;have:=hr.ft _ _ _ _ (a.snoc d λx l=>by injection l with l;rw[<- l];exact e) (by rw[bQ];omega) (by rw[bQ];exact Y.mono Uo) H;rw[bQ]at this;have:=gQ (qk B) (v:=0) (this.mono Uo) e r Uo Uo Uo (jh h).1;exact this.mono Uo
 split at h
 ·rename_i g
  obtain⟨l1,l2,l3,N⟩:=sJ c g;unfold kR at h;simp only at h;obtain⟨s,f,h⟩:=bC h;obtain⟨u,o,h⟩:=bC h;split at h
  ·cases h
  split at h
  ·cases h
  obtain⟨M,H,h⟩:=bC h;obtain⟨p4,h4,h⟩:=bC h;obtain⟨p5,h5,h⟩:=bC h;split at h
  ·cases h
  obtain⟨p6,h6,h⟩:=bC h;have d:Ft (QB B) (cx.length:Int) ((kidsT t).getD 0 (varX 0)):=N _ (FC Uo);have e:Ft (QB B) (cx.length:Int) ((kidsT t).getD 1 (varX 0)):=N _ (FC Uo);have f1:=hr.ft _ _ _ _ a p e f;obtain⟨_,_,f2⟩:=jB k a f1 o;refine gv (qk B) d (λy j=>?_) (jh h).1;rcases List.mem_append.1 j with j|j
  ·exact f2.args _ (List.mem_of_mem_drop j)
  ·simp only[List.mem_singleton]at j
   subst j;exact e
 ·rename_i A g2 g8 g9 Z g4 g5 g6 g7 a0
  have z:t.n.op=12:=by
   have:=tm_ops c.ok;omega
  have hl:=dZ c.ok z;unfold lT at h;obtain⟨s,f,h⟩:=bC h;split at h
  ·cases h
  obtain⟨u,o,h⟩:=bC h;injection h with h
  subst h;exact(iL c z (i:=t.n.a.toNat) Uo).2.2.1
theorem Mp(a:GoodB B)(hr:cF B rc):cF B (j3 B rc):=
 ⟨λcx t n q b c d h=>Mo a hr b c d h,λcx t n q h=>Mn a hr h,λcx t n e h=>Mm hr h⟩
theorem dj(a:GoodB B):∀(g:Nat),cF B (eu B g)
 |0=>⟨λcx t n q h1 h2 h3 h=>by simp[eu]at h,λcx t n q h=>by simp[eu]at h,λcx t n e h=>by simp[eu]at h;omega⟩
 |g+1=>Mp a (dj a g)
end
mutual
theorem fC':∀(x:Tr) (s:Md),okT cnt nx x s ->∀m∈row x,aw m=true
 | .mk n ks,s,h,m,hm=>by
  obtain⟨h1,h2⟩:=h;simp only[row,JJ]at hm;rcases hm with rfl|hm
  ·cases s with
   |tm=>exact(eS h1).1
   |fn=>
    simp only[cnt]at h1;split at h1
    ·rename_i q;exact q.2
    ·cases h1
   |am=>
    simp only[cnt]at h1;split at h1
    ·rename_i q;exact q.2
    ·cases h1
  ·exact nG' ks n s 0 h2 m hm
theorem nG':∀(l:List Tr) (n:Nd) (s:Md) (k:Nat),bH cnt nx l n s k ->∀m∈rows l,aw m=true
 |[],n,s,k,_,m,hm=>by simp[rows]at hm
 |y::r,n,s,k,h,m,hm=>by
  obtain⟨h1,h2⟩:=h;simp only[rows,JW]at hm;rcases hm with hm|hm
  ·exact fC' y _ h1 m hm
  ·exact nG' r n s (k+1) h2 m hm
end
def dg(B:ak)(known:Nat)(self:Int)(l:List Nd)(below:Int):Int:=
 if fF l≠0 then fF l else if ku (tr l) below=false then 8 else if l.any (λm=>!aY B known self m)=true then 8 else 0
def bX(B:ak)(known:Nat)(self step:Int):List (List Nd) ->Int ->Int
 |[],_=>0
 |l::r,below=>if dg B known self l below≠0 then dg B known self l below else bX B known self step r (below+step)
def iu(l:List Nd):Int:=if (l.getD 0 ⟨0,0,0⟩).op≠2 then 8 else 0
def gC(B:ak)(i:Nat)(x:cf):List dy ->Int
 |[]=>0
 |c::r=>if 16<c.args.length then 5 else if c.out.length≠x.indices.length then 8
  else if bX B i i 1 c.args (x.params.length:Int)≠0 then bX B i i 1 c.args (x.params.length:Int)
  else if bX B i i 0 c.out ((x.params.length:Int)+(c.args.length:Int))≠0 then bX B i i 0 c.out ((x.params.length:Int)+(c.args.length:Int))
  else gC B i x r
def bE(a b:Int):Int:=if a≠0 then a else b
def fN(B:ak)(i:Nat)(x:cf):Int:=
 if x.kind=1 then (if 0<x.type.length+x.body.length then 8 else if 16<x.params.length \/16<x.indices.length \/16<x.ctors.length then 5
  else bE (dg B i (-1) x.sort 0) (bE (iu x.sort) (bE (bX B i (-1) 1 x.params 0) (bE (bX B i (-1) 1 x.indices (x.params.length:Int)) (gC B i x x.ctors)))))
 else if x.kind=2 then (if 0<x.sort.length+x.params.length+x.indices.length+x.ctors.length then 8 else bX B i (-1) 0 [x.type,x.body] 0)
 else 8
def kU(B:ak):List cf ->Nat ->Int
 |[],_=>0
 |x::r,i=>bE (fN B i x) (kU B r (i+1))
def mX(B:ak)(a:Int):Bool:=
 if a<0 \/(B.ents.length:Int)<=a \/(ax B a).kind≠1 then false
 else if (ax B a).sort.length≠2 \/((ax B a).sort.getD 0 ⟨0,0,0⟩).a≠1 \/(ax B a).sort.getD 1 ⟨0,0,0⟩≠⟨3,0,0⟩ \/0<(ax B a).params.length+(ax B a).indices.length \/(ax B a).ctors.length≠2 then false
 else decide (((ax B a).ctors.getD 0 default).args.length=0) && (decide (((ax B a).ctors.getD 1 default).args.length=1) && (decide ((((ax B a).ctors.getD 1 default).args.getD 0 []).length=1) && decide ((((ax B a).ctors.getD 1 default).args.getD 0 []).getD 0 ⟨0,0,0⟩=⟨9,a,0⟩)))
def mY(B:ak):List (Int×Int) ->G ->Bool
 |[],_=>true
 |p::r,g=>if p.1<0 \/(B.ents.length:Int)<=p.1 \/(ax B p.1).kind≠2 \/p.2<1 \/3<p.2 \/0<(g p.1 (-1)).getD 0+(g (-1) p.2).getD 0 then false else mY B r (putG (putG g p.1 (-1) 1) (-1) p.2 1)
def iv(B:ak):Bool:=if (B.nat≠ -1/\mX B B.nat=false) \/(B.nat= -1/\0<B.prims.length)then false else mY B B.prims λ_ _=>none
def cP(B:ak):Int:=if pO B.vars B.orders≠0 then pO B.vars B.orders else if 64<B.ents.length then 5 else bE (kU B B.ents 0) (if iv B=true then 0 else 22)
def sN(B:ak)(below:Int)(t:List Nd):Int:=if cP B≠0 then cP B else if below<0 then 1 else dg B B.ents.length (-1) t below
def vM(B:ak):List (List Nd×List Nd) ->Nat ->Int
 |[],_=>0
 |q::r,i=>if sN B i q.1≠0 then sN B i q.1 else if q.2.length=0 then vM B r (i+1)else if sN B i q.2≠0 then sN B i q.2 else vM B r (i+1)
def lV(B:ak)(c:List (List Nd×List Nd))(t:List Nd):Int:=
 if cP B≠0 then cP B else if 256<c.length then 5 else if vM B c 0≠0 then vM B c 0 else sN B c.length t
theorem oi{a b:Int}:bE a b=0↔a=0/\b=0:=by
 unfold bE;split
 ·rename_i h
  exact⟨λe=>absurd e h,λe=>absurd e.1 h⟩
 ·rename_i h
  exact⟨λe=>⟨Uo,e⟩,λe=>e.2⟩
theorem Mq{l:List Nd}(h:fF l=0):l.length<=4096/\l=row (tr l)/\Ok .tm (tr l):=by
 unfold fF at h;split at h
 ·cases h
 ·split at h
  ·rename_i e b
   obtain⟨x,a⟩:=Option.isSome_iff_exists.1 b;obtain⟨c,d⟩:=CB a;have:tr l=x:=by unfold tr;rw[a];rfl
   rw[this];exact⟨Uo,c,d⟩
  ·cases h
section
variable{B:ak}
theorem Mr{x:Tr}{N:Int}(b:0<=N):ku x N=true↔Bl x N:=by
 unfold ku;rw[List.all_eq_true];constructor
 ·intro h q a
  have:=h q a;simp only[decide_eq_true_eq]at this;omega
 ·intro h q a
  have:=h q a;simp only[decide_eq_true_eq];omega
theorem z6{known:Nat}{self:Int}{l:List Nd}{N:Int}(c:0<=N)(h:dg B known self l N=0):l=row (tr l)/\Ft (cr B known self) N (tr l):=by
 unfold dg at h;split at h
 ·rename_i g;exact absurd h g
 rename_i k;obtain⟨d,a,e⟩:=Mq (l:=l) Uo;split at h
 ·cases h
 rename_i f;split at h
 ·cases h
 rename_i i;refine⟨a,e,by rw[<- a];exact d,(Mr c).1 (by simpa using f),λm b=>?_⟩;rw[<- a]at b;have:¬ (l.any λm=>!aY B known self m)=true:=i;rw[List.any_eq_true]at this;unfold cr;cases j:aY B known self m with
 |true=>rfl
 |false=>exact absurd ⟨m,b,by simp[j]⟩ this
theorem qt{known:Nat}{self step:Int}(c:0<=step):∀(ls:List (List Nd)) (N:Int),0<=N ->bX B known self step ls N=0 ->ls=(ls.map tr).map row/\∀(k:Nat) y,(ls.map tr)[k]?=some y ->Ft (cr B known self) (N+k*step) y
 |[],N,b,h=>⟨rfl,λk y a=>by simp at a⟩
 |l::r,N,b,h=>by
  simp only[bX]at h;split at h
  ·rename_i g;exact absurd h g
  rename_i g;obtain⟨h1,h2⟩:=z6 (l:=l) b (Decidable.not_not.1 g);obtain⟨d,e⟩:=qt c r (N+step) Uo h;refine⟨?_,λk y a=>?_⟩
  ·rw[List.map_cons,List.map_cons,<- h1,<- d]
  ·cases k with
   |zero=>
    simp only[List.map_cons,List.getElem?_cons_zero,QZ]at a;subst a;exact h2.mono Ud
   |succ k=>
    simp only[List.map_cons,List.getElem?_cons_succ]at a;exact(e k y a).mono (by
     have:((k+1:Nat):Int)*step=(k:Int)*step+step:=by
      rw[Int.natCast_add,Int.add_mul];simp
     omega)
theorem FD{i:Nat}{x:cf}:∀(cs:List dy),gC B i x cs=0 ->∀(k:Nat) c,cs[k]?=some c ->∃b go,GoodC B i x.params.length x.indices.length c b go
 |[],h,k,c,hc=>by simp at hc
 |c0::r,h,k,c,hc=>by
  simp only[gC]at h;split at h
  ·cases h
  split at h
  ·cases h
  split at h
  ·rename_i g;exact absurd h g
  split at h
  ·rename_i g;exact absurd h g
  rename_i o p d e;cases k with
  |succ k=>exact FD r h k c (by simpa using hc)
  |zero=>
   simp only[List.getElem?_cons_zero,QZ]at hc;subst hc;obtain⟨f,j⟩:=qt (step:=1) Uo c0.args (x.params.length:Int) Uo (Decidable.not_not.1 d);obtain⟨l,m⟩:=qt (step:=0) Uo c0.out ((x.params.length:Int)+(c0.args.length:Int)) Uo (Decidable.not_not.1 e);refine⟨c0.args.map tr,c0.out.map tr,f,l,Uk,Uk,λk y a=>(j k y a).mono Uo,λy a=>?_⟩;obtain⟨k,n⟩:=JH a;exact(m k y n).mono Ud
theorem Ms{i:Nat}{x:cf}(h:fN B i x=0):(∃s j l,GoodF B i x s j l) \/∃ty bo,xY B i x ty bo:=by
 unfold fN at h;split at h
 ·rename_i d
  split at h
  ·cases h
  split at h
  ·cases h
  rename_i E F;obtain⟨b,h⟩:=oi.1 h;obtain⟨a,h⟩:=oi.1 h;obtain⟨m,h⟩:=oi.1 h;obtain⟨o,p⟩:=oi.1 h;obtain⟨f,g⟩:=z6 Uo b;obtain⟨q,r⟩:=qt (step:=1) Uo x.params 0 Uo m;obtain⟨q1,t⟩:=qt (step:=1) Uo x.indices (x.params.length:Int) Uo o;refine .inl ⟨tr x.sort,x.params.map tr,x.indices.map tr,d,f,g,?_,q,q1,Uk,Uk,Uo,λk y e=>(r k y e).mono Uo,λk y e=>(t k y e).mono Ud,λk c u=>?_⟩
  ·unfold iu at a
   split at a
   ·cases a
   ·rename_i H
    have:(x.sort.getD 0 ⟨0,0,0⟩).op=(tr x.sort).n.op:=by
     rw[f,iY g.ok];obtain⟨n,I⟩:=tr x.sort;simp[row,Tr.n]
    omega
  ·obtain⟨v,z,A⟩:=FD x.ctors p k c u
   exact⟨v,z,by simpa using A⟩
 split at h
 ·rename_i D d
  split at h
  ·cases h
  obtain⟨b,a⟩:=qt (step:=0) Uo [x.type,x.body] 0 Uo h;simp only[List.map_cons,List.map_nil,List.cons.injEq]at b;exact .inr ⟨tr x.type,tr x.body,d,b.1,b.2.1,(a 0 _ rfl).mono Ud,(a 1 _ rfl).mono Ud⟩
 ·cases h
theorem kl':∀(l:List cf) (i:Nat),kU B l i=0 ->∀(k:Nat) x,l[k]?=some x ->fN B (i+k) x=0
 |[],i,h,k,x,a=>by simp at a
 |y::r,i,h,k,x,a=>by
  obtain⟨h1,h2⟩:=oi.1 h;cases k with
  |zero=>
   simp only[List.getElem?_cons_zero,QZ]at a;subst a;exact h1
  |succ k=>
   have:=kl' r (i+1) h2 k x (by simpa using a)
   rwa [show i+(k+1)=i+1+k by omega]
theorem FE(h:cP B=0):GoodB B:=by
 unfold cP at h;split at h
 ·rename_i g;exact absurd h g
 split at h
 ·cases h
 rename_i c d;obtain⟨a,e⟩:=oi.1 h;refine⟨Uo,Uo,λi x b=>?_⟩;have:=kl' B.ents 0 a i x b;rw[KW]at this;exact Ms this
def vN(c:List (List Nd×List Nd)):Ctx:=c.map λq=>(tr q.1,if q.2.length=0 then none else some (tr q.2))
end
end Go.Q
