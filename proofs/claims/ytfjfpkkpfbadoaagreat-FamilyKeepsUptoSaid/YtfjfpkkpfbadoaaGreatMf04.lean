import Derived.Test.YtfjfpkkpfbadoaaGreatMf03
set_option linter.all false
set_option maxHeartbeats 4000000
noncomputable section
open Go.Proofs Go.Proofs.Tryz Cd Go.Wx Tm
namespace Go.Q
abbrev fd(e:Int):List PanicEntry:=[{v:=.iface 177 (.agg #[iV e]),recovered:=false}]
theorem Dx(v:Value)(w:World):(Instr.makeInterface 177 v).run prog w= .ok (.iface 177 v) w:=by
 simp[Instr.makeInterface,underlying177,go_sem]
def Dy(C:Mem)(x:Tr)(h u:Value):Prop:=TmV C (headT x) h/\TmsV C (argsT x) u
theorem ih':∀(ys:List Tr) (x a:Tr),ak' x (ys++[a])= .mk appN [ak' x ys,a]
 |[],x,a=>rfl
 |y::r,x,a=>by
  rw[List.cons_append,ak',ak',ih' r]
theorem jS':∀(L:Nat) (x:Tr),(row x).length<=L ->Ok .tm x ->ak' (headT x) (argsT x)=x
 |0,x,hl,_=>by
  have:=aR x;omega
 |L+1,.mk n i,hl,h=>by
  by_cases b:n.op=6
  ·obtain⟨f,a,rfl,d,j⟩:=nD h b
   have c:=h.tm.1;have e:n=appN:=by
    obtain⟨l,m,q⟩:=n;simp only at b;subst b;simp[aw]at c;simp[appN,c]
   have g:kidsT (.mk n [f,a])=[f,a]:=by simp[kidsT,b]
   have r:=ig' (.mk n [f,a]) f (by simp[g]);rw[lq b,lr b,ih',jS' L f Uo d,e]
  ·rw[mu b,nE b]
   rfl
theorem Ft.spine{Q:Nd ->Prop}{N:Int}{x:Tr}(h:Ft Q N x):ak' (headT x) (argsT x)=x:=jS' _ x (KJ _) h.ok
theorem Ft.nargs{Q:Nd ->Prop}{N:Int}{x:Tr}(h:Ft Q N x):(row x).length=(argsT x).length+((row (headT x)).length+(rows (argsT x)).length):=by
 have:=bO' (argsT x) (headT x);rw[h.spine]at this;rw[this];simp
theorem xi':∀ys:List Tr,ys.length<=(rows ys).length
 |[]=>KJ _
 |y::r=>by
  have:=aR y;have:=xi' r;simp only[rows,JK,JV];omega
open Go.Wx Cd Tm Lv
def tr(l:List Nd):Tr:=(ny l).getD (varX 0)
theorem iY{x:Tr}(h:Ok .tm x):tr (row x)=x:=by unfold tr;rw[CD h];rfl
def ax(B:ak)(a:Int):cf:=B.ents.getD a.toNat default
def bF(B:ak)(known:Nat)(a:Int):Bool:=decide (0<=a) && (decide (a<known) && decide ((ax B a).kind=1))
def aY(B:ak)(known:Nat)(self:Int)(m:Nd):Bool:=
 if m.op=3 then decide (m.a<=B.vars)
 else if m.op=8 then decide (0<=m.a) && (decide (m.a<known) && decide ((ax B m.a).kind=2))
 else if m.op=9 then decide (m.a=self)||bF B known m.a
 else if m.op=11 then bF B known m.a
 else if m.op=10 then bF B known m.a && decide (m.b<(ax B m.a).ctors.length)
 else true
def cr(B:ak)(known:Nat)(self:Int)(m:Nd):Prop:=aY B known self m=true
def QB(B:ak):Nd ->Prop:=cr B B.ents.length (-1)
theorem Jg(B:ak)(k:Nat)(s:Int):Qk (cr B k s):=⟨λm h=>by simp[cr,aY,h],λm h=>by
 have:m.op≠3/\m.op≠8/\m.op≠9/\m.op≠11/\m.op≠10:=Uo
 simp[cr,aY,this]⟩
theorem qk(B:ak):Qk (QB B):=Jg B _ _
structure GoodC(B:ak)(i:Nat)(np ni:Nat)(c:dy)(ga go:List Tr):Prop where
 args:c.args=ga.map row
 out:c.out=go.map row
 la:ga.length<=16
 lo:go.length=ni
 fa:∀(k:Nat) y,ga[k]?=some y ->Ft (cr B i i) ((np+k:Nat):Int) y
 fo:∀y∈go,Ft (cr B i i) ((np+ga.length:Nat):Int) y
structure GoodF(B:ak)(i:Nat)(x:cf)(s:Tr)(ps qi:List Tr):Prop where
 kind:x.kind=1
 sort:x.sort=row s
 fs:Ft (cr B i (-1)) 0 s
 s2:s.n.op=2
 params:x.params=ps.map row
 indices:x.indices=qi.map row
 lp:ps.length<=16
 li:qi.length<=16
 lc:x.ctors.length<=16
 fp:∀(k:Nat) y,ps[k]?=some y ->Ft (cr B i (-1)) (k:Int) y
 fi:∀(k:Nat) y,qi[k]?=some y ->Ft (cr B i (-1)) ((ps.length+k:Nat):Int) y
 ct:∀(k:Nat) c,x.ctors[k]?=some c ->∃ga go,GoodC B i ps.length qi.length c ga go
structure xY(B:ak)(i:Nat)(x:cf)(ty bo:Tr):Prop where
 kind:x.kind=2
 type:x.type=row ty
 body:x.body=row bo
 ft:Ft (cr B i (-1)) 0 ty
 fb:Ft (cr B i (-1)) 0 bo
structure GoodB(B:ak):Prop where
 lvl:pO B.vars B.orders=0
 len:B.ents.length<=64
 ent:∀(i:Nat) x,B.ents[i]?=some x ->(∃s ps qi,GoodF B i x s ps qi) \/∃ty bo,xY B i x ty bo
theorem xZ{B:ak}{k c:Nat}(h:k<=c){a:Int}(b:bF B k a=true):bF B c a=true:=by
 simp only[bF,Bool.and_eq_true,decide_eq_true_eq]at b ⊢;exact⟨b.1,Uo,b.2.2⟩
theorem Dz{B:ak}{k b:Nat}{s s':Int}(h:k<=b)(a:s=s' \/bF B b s=true){m:Nd}(hm:cr B k s m):cr B b s' m:=by
 unfold cr aY at hm ⊢;split at hm
 ·rename_i g;rw[KX g];exact hm
 rename_i g;rw[KY g];split at hm
 ·rename_i g;rw[KX g]
  simp only[Bool.and_eq_true,decide_eq_true_eq]at hm ⊢;exact⟨hm.1,Uo,hm.2.2⟩
 rename_i g;rw[KY g];split at hm
 ·rename_i g;rw[KX g]
  simp only[Bool.or_eq_true,decide_eq_true_eq]at hm ⊢;rcases hm with hm|hm
  ·rcases a with a|a
   ·exact .inl Uo
   ·exact .inr (by rw[hm];exact a)
  ·exact .inr (xZ h hm)
 rename_i g;rw[KY g];split at hm
 ·rename_i g;rw[KX g];exact xZ h hm
 rename_i g;rw[KY g];split at hm
 ·rename_i g;rw[KX g]
  simp only[Bool.and_eq_true,decide_eq_true_eq]at hm ⊢;exact⟨xZ h hm.1,hm.2⟩
 ·rename_i g;rw[KY g]
theorem my{B:ak}{i:Nat}(hi:i<=B.ents.length){m:Nd}(hm:cr B i (-1) m):QB B m:=Dz hi (.inl rfl) hm
theorem DA{B:ak}{i:Nat}{x:cf}(hi:B.ents[i]?=some x)(a:x.kind=1){m:Nd}(hm:cr B i i m):QB B m:=by
 have b:=aL hi;refine Dz Uo (.inr ?_) hm;simp[bF,ax,hi,a];exact b
section
variable{B:ak}
theorem rr{i:Nat}{x:cf}(hi:B.ents[i]?=some x):ax B (i:Int)=x:=by simp[ax,hi]
theorem GoodB.fam(e:GoodB B){k:Nat}{a:Int}(h:bF B k a=true)(m:k<=B.ents.length):∃(i:Nat) (x:cf) (s:Tr) (b c:List Tr),a=(i:Int)/\i<k/\B.ents[i]?=some x/\ax B a=x/\GoodF B i x s b c:=by
 simp only[bF,Bool.and_eq_true,decide_eq_true_eq]at h;obtain⟨q,r,f⟩:=h;obtain⟨i,rfl⟩:∃i:Nat,a=(i:Int):=⟨a.toNat,Uo⟩
 obtain⟨x,d,_⟩:=az (l:=B.ents) (k:=i);rw[rr d]at f ⊢;rcases e.ent i x d with ⟨s,b,c,g⟩|⟨t,u,j⟩
 ·exact⟨i,x,s,b,c,rfl,Uo,d,rfl,g⟩
 ·have:=j.kind
  omega
theorem GoodB.dfn(c:GoodB B){m:Nd}(h:QB B m)(d:m.op=8):∃(i:Nat) (x:cf) (ty bo:Tr),m.a=(i:Int)/\B.ents[i]?=some x/\ax B m.a=x/\xY B i x ty bo:=by
 simp only[QB,cr,aY,d]at h;simp at h;obtain⟨q,e,b⟩:=h;obtain⟨i,f⟩:∃i:Nat,m.a=(i:Int):=⟨m.a.toNat,Uo⟩
 rw[f]at b e ⊢;obtain⟨x,a,_⟩:=az (l:=B.ents) (k:=i);rw[rr a]at b ⊢;rcases c.ent i x a with ⟨s,r,t,g⟩|⟨ty,bo,j⟩
 ·have:=g.kind
  omega
 ·exact⟨i,x,ty,bo,rfl,a,rfl,j⟩
theorem kA{m:Nd}(h:QB B m)(h1:m.op=10 \/m.op=11):bF B B.ents.length m.a=true:=by
 rcases h1 with h1|h1
 ·simp[QB,cr,aY,h1]at h
  exact h.1
 ·simp[QB,cr,aY,h1]at h
  exact h
theorem x5{m:Nd}(h:QB B m)(h1:m.op=9)(a:0<=m.a):bF B B.ents.length m.a=true:=by
 simp[QB,cr,aY,h1]at h;rcases h with h|h
 ·omega
 ·exact h
theorem uA{m:Nd}(h:QB B m)(h1:m.op=10):m.b<(ax B m.a).ctors.length:=by
 simp[QB,cr,aY,h1]at h;exact h.2
theorem GoodF.up_p(e:GoodB B){i:Nat}{x:cf}{s:Tr}{a b:List Tr}(hi:B.ents[i]?=some x)(h:GoodF B i x s a b){k:Nat}{y:Tr}(c:a[k]?=some y):Ft (QB B) (k:Int) y:=
 (h.fp k y c).wk λm d=>my (Nat.le_of_lt (aL hi)) d
theorem GoodF.up_i(e:GoodB B){i:Nat}{x:cf}{s:Tr}{a b:List Tr}(hi:B.ents[i]?=some x)(h:GoodF B i x s a b){k:Nat}{y:Tr}(c:b[k]?=some y):Ft (QB B) ((a.length+k:Nat):Int) y:=
 (h.fi k y c).wk λm d=>my (Nat.le_of_lt (aL hi)) d
theorem GoodC.up_a{i:Nat}{x:cf}(hi:B.ents[i]?=some x)(b:x.kind=1){np ni:Nat}{c:dy}{a go:List Tr}(h:GoodC B i np ni c a go){k:Nat}{y:Tr}(d:a[k]?=some y):Ft (QB B) ((np+k:Nat):Int) y:=
 (h.fa k y d).wk λm e=>DA hi b e
theorem GoodC.up_o{i:Nat}{x:cf}(hi:B.ents[i]?=some x)(b:x.kind=1){np ni:Nat}{c:dy}{a go:List Tr}(h:GoodC B i np ni c a go){y:Tr}(d:y∈go):Ft (QB B) ((np+a.length:Nat):Int) y:=
 (h.fo y d).wk λm e=>DA hi b e
end
abbrev Ctx:=List (Tr×Option Tr)
def qA':Option Tr ->List Nd
 |none=>[]
 |some x=>row x
def aE(q:Tr×Option Tr):List Nd×List Nd:=(row q.1,qA' q.2)
def CxOk(B:ak)(c:Ctx):Prop:=∀(i:Nat) q,c[i]?=some q ->Ft (QB B) (i:Int) q.1/\∀x,q.2=some x ->Ft (QB B) (i:Int) x
theorem CxOk.snoc{B:ak}{c:Ctx}(h:CxOk B c){t:Tr}{v:Option Tr}(b:Ft (QB B) (c.length:Int) t)(d:∀x,v=some x ->Ft (QB B) (c.length:Int) x):CxOk B (c++[(t,v)]):=λi q a=>by
 by_cases f:i<c.length
 ·rw[QH f]at a
  exact h i q a
 ·rw[QU Uo]at a
  have e:i-c.length=0:=by
   have:=aL a;simp at this;omega
  rw[e]at a;simp only[List.getElem?_cons_zero,QZ]at a;subst a;rw[show i=c.length by omega];exact⟨b,d⟩
def fR(c:Ctx)(a:Int):Tr×Option Tr:=c.getD (c.length-1-a.toNat) (varX 0,none)
theorem nH{c:Ctx}{a:Int}(d:0<=a)(h1:a<c.length):c[c.length-1-a.toNat]?=some (fR c a):=by
 unfold fR;rw[QK];obtain⟨x,b,_⟩:=az (l:=c) (k:=c.length-1-a.toNat);rw[b]
 rfl
abbrev x6(v1 v2 v3 v4:Value)(C:Mem)(w:World)(bm:Nat)(B:ak)(c:Ctx)(n:Nat):Prop:=Bk w.heap bm [iV B.vars,v1,v2,iV B.nat,v3,v4,iV (n:Int)] 265/\SV rOr C B.orders v1/\SV rEn C B.ents v2/\SV rPr C B.prims v3/\SV rBd C (c.map aE) v4
def Jh(C:Mem)(w:World)(bm:Nat)(B:ak)(c:Ctx)(n:Nat):Prop:=∃v1 v2 v3 v4,x6 v1 v2 v3 v4 C w bm B c n
def BoV(C:Mem)(B:ak)(v:Value):Prop:=∃v1 v2 v3,v= .agg #[iV B.vars,v1,v2,iV B.nat,v3]/\SV rOr C B.orders v1/\SV rEn C B.ents v2/\SV rPr C B.prims v3
theorem BoV.mono{C D:Mem}{B:ak}{v:Value}(h:BoV C B v)(hc:∀b o v,C b o v ->D b o v):BoV D B v:=by
 obtain⟨a,c,d,e,f,g,i⟩:=h;exact⟨a,c,d,e,f.mono hc,g.mono hc,i.mono hc⟩
def fI(B:ak)(a:Int):Nat:=(ax B a).params.length
def iZ(B:ak)(a b:Int):dy:=(ax B a).ctors.getD b.toNat default
def iD(B:ak)(n:Nd)(s:Tr):Bool:=
 let c:=(headT s).n
 decide (c.op=10) && (decide (c.a=n.a) && (decide (c.b<n.b) && decide ((argsT s).length=fI B n.a+(iZ B n.a c.b).args.length)))
theorem _root_.Tm.Ok.pl{x:Tr}(h:Ok .tm x):aw x.n=true:=by
 obtain⟨n,a⟩:=x;exact h.tm.1
theorem Ft.node'{Q:Nd ->Prop}{N:Int}{x:Tr}(h:Ft Q N x):Q x.n:=by
 obtain⟨n,a⟩:=x;exact h.node
theorem DB{ks:List Tr}{k:Nat}{f:Tr}(h:ks[k]?=some f):rows ks=rows (ks.take k)++(row f++rows (ks.drop (k+1))):=by
 obtain⟨g,a,b⟩:=az (aL h);rw[h]at a;obtain rfl:=JB a;have:=de' (ks.take k) (ks.drop k);rw[List.take_append_drop,b]at this;rw[this]
 rfl
theorem lA{x:Tr}(q:Ok .tm x)(a:x.n.op=12){k:Nat}{f:Tr}(b:x.ks[k]?=some f):∃ty bo,f= .mk f.n [ty,bo]/\f.n.op=13/\aw f.n=true/\Ok .tm ty/\Ok .tm bo/\
  row x=(x.n::rows (x.ks.take k))++(row f++rows (x.ks.drop (k+1)))/\(row x)[1+(rows (x.ks.take k)).length]?=some f.n/\
  row x=(x.n::(rows (x.ks.take k)++[f.n]))++(row ty++(row bo++rows (x.ks.drop (k+1))))/\row x=(x.n::(rows (x.ks.take k)++(f.n::row ty)))++(row bo++rows (x.ks.drop (k+1))):=by
 obtain⟨n,d⟩:=x;simp only[Tr.n,Tr.ks]at a b ⊢;obtain⟨t,e,r⟩:=q.kids;have h:Ok .fn f:=⟨by
  have:=iW d 0 k f e b
  rwa [show nx Md.tm n (0+k)= .fn by simp[nx,a]]at this,dD' d k f r b⟩
 obtain⟨g,ty,bo,rfl,i,j,l,m⟩:=h.fn;have c:=DB b;refine⟨ty,bo,rfl,i,j,l,m,by simp[row,c],?_,by simp[row,c,rows],by simp[row,c,rows]⟩;show (n::rows d)[1+_]?=_;rw[Nat.add_comm,List.getElem?_cons_succ,c,QU (KJ _),Nat.sub_self]
 rfl
theorem dZ{x:Tr}(d:Ok .tm x)(a:x.n.op=12):(x.ks.length:Int)=x.n.b/\1<=x.n.b/\x.n.b<=4/\0<=x.n.a/\x.n.a<x.n.b:=by
 obtain⟨n,i⟩:=x;simp only[Tr.n,Tr.ks]at a ⊢;obtain⟨e,f,j⟩:=d.kids;obtain⟨g,_,_,c⟩:=eS e;have h:n.op≠2:=Uo
 have b:aI n.b 1 4=true/\aI n.a 0 (n.b-1)=true:=by simpa[aw,a]using g
 have l:=dI.1 b.1;have m:=dI.1 b.2;rw[KY h]at c;simp[bw,a]at c;omega
def bY(x:Tr):Int:=((x.ks[x.n.a.toNat]?).map λf=>f.n.a).getD 0
theorem nI{x:Tr}(e:Ok .tm x)(a:x.n.op=12):∃f,x.ks[x.n.a.toNat]?=some f/\bY x=f.n.a/\0<=bY x/\bY x<=15:=by
 have h:=dZ e a;obtain⟨f,b,_⟩:=az (l:=x.ks) (k:=x.n.a.toNat);obtain⟨i,j,_,c,g,_⟩:=lA e a b;have:bY x=f.n.a:=by simp[bY,b]
 have d:aI f.n.a 0 15=true:=by
  have:aI f.n.a 0 15=true/\f.n.b=0:=by simpa[aw,c]using g
  exact this.1
 have:=dI.1 d;exact⟨f,b,by assumption,Uo,Uo⟩
def kidD(x:Tr)(k:Nat):Tr:=(kidsT x).getD k (varX 0)
def cD(B:ak)(cx:Ctx)(x:Tr):Bool:=
 let h:=headT x
 if h.n.op=5 then decide (0<(argsT x).length)
 else if h.n.op=7 \/h.n.op=8 then true
 else if h.n.op=1 then (fR cx h.n.a).2.isSome
 else if h.n.op=11 then iD B h.n (kidD h 1)
 else if h.n.op=12 then decide (bY h<(argsT x).length) && decide ((headT ((argsT x).getD (bY h).toNat (varX 0))).n.op=10)
 else false
theorem Ji(o:Option Tr):0<(qA' o).length↔o.isSome=true:=by
 cases o with
 |none=>simp[qA']
 |some x=>
  have:=aR x;simp[qA',this]
theorem gP{x:Tr}(f:Ok .tm x)(a:x.n.op=11):kidsT x=x.ks/\(x.ks.length:Int)=2+x.n.b/\0<=x.n.b/\x.n.b<=16:=by
 obtain⟨n,j⟩:=x;simp only[Tr.n,Tr.ks]at a ⊢;obtain⟨g,h,l⟩:=f.kids;obtain⟨i,_,_,d⟩:=eS g;have e:n.op≠2:=Uo
 have b:n.op≠12:=Uo
 have c:aI n.b 0 16=true:=by
  have:aI n.a 0 63=true/\aI n.b 0 16=true:=by simpa[aw,a]using i
  exact this.2
 have m:=dI.1 c;rw[KY e]at d;simp[bw,a]at d;exact⟨by simp[kidsT,e,b],Uo,Uo,Uo⟩
theorem Ft.kidD{Q:Nd ->Prop}{N:Int}{x:Tr}(h:Ft Q N x){k:Nat}(b:k<(kidsT x).length):(kidsT x)[k]?=some (kidD x k)/\Ft Q (N+kb x.n k) (kidD x k):=by
 obtain⟨y,a,_⟩:=az (l:=kidsT x) (k:=k) b;have e:Go.Q.kidD x k=y:=by simp[Go.Q.kidD,a]
 rw[e];refine⟨a,?_⟩;obtain⟨n,c⟩:=x;exact h.kid a
def Cn(C:Mem)(w w':World):Mem:=λb o v=>C b o v \/New w.heap.size w' b o v
section
variable{C:Mem}{w w' w2:World}
theorem Cn.sub(a:Sub C w)(k:Kp [] w w'):Sub (Cn C w w') w':=λb o v h=>h.elim (λh=>(a _ _ _ h).kp k Ud) λh=>h.2.cl
end
def fJ(x:Tr)(k:Int):Tr:=(argsT x).getD k.toNat (varX 0)
def cE(x:Tr):Option Tr:=
 if (headT x).n.op=11 then some (kidD (headT x) 1)
 else if (headT x).n.op=12 then (if bY (headT x)<(argsT x).length then some (fJ x (bY (headT x)))else none)
 else none
section
variable{C:Mem}{w:World}{Q:Nd ->Prop}{N:Int}{x:Tr}
theorem kB(a:Ft Q N x){p:Tr}(h:cE x=some p):Ft Q N p/\(row p).length<(row x).length:=by
 have u:=a.nargs;unfold cE at h;split at h
 ·rename_i g
  obtain⟨i,j,_,_⟩:=gP a.head.ok g;obtain⟨m,d⟩:=a.head.kidD (k:=1) (by rw[i];omega);have b:kb (headT x).n 1=0:=by simp[kb,bi,g]
  rw[b,Int.add_zero]at d;obtain rfl:=JB h;have:=ig' (headT x) _ (JQ m);exact⟨d,Uo⟩
 ·split at h
  ·rename_i g
   split at h
   ·rename_i v
    obtain rfl:=JB h;obtain⟨f,z,q,r,t⟩:=nI a.head.ok g;obtain⟨y,c,_⟩:=az (l:=argsT x) (k:=(bY (headT x)).toNat);have e:fJ x (bY (headT x))=y:=by simp[fJ,c]
    rw[e];have:=eI' (JQ c);have:=aR (headT x);exact⟨a.args y (JQ c),Uo⟩
   ·cases h
  ·cases h
end
theorem Jj{C:Mem}{w:World}(i:Sub C w)(l:List Value)(a:Option Addr)(c:Nat)(hl:Sl rVal C a l)(h:l.length<=1000000):
  CC 179 #[.slice a l.length c] w (λe w'=>(∃v,e= .returned v/\Own rVal 39 w.heap.size w' v l)/\Kp [] w w'):=by
 refine oF func179 ?_;refine cO (args:=[_]) 8 [.tmp 2] τok func179 ?_;refine Cq τok rfl ?_;cases a with
 |none=>
  obtain rfl:=hl.none_nil;exact⟨⟨_,rfl,Own.nil _ _ (KJ _)⟩,Kp.refl _ _⟩
 |some a=>
  refine fill [] rfl<|fD λr t j b m d=>?_;refine(Own.empty rVal b (lo:=w.heap.size) Uo).apF τok rfl rfl UO Aw' (i.tr d) l hl (by simp only[JU];omega) (by simp only[JU,maxLen];omega) λq w2 f g _=>?_;rw[List.nil_append]at f;exact⟨⟨q,rfl,f⟩,d.own g (Own.empty rVal b (lo:=w.heap.size) Uo)⟩
theorem DC{P:Program}{τ:Tau}(b:aU P τ){T e sz bs:Nat}(g:Go.Wx.look τ.slcs T=some (e,sz,bs)){a:Option Addr}{len cap:Nat}{w:World}{k:Value ->World ->Prop}{j d:IntKind}{i i':Int}(h m:Nat)(hi:i=h)(c:i'=m)(h1:h<=m)(h2:m<=cap)(l:k (sliced a 0 h m sz) w):EvRun P (Instr.sliceAt T (.slice a len cap) none (some (.int j i)) (some (.int d i'))) w k:=by
 obtain⟨f,q⟩:=jg' b g;subst hi c;refine run ?_ l;rw[run_sliceAt_slice w T _ _ _ _ f,run_slice_hm w T a len cap f j d h m Uo Uo Uo,q]
 rfl
theorem Jk(n:Nat)(a:n<=1000000)(w:World):
  CC 258 #[.slice none 0 0,iV (n:Int)] w (λe w'=>∃v,e= .returned v/\Own rVal 39 w.heap.size w' v []/\Kp [] w w'):=by
 refine oF func258 ?_;refine cO (args:=[_,_]) 27 [.tmp 4] τok func258 ?_;refine pK rfl<|i6 ?_;refine i6 ?_;refine dH (λg=>?_) (λg=>?_);rotate_left
 ·exact⟨_,rfl,Own.nil _ _ (KJ _),Kp.refl _ _⟩
 have b:0<n:=by
  have g:(0:Int)<(n:Int)-((0:Nat)-(0:Nat):Int):=g;omega
 refine pK rfl<|pE τok rfl 0 (.slice none 0 0) rfl (KJ _) rfl ?_;have e:((n:Int)-((0:Nat)-(0:Nat):Int))=(n:Int):=Uo
 rw[e];refine xF (R:=rVal) rfl rfl UO rfl UO n b a λB G f h i c d=>?_;exact pE τok rfl 0 _ rfl (KV _) rf<|⟨_,rfl,c,d⟩
def fixAt(x:Tr)(i:Int):Tr:=.mk {x.n with a:=i} x.ks
def bh(b u:Tr)(v:Int):Except Int Tr:=if gN b u v=true then .error 9 else .ok (fH b u v)
def jP(x:Tr):Nat ->Tr ->Except Int Tr
 |0,b=>.ok b
 |i+1,b=>(bh b (aG (fixAt x i) i 0) 0).bind (jP x i)
def lB(x:Tr):Except Int Tr:=jP x x.n.b.toNat (kidD x (2*x.n.a.toNat+1))
section
variable{C:Mem}{w:World}{Q:Nd ->Prop}{N:Int}{x:Tr}
theorem Ft.fixAt(E:Qk Q)(c:Ft Q N x)(b:x.n.op=12){i:Int}(K:0<=i)(hi:i<x.n.b):Ft Q N (fixAt x i):=by
 obtain⟨n,u⟩:=x;have F:=dZ c.ok b;simp only[Tr.n,Tr.ks]at b hi F;unfold Go.Q.fixAt;simp only[Tr.n,Tr.ks];obtain⟨H,g,v⟩:=c.ok.kids;have z:=c.ok.tm.1;have j:aw {n with a:=i}=true:=by
  have:aI n.b 1 4=true/\aI n.a 0 (n.b-1)=true:=by simpa[aw,b]using z
  simp[aw,b,this.1];rw[dI];omega
 have m:bw {n with a:=i}=bw n:=by simp[bw,b]
 have r:∀k,nx .tm {n with a:=i} k=nx .tm n k:=λk=>by simp[nx]
 refine⟨⟨⟨?_,?_⟩,?_⟩,?_,?_,?_⟩
 ·rw[<- H]
  simp only[cnt,z,j,m]
 ·have:∀(l:List Tr) (k:Nat),bH cnt nx l n .tm k ->bH cnt nx l {n with a:=i} .tm k:=by
   intro l
   induction l with
   |nil=>intros;trivial
   |cons y l t=>intro k h;exact⟨by rw[r];exact h.1,t _ h.2⟩
  exact this u 0 g
 ·have:=c.ok.2
  simpa[gF']using this
 ·have:=c.len
  simpa[row]using this
 ·have D:n.op≠1:=Uo
  have I:∀q∈varsK u n 0 0 0,q.1-q.2<N:=λq f=>c.bl q (by simpa[varsT,D]using f);have e:∀(l:List Tr) (k d:Int),varsK l {n with a:=i} 0 k d=varsK l n 0 k d:=by
   intro l
   induction l with
   |nil=>intros;rfl
   |cons y l t=>intro k d;simp only[varsK,t];rfl
  intro q f;simp only[varsT,D,if_false]at f;rw[e]at f;exact I q f
 ·rw[lw]
  exact⟨E.app _ Us,(lw.1 c.al).2⟩
theorem gu{x:Tr}(b:Ok .tm x)(a:x.n.op=12):((kidsT x).length:Int)=2*x.n.b:=by
 have d:=dZ b a;obtain⟨n,g⟩:=x;simp only[Tr.n,Tr.ks]at a d;obtain⟨m,h,q⟩:=b.kids;have j:n.op≠2:=Uo
 have:∀k∈g,k.ks.length=2:=λf l=>by
  obtain⟨i,c⟩:=JH l;obtain⟨r,t,e,_⟩:=lA b a (k:=i) (f:=f) c;rw[e]
  rfl
 simp only[kidsT,KY j,KX a,Tr.n];rw[fZ' this];omega
theorem gQ(c:Qk Q){b u z:Tr}{v:Int}(hb:Ft Q (N+1+v) b)(d:Ft Q N u)(e:0<=N)(f:N<=100000)(a:0<=v)(i:v<=300000)(h:bh b u v= .ok z):Ft Q (N+v) z:=by
 unfold bh at h;split at h
 ·cases h
 ·rename_i g
  injection h with h
  subst h;exact hb.subst c d e f a i (by simpa using g)
theorem DD(c:Qk Q)(d:Ft Q N x)(a:x.n.op=12)(f:0<=N)(g:N<=90000):∀(i:Nat) (b z:Tr),(i:Int)<=x.n.b ->Ft Q (N+i) b ->jP x i b= .ok z ->Ft Q N z
 |0,b,z,_,hb,h=>by
  simp only[jP,Except.ok.injEq]at h;subst h;exact hb.mono Ud
 |i+1,b,z,hi,hb,h=>by
  simp only[jP]at h;have hl:=dZ d.ok a;have j:=(d.fixAt c a (i:=i) Uo Uo).lift c (b:=i) Uo Uo Uo;cases e:bh b (aG (Go.Q.fixAt x i) i 0) 0 with
  |error m=>rw[e]at h;cases h
  |ok y=>
   rw[e]at h;have l:=gQ c (N:=N+i) (v:=0) (hb.mono Uo) j Uo Uo Uo Uo e;exact DD c d a f g i y z Uo (l.mono Uo) h
theorem x7(e:Qk Q)(b:Ft Q N x)(a:x.n.op=12)(f:0<=N)(g:N<=90000){z:Tr}(h:lB x= .ok z):Ft Q N z:=by
 have i:=dZ b.ok a;have j:=gu b.ok a;obtain⟨_,d⟩:=b.kidD (k:=2*x.n.a.toNat+1) Uo;have c:kb x.n (2*x.n.a.toNat+1)=x.n.b:=by
  unfold kb;rw[KX a,KX Uo]
 rw[c]at d;exact DD e b a f g x.n.b.toNat _ z Uo (d.mono Uo) h
end
theorem ii':∀(ys:List Tr) (x:Tr),Ok .tm x ->headT (ak' x ys)=headT x/\argsT (ak' x ys)=argsT x++ys
 |[],x,_=>by simp[ak']
 |y::r,x,h=>by
  rw[ak'];have b:appN.op=6:=rfl;have e:headT (.mk appN [x,y])=headT x:=lq b;have f:argsT (.mk appN [x,y])=argsT x++[y]:=lr b;have:∀(l:List Tr) (z:Tr),headT (ak' z l)=headT z/\argsT (ak' z l)=argsT z++l:=by
   intro l
   induction l with
   |nil=>intro z;simp[ak']
   |cons a l g=>
    intro z;rw[ak'];obtain⟨c,d⟩:=g (.mk appN [z,a]);rw[c,d,lq b,lr b];simp
  obtain⟨c,d⟩:=this r (.mk appN [x,y]);rw[c,d,e,f];simp
theorem Ft.match{Q:Nd ->Prop}{N:Int}{n:Nd}{ks:List Tr}(u:aw n=true)(e:n.op=11)(a:Q n)(hl:(ks.length:Int)=2+n.b)(b:∀k∈ks,Ft Q N k)(f:(row (.mk n ks)).length<=4096):Ft Q N (.mk n ks):=by
 have g:n.op≠2:=Uo
 have v:n.op≠1:=Uo
 have i:n.op≠12:=Uo
 have r:n.op≠13:=Uo
 refine⟨⟨⟨?_,?_⟩,?_⟩,f,?_,?_⟩
 ·simp only[cnt,u,g]
  rw[KX ⟨trivial,Uo,Uo⟩];simp[bw,e];omega
 ·have:∀(l:List Tr) (j:Nat),(∀k∈l,Ok .tm k) ->bH cnt nx l n .tm j:=by
   intro l
   induction l with
   |nil=>intros;trivial
   |cons y l c=>
    intro j h;exact⟨by rw[show nx Md.tm n j= .tm by simp[nx,g,i]];exact(h y Ud).1,c _ λk b=>h k (by simp[b])⟩
  exact this ks 0 λk h=>(b k h).ok
 ·have:∀(l:List Tr),(∀k∈l,Ok .tm k) ->eV' l=true:=by
   intro l
   induction l with
   |nil=>intros;rfl
   |cons y l c=>
    intro h;simp[eV',(h y Ud).2,c λk b=>h k (by simp[b])]
  simp[gF',g,this ks λk h=>(b k h).ok]
 ·intro q a
  simp only[varsT,KY v]at a;have:∀(l:List Tr) (j:Int),(∀k∈l,Ft Q N k) ->∀q∈varsK l n 0 j 0,q.1-q.2<N:=by
   intro l
   induction l with
   |nil=>intro j _ q a;simp[varsK]at a
   |cons y l c=>
    intro j h q a;simp only[varsK,JW]at a;rcases a with a|a
    ·have t:=h y Ud
     have:bi n j=0:=by simp[bi,e]
     rw[mr r,this]at a;exact(t.ok.bld (d:=0+0) (nb:=n.b)).2 (t.bl.mono Uo) q a
    ·exact c _ (λk b=>h k (by simp[b])) q a
  exact this ks 0 b q a
 ·rw[lw]
  refine⟨a,?_⟩;have:∀(l:List Tr),(∀k∈l,Ft Q N k) ->lu Q l:=by
   intro l
   induction l with
   |nil=>intro _ m z;simp[rows]at z
   |cons y l c=>
    intro h;rw[nF];exact⟨(h y Ud).al,c λk b=>h k (by simp[b])⟩
  exact this ks b
def bP(x p:Tr):Tr:=
 if (headT x).n.op=11 then ak' (.mk (headT x).n ((headT x).ks.set 1 p)) (argsT x)
 else ak' (headT x) ((argsT x).set (bY (headT x)).toNat p)
theorem lE':∀(l:List Tr) (k:Nat) (y p:Tr),l[k]?=some y ->(rows (l.set k p)).length+(row y).length=(rows l).length+(row p).length
 |x::r,0,y,p,h=>by
  simp only[List.getElem?_cons_zero,QZ]at h;subst h;simp[rows];omega
 |x::r,k+1,y,p,h=>by
  have:=lE' r k y p (by simpa using h);simp[rows];omega
section
variable{C:Mem}{w:World}{Q:Nd ->Prop}{N:Int}{x p:Tr}
theorem rt(b:Ft Q N x){y:Tr}(a:cE x=some y):(row (bP x p)).length+(row y).length=(row x).length+(row p).length:=by
 have t:=b.nargs;unfold cE at a;unfold bP;split at a
 ·rename_i g
  rw[KX g];obtain⟨c,i,_,_⟩:=gP b.head.ok g;obtain⟨d,_⟩:=b.head.kidD (k:=1) (by rw[c];omega);rw[c]at d;obtain rfl:=JB a;have:=lE' _ 1 _ p d;have e:(row (headT x)).length=1+(rows (headT x).ks).length:=by
   cases headT x;simp[row,Tr.ks];omega
  rw[bO'];simp only[row,JK,List.length_replicate,JV];omega
 ·rename_i g
  rw[KY g];split at a
  ·rename_i j
   split at a
   ·rename_i u
    obtain⟨f,v,m,q,r⟩:=nI b.head.ok j;obtain⟨z,h,_⟩:=az (l:=argsT x) (k:=(bY (headT x)).toNat);have e:fJ x (bY (headT x))=z:=by simp[fJ,h]
    rw[e]at a;obtain rfl:=JB a;have:=lE' _ _ _ p h;rw[bO'];simp only[JK,List.length_replicate,List.length_set];omega
   ·cases a
  ·cases a
theorem x8(u:Qk Q)(b:Ft Q N x)(v:Ft Q N p){y:Tr}(z:cE x=some y)(hl:(row (bP x p)).length<=4096):Ft Q N (bP x p)/\headT (bP x p)=(if (headT x).n.op=11 then .mk (headT x).n ((headT x).ks.set 1 p)else headT x)/\argsT (bP x p)=if (headT x).n.op=11 then argsT x else (argsT x).set (bY (headT x)).toNat p:=by
 have r:∀n:Nd,n.op=11 ->∀d,headT (.mk n d)= .mk n d/\argsT (.mk n d)=[]:=λn h d=>⟨mu Uo,nE Uo⟩
 have j:headT (headT x)=headT x/\argsT (headT x)=[]:=by
  have:∀(L:Nat) (x:Tr),(row x).length<=L ->Ok .tm x ->headT (headT x)=headT x/\argsT (headT x)=[]:=by
   intro L
   induction L with
   |zero=>intro x hl;have:=aR x;omega
   |succ L H=>
    rintro⟨n,d⟩ hl I
    by_cases e:n.op=6
    ·obtain⟨f,a,rfl,K,T⟩:=nD I e
     have l:kidsT (.mk n [f,a])=[f,a]:=by simp[kidsT,e]
     have U:=ig' (.mk n [f,a]) f (by simp[l]);rw[lq e];exact H f Uo K
    ·rw[mu e]
     exact⟨mu e,nE e⟩
  exact this _ x (KJ _) b.ok
 unfold cE at z;unfold bP at hl ⊢;split at z
 ·rename_i g
  rw[KX g]at hl ⊢;obtain⟨l,M,_,_⟩:=gP b.head.ok g;have D:Ft Q N (.mk (headT x).n ((headT x).ks.set 1 p)):=by
   refine Ft.match b.head.ok.pl g b.head.node' Uk (λk c=>?_) ?_
   ·rcases List.mem_or_eq_of_mem_set c with h|rfl
    ·obtain⟨i,E⟩:=JH h
     have F:=b.head;cases O:headT x with
     |mk n d=>
      rw[O]at F E l g;have:=F.kid (k:=i) (y:=k) (by rw[l];exact E);simp only[Tr.n]at g;have t:kb n i=0:=by simp[kb,bi,g]
      rwa [t,Int.add_zero]at this
    ·exact v
   ·rw[bO']at hl
    simp only[JK,List.length_replicate]at hl;omega
  refine⟨Ft.apply u D b.args hl,?_⟩;obtain⟨m,q⟩:=ii' (argsT x) _ D.ok;obtain⟨R,S⟩:=r (headT x).n g ((headT x).ks.set 1 p);rw[R]at m;rw[S]at q;rw[m,q,KX g,KX g];exact⟨rfl,rfl⟩
 ·rename_i g
  rw[KY g]at hl ⊢;refine⟨Ft.apply u b.head (λk c=>?_) hl,?_⟩
  ·rcases List.mem_or_eq_of_mem_set c with h|rfl
   ·exact b.args k h
   ·exact v
  ·obtain⟨m,q⟩:=ii' ((argsT x).set (bY (headT x)).toNat p) _ b.head.ok
   rw[m,q,j.1,j.2,KY g,KY g];exact⟨rfl,rfl⟩
theorem x9(a:Qk Q)(b:Ft Q N x)(c:Ft Q N p){y:Tr}(d:cE x=some y)(hl:(row (bP x p)).length<=4096):Ft Q N (bP x p)/\Dy C (bP x p)=λh u=>TmV C (if (headT x).n.op=11 then .mk (headT x).n ((headT x).ks.set 1 p)else headT x) h/\TmsV C (if (headT x).n.op=11 then argsT x else (argsT x).set (bY (headT x)).toNat p) u:=by
 obtain⟨e,f,g⟩:=x8 a b c d hl;refine⟨e,?_⟩
 funext h u
 rw[Dy,f,g]
end
theorem mz{x:Tr}(b:Ok .tm x)(h2:x.n.op≠2)(a:x.n.op≠12):kidsT x=x.ks/\(x.ks.length:Int)=bw x.n:=by
 obtain⟨n,g⟩:=x;simp only[Tr.n,Tr.ks]at h2 a ⊢;obtain⟨c,d,h⟩:=b.kids;obtain⟨e,_,_,f⟩:=eS c;have:=nA e;rw[KY h2]at f;exact⟨by simp[kidsT,h2,a],Uo⟩
theorem Jl{x:Tr}{k:Nat}{y:Tr}(h:x.ks[k]?=some y):row x=(x.n::rows (x.ks.take k))++(row y++rows (x.ks.drop (k+1))):=by
 obtain⟨n,a⟩:=x;simp only[Tr.n,Tr.ks]at h ⊢;have:=DB h;simp[row,this]
def aP(x:Tr)(ys:List Tr):Except Int Tr:=if 4096<(row (ak' x ys)).length then .error 9 else .ok (ak' x ys)
def gR(B:ak)(cx:Ctx)(x:Tr):Except Int Tr:=
 let h:=headT x
 let l:=argsT x
 if h.n.op=5 then (bh (kidD h 1) (l.getD 0 (varX 0)) 0).bind λs=>aP s (l.drop 1)
 else if h.n.op=7 then (bh (kidD h 2) (kidD h 1) 0).bind λs=>aP s l
 else if h.n.op=1 then aP (aG ((fR cx h.n.a).2.getD (varX 0)) (h.n.a+1) 0) l
 else if h.n.op=8 then aP (tr (ax B h.n.a).body) l
 else if h.n.op=11 then aP (kidD h (2+(headT (kidD h 1)).n.b.toNat)) ((argsT (kidD h 1)).drop (fI B h.n.a)++l)
 else (lB h).bind λu=>aP u l
section
variable{B:ak}{cx:Ctx}{x:Tr}
theorem gv{Q:Nd ->Prop}{N:Int}(a:Qk Q){s:Tr}{l:List Tr}(b:Ft Q N s)(hl:∀y∈l,Ft Q N y){z:Tr}(h:aP s l= .ok z):Ft Q N z:=by
 unfold aP at h;split at h
 ·cases h
 ·injection h with h
  subst h;exact Ft.apply a b hl Uo
theorem DE(g:GoodB B){n:Nd}{s:Tr}{N:Int}(c:Ft (QB B) N s)(h:iD B n s=true):(headT s).n.op=10/\(headT s).n.a=n.a/\0<=(headT s).n.b/\(headT s).n.b<n.b/\fI B n.a<=(argsT s).length:=by
 simp only[iD,Bool.and_eq_true,decide_eq_true_eq]at h;obtain⟨d,e,f,i⟩:=h;have:=dn c.head.ok.pl;exact⟨d,e,Uo,f,Uo⟩
theorem Ft.kidN{Q:Nd ->Prop}{N:Int}(h:Ft Q N x)(k:Nat)(a:k<(kidsT x).length){b:Int}(hb:kb x.n k=b):Ft Q (N+b) (Go.Q.kidD x k):=by
 have:=(h.kidD a).2
 rwa [hb]at this
theorem uB(W:GoodB B)(L:CxOk B cx)(hN:cx.length<=90000)(f:Ft (QB B) (cx.length:Int) x)(hr:cD B cx x=true){z:Tr}(h:gR B cx x= .ok z):Ft (QB B) (cx.length:Int) z:=by
 have d:=qk B;have c:=f.head;unfold cD at hr;unfold gR at h;simp only at h hr;split at h
 ·rename_i g
  rw[KX g]at hr;have hr:=of_decide_eq_true hr;obtain⟨j,F⟩:=mz c.ok Uo Uo;have M:bw (headT x).n=2:=by simp[bw,g]
  have O:=c.kidN 1 (by rw[j];omega) (b:=1) (by simp[kb,bi,g]);obtain⟨a,Y,_⟩:=az (l:=argsT x) (k:=0) hr;have ea:(argsT x).getD 0 (varX 0)=a:=by simp[Y]
  rw[ea]at h;cases e:bh (kidD (headT x) 1) a 0 with
  |error Z=>rw[e]at h;cases h
  |ok s=>
   rw[e]at h;have t:=gQ d (N:=(cx.length:Int)) (v:=0) (O.mono Uo) (f.args a (JQ Y)) Uo Uo Uo Uo e;exact gv d (t.mono Uo) (λy q=>f.args y (List.mem_of_mem_drop q)) h
 rename_i g;rw[KY g]at hr;split at h
 ·rename_i I
  obtain⟨j,F⟩:=mz c.ok Uo Uo;have M:bw (headT x).n=3:=by simp[bw,I]
  have O:=c.kidN 2 (by rw[j];omega) (b:=1) (by simp[kb,bi,I]);have K:=c.kidN 1 (by rw[j];omega) (b:=0) (by simp[kb,bi,I]);cases e:bh (kidD (headT x) 2) (kidD (headT x) 1) 0 with
  |error Z=>rw[e]at h;cases h
  |ok s=>
   rw[e]at h;have t:=gQ d (N:=(cx.length:Int)) (v:=0) (O.mono Uo) (K.mono Uo) Uo Uo Uo Uo e;exact gv d (t.mono Uo) f.args h
 rename_i I;split at h
 ·rename_i D
  rw[KY Uo,KX D]at hr;cases hd:headT x with
  |mk n ks=>
   rw[hd]at h hr c D;simp only[Tr.n]at h hr D;obtain⟨R,S,_⟩:=c.var_lt D;have H:=nH R S;obtain⟨v,K⟩:=Option.isSome_iff_exists.1 hr;rw[K]at h;have T:=(L _ _ H).2 v K;have:=T.lift d Uo (b:=n.a+1) Uo Uo;exact gv d (this.mono Uo) f.args h
 rename_i D;split at h
 ·rename_i g4
  obtain⟨i,e,ty,bo,a0,hi,U,r⟩:=W.dfn c.node' g4;rw[U,r.body,iY r.fb.ok]at h;exact gv d ((r.fb.wk λm hm=>my (Nat.le_of_lt (aL hi)) hm).mono Uo) f.args h
 rename_i g4;rw[KY Uo,KY D]at hr;split at h
 ·rename_i E
  rw[KX E]at hr;obtain⟨j,F,a1,a2⟩:=gP c.ok E;have t:=c.kidN 1 (by rw[j];omega) (b:=0) (by simp[kb,bi,E]);obtain⟨f1,f2,f3,f4,f5⟩:=DE W t hr;have V:=c.kidN (2+(headT (kidD (headT x) 1)).n.b.toNat) (by rw[j];omega) (b:=0) (by simp[kb,bi,E]);refine gv d (V.mono Uo) (λy q=>?_) h;rcases List.mem_append.1 q with q|q
  ·exact(t.args y (List.mem_of_mem_drop q)).mono Uo
  ·exact f.args y q
 ·rename_i E
  rw[KY E]at hr;split at hr
  ·rename_i g6
   cases e:lB (headT x)with
   |error Z=>rw[e]at h;cases h
   |ok u=>
    rw[e]at h;exact gv d (x7 d c g6 Uo Uo e) f.args h
  ·cases hr
end
theorem ya{α:Type}:∀{l:List α},l.length=2 ->∃a b,l=[a,b]
 |[a,b],_=>⟨a,b,rfl⟩
theorem DF{α:Type}:∀{l:List α},l.length=3 ->∃a b c,l=[a,b,c]
 |[a,b,c],_=>⟨a,b,c,rfl⟩
theorem TmsV.vals{C:Mem}{ys:List Tr}{v:Value}(h:TmsV C ys v):∃a c vs,v= .slice a ys.length c/\ys.length<=c/\Sl rVal C a vs/\uj C vs ys:=by
 obtain⟨a,c,b,d,e⟩:=h;obtain⟨vs,f,g⟩:=IQ d;exact⟨a,c,vs,b,e,f,g⟩
def len(x:Tr):Int:=((row x).length:Int)
abbrev Rc:=Tr ->Int ->Nat ->Except Int (Tr×Nat)
def ja(rc:Rc)(x:Tr)(room:Int)(n:Nat):Except Int (Tr×Nat):=match cE x with
 |none=>.ok (x,n)
 |some p=>match rc p (room-len x+len p) n with
  | .error e=>.error e
  | .ok q=>.ok (bP x q.1,q.2)
def jb(B:ak)(cx:Ctx)(rc:Rc)(room:Int)(q:Tr×Nat):Except Int (Tr×Nat):=
 if cD B cx q.1=true then
  (if q.2=0 then .error 10 else match gR B cx q.1 with
   | .error e=>.error e
   | .ok z=>if room<len z then .error 9 else rc z room (q.2-1))
 else .ok q
def cz(B:ak)(cx:Ctx):Nat ->Rc
 |0,_,_,_=>.error 10
 |g+1,x,room,n=>match ja (cz B cx g) x room n with
  | .error e=>.error e
  | .ok q=>jb B cx (cz B cx g) room q
section
variable{B:ak}{cx:Ctx}
mutual
theorem pP(c:GoodB B)(a:CxOk B cx)(d:cx.length<=90000):∀(g:Nat) (x:Tr) (room:Int) (n:Nat) (z:Tr) (b:Nat),Ft (QB B) (cx.length:Int) x ->len x<=room ->room<=4096 ->cz B cx g x room n= .ok (z,b) ->Ft (QB B) (cx.length:Int) z/\len z<=room/\b<=n
 |0,x,room,n,z,b,_,_,_,h=>by cases h
 |g+1,x,room,n,z,b,t,hl,hr,h=>by
  have key:∀(q:Tr×Nat),Ft (QB B) (cx.length:Int) q.1 ->len q.1<=room ->q.2<=n ->jb B cx (cz B cx g) room q= .ok (z,b) ->Ft (QB B) (cx.length:Int) z/\len z<=room/\b<=n:=by
   intro q r f i h;unfold jb at h;split at h
   ·rename_i j
    split at h
    ·cases h
    ·cases l:gR B cx q.1 with
     |error e=>rw[l]at h;cases h
     |ok y=>
      rw[l]at h;simp only at h;split at h
      ·cases h
      ·rename_i E
       have:=pP c a d g y room (q.2-1) z b (uB c a d r j l) Uo hr h;exact⟨this.1,this.2.1,Uo⟩
   ·injection h with h
    subst h;exact⟨r,f,i⟩
  simp only[cz]at h;cases m:ja (cz B cx g) x room n with
  |error e=>rw[m]at h;cases h
  |ok q=>
   rw[m]at h;obtain⟨u,v,D⟩:=Jm c a d g t hl hr m;exact key q u v D h
theorem Jm(l:GoodB B)(c:CxOk B cx)(m:cx.length<=90000)(g:Nat){x:Tr}{room:Int}{n:Nat}{q:Tr×Nat}(b:Ft (QB B) (cx.length:Int) x)(hl:len x<=room)(hr:room<=4096)(h:ja (cz B cx g) x room n= .ok q):Ft (QB B) (cx.length:Int) q.1/\len q.1<=room/\q.2<=n:=by
 unfold ja at h;cases a:cE x with
 |none=>
  rw[a]at h;injection h with h
  subst h;exact⟨b,hl,KJ _⟩
 |some p=>
  rw[a]at h;simp only at h;obtain⟨d,r⟩:=kB b a;cases f:cz B cx g p (room-len x+len p) n with
  |error e=>rw[f]at h;cases h
  |ok t=>
   rw[f]at h;injection h with h
   subst h;obtain⟨q1,u⟩:=t;have i:len p<=room-len x+len p:=Uo
   obtain⟨v,D,y⟩:=pP l c m g p _ n q1 u d i (by unfold len at *;omega) f;have z:=rt (p:=q1) b a;have j:=(x9 (C:=λ_ _ _=>True) (qk B) b v a (by unfold len at *;omega)).1;exact⟨j,by unfold len at *;simp only;omega,y⟩
end
end
def ImN(lo:Nat)(X:List Nat)(w:World):Mem:=λb o v=>Im X w b o v/\New lo w b o v
end Go.Q
namespace Go.Wx
inductive PV where
 |int (k:IntKind) (n:Int)
 |bool (b:Bool)
 |sl (l:List (List PV))
 |agg (cs:List PV)
 |tup (l:List PV)
 |raw (v:Value)
  |unk
inductive RV (C:Mem):PV ->Value ->Prop
 |int (k:IntKind) (n:Int):RV C (.int k n) (.int k n)
 |bool (b:Bool):RV C (.bool b) (.bool b)
 |raw (v:Value):RV C (.raw v) v
 |unk (n:Int):RV C .unk (.int .i64 n)
 |nil (a:Option Addr) (c:Nat):RV C (.sl []) (.slice a 0 c)
 |sl (l:List (List PV)) (sz b o c:Nat) (f:Nat ->Nat ->Value) (hsz:∀x∈l,x.length=sz) (hc:l.length<=c)
   (h:∀(i j:Nat) x y,l[i]?=some x ->x[j]?=some y ->C b (o+i*sz+j) (f i j)) (hr:∀(i j:Nat) x y,l[i]?=some x ->x[j]?=some y ->RV C y (f i j)):RV C (.sl l) (.slice (some ⟨b,o,none⟩) l.length c)
 |agg (cs:List PV) (us:List Value) (hl:us.length=cs.length) (h:∀(i:Nat) y u,cs[i]?=some y ->us[i]?=some u ->RV C y u):RV C (.agg cs) (.agg us.toArray)
 |tup (cs:List PV) (us:List Value) (hl:us.length=cs.length) (h:∀(i:Nat) y u,cs[i]?=some y ->us[i]?=some u ->RV C y u):RV C (.tup cs) (.tuple us.toArray)
theorem RV.mono{C D:Mem}(hc:∀b o v,C b o v ->D b o v){x:PV}{v:Value}(h:RV C x v):RV D x v:=by
 induction h with
 |int k n=>exact .int k n
 |bool b=>exact .bool b
 |raw v=>exact .raw v
 |unk n=>exact .unk n
 |nil a c=>exact .nil a c
 |sl l t b o c f e g h E d=>exact .sl l t b o c f e g (λi j x y u z=>hc _ _ _ (h i j x y u z)) d
 |agg m q r h d=>exact .agg m q r d
 |tup m q r h d=>exact .tup m q r d
def PV.one:PV ->Bool
 | .int _ _=>true
 | .bool _=>true
 | .sl _=>true
 | .raw v=>v.oneCell'
 | .unk=>true
 |_=>false
theorem RV.one{C:Mem}{x:PV}{v:Value}(h:RV C x v)(d:x.one=true):v.oneCell'=true:=by
 cases h with
 |int k n=>rfl
 |bool b=>rfl
 |raw v=>exact d
 |unk n=>rfl
 |nil a c=>rfl
 |sl l q b o c f e g h r=>rfl
 |agg i j m h=>cases d
 |tup i j m h=>cases d
inductive AC where
 |p (x:PV)
 |row (k:Nat)
 |ptr (k o:Nat)
 |ep (cs:List PV) (o:Nat)
 |rp (k sz j o:Nat)
 |fn (f:FuncId) (ks:List Nat)
  |fr (u:Value) (f:FuncId) (ks:List Nat)
  |cl (l:List (List PV))
  |rv (u:Value) (k:Nat)
inductive AV where
 |c (x:AC)
 |agg (cs:List AC)
 |tp (cs:List AC)
inductive SE where
 |st (g:Nat) (T:Nat) (cs:List AC)
 |rw(e sz:Nat) (l:List (List PV))
 |fz (l:List (List PV))
 |ob (g:Nat) (Q:Obj ->Prop)
 |dead
structure AS where
 e:List (Nat×AV)
 m:List (Nat×SE)
def AC.refs:AC ->List Nat
 | .row k=>[k]
 | .ptr k _=>[k]
 | .rp k _ _ _=>[k]
 | .fn _ ks=>ks
 | .fr _ _ ks=>ks
 | .rv _ k=>[k]
 |_=>[]
def refsL(l:List AC):List Nat:=List.rec (motive:=λ_=>List Nat) [] (λx _ ih=>x.refs++ih) l
def AV.refs:AV ->List Nat
 | .c x=>x.refs
 | .agg cs=>refsL cs
 | .tp cs=>refsL cs
def SE.mut:SE ->Bool
 | .st _ _ _=>true
 | .rw _ _ _=>true
 | .ob _ _=>true
 |_=>false
def SE.alive:SE ->Bool
 | .dead=>false
 |_=>true
def SE.refs:SE ->List Nat
 | .st _ _ cs=>refsL cs
 |_=>[]
def Lv(A:AS)(l:List Nat):Prop:=∀k∈l,∃x,look A.m k=some x/\x.alive=true
def blk:Value ->Option Nat
 | .slice (some a) _ _=>some a.block
 | .pointer (some a)=>some a.block
 | .map (some b)=>some b
 |_=>none
theorem nJ{w:World}{base e sz n:Nat}{v:Value}{xs:List Value}(h:w.ownsRow base e sz v n xs):blk v=v.ownBlock:=by
 rcases h.2 with ⟨rfl,_⟩|⟨g,a,b,rfl,_⟩<;>rfl
def RC(C:Mem)(ρ:Nat ->Value):AC ->Value ->Prop
 | .p x,v=>RV C x v
 | .row k,v=>v=ρ k
 | .ptr k o,v=>∃b,ρ k= .pointer (some ⟨b,0,none⟩)/\v= .pointer (some ⟨b,o,none⟩)
 | .ep cs o,v=>∃(b o0:Nat) (f:Nat ->Value),v= .pointer (some ⟨b,o0+o,none⟩)/\∀(j:Nat) y,cs[j]?=some y ->C b (o0+j) (f j)/\RV C y (f j)
 | .rp k sz j o,v=>∃b n c,ρ k= .slice (some ⟨b,0,none⟩) n c/\v= .pointer (some ⟨b,j*sz+o,none⟩)
 | .fn f ks,v=>v= .func (.func f) #[] (ks.map ρ).toArray
 | .fr u f ks,v=>v=u/\v= .func (.func f) #[] (ks.map ρ).toArray
 | .rv u k,v=>v=u/\v=ρ k
 | .cl l,v=>RV C (.sl l) v/\∃a,v= .slice a l.length l.length
def RA(C:Mem)(ρ:Nat ->Value):AV ->Value ->Prop
 | .c x,v=>RC C ρ x v
 | .agg cs,v=>∃us:List Value,v= .agg us.toArray/\us.length=cs.length/\∀(i:Nat) c u,cs[i]?=some c ->us[i]?=some u ->RC C ρ c u
 | .tp cs,v=>∃us:List Value,v= .tuple us.toArray/\us.length=cs.length/\∀(i:Nat) c u,cs[i]?=some c ->us[i]?=some u ->RC C ρ c u
theorem RC.mono{C D:Mem}{ρ:Nat ->Value}(hc:∀b o v,C b o v ->D b o v){x:AC}{v:Value}(h:RC C ρ x v):RC D ρ x v:=by
 cases x with
 |p x=>exact RV.mono hc h
 |row k=>exact h
 |ptr k o=>exact h
 |ep i o=>
  obtain⟨b,d,f,e,a⟩:=h;exact⟨b,d,f,e,λj y c=>⟨hc _ _ _ (a j y c).1,(a j y c).2.mono hc⟩⟩
 |rp k m j o=>exact h
 |fn f g=>exact h
 |fr u f g=>exact h
 |rv u k=>exact h
 |cl l=>exact⟨h.1.mono hc,h.2⟩
theorem RC.eqv{C:Mem}{ρ ρ':Nat ->Value}{x:AC}{v:Value}(h:RC C ρ x v)(he:∀k∈x.refs,ρ' k=ρ k):RC C ρ' x v:=by
 cases x with
 |p x=>exact h
 |row k=>exact Eq.trans h (he k (by simp[AC.refs])).symm
 |ptr k o=>simp only[RC]at h ⊢;rw[he k (by simp[AC.refs])];exact h
 |ep c o=>exact h
 |rp k d j o=>simp only[RC]at h ⊢;rw[he k (by simp[AC.refs])];exact h
 |fn f a=>simp only[RC]at h ⊢;rw[h,List.map_congr_left (l:=a) λk b=>(he k b).symm]
 |fr u f a=>exact⟨h.1,h.2.trans (by rw[List.map_congr_left (l:=a) λk b=>(he k b).symm])⟩
 |rv u k=>exact⟨h.1,Eq.trans h.2 (he k (by simp[AC.refs])).symm⟩
 |cl l=>exact h
theorem jQ{l:List AC}{x:AC}(h:x∈l){k:Nat}(a:k∈x.refs):k∈refsL l:=by
 induction l with
 |nil=>cases h
 |cons y r b=>
  show k∈y.refs++refsL r;rcases List.mem_cons.1 h with rfl|h
  ·exact QW _ a
  ·exact QV _ (b h)
theorem RA.mono{C D:Mem}{ρ:Nat ->Value}(hc:∀b o v,C b o v ->D b o v){x:AV}{v:Value}(h:RA C ρ x v):RA D ρ x v:=by
 cases x with
 |c x=>exact RC.mono hc h
 |agg l=>
  obtain⟨a,d,e,f⟩:=h;exact⟨a,d,e,λi c u g j=>(f i c u g j).mono hc⟩
 |tp l=>
  obtain⟨a,d,e,f⟩:=h;exact⟨a,d,e,λi c u g j=>(f i c u g j).mono hc⟩
theorem RA.eqv{C:Mem}{ρ ρ':Nat ->Value}{x:AV}{v:Value}(h:RA C ρ x v)(he:∀k∈x.refs,ρ' k=ρ k):RA C ρ' x v:=by
 cases x with
 |c x=>exact RC.eqv h he
 |agg l=>
  obtain⟨b,d,e,f⟩:=h;exact⟨b,d,e,λi c u a g=>(f i c u a g).eqv λk j=>he k (jQ (JQ a) j)⟩
 |tp l=>
  obtain⟨b,d,e,f⟩:=h;exact⟨b,d,e,λi c u a g=>(f i c u a g).eqv λk j=>he k (jQ (JQ a) j)⟩
def Ori(lo:Nat)(X:List Nat)(g b:Nat):Prop:=g=0/\lo<=b \/∃i,g=i+1/\X[i]?=some b
theorem Ori.or{lo:Nat}{X:List Nat}{g b:Nat}(h:Ori lo X g b):lo<=b \/b∈X:=h.imp (·.2) λ⟨_,_,h⟩=>JQ h
def DG(lo:Nat)(X:List Nat)(w:World)(e sz:Nat)(v:Value)(n:Nat)(xs:List Value):Prop:=w.ownsRow 0 e sz v n xs/\∀g,blk v=some g ->lo<=g \/g∈X
theorem DH{w:World}{base a e sz n:Nat}{v:Value}{xs:List Value}(h:w.ownsRow base e sz v n xs)(hb:a<=base):w.ownsRow a e sz v n xs:=by
 obtain⟨f,b⟩:=h;refine⟨f,?_⟩;rcases b with b|⟨g,c,d,i,j,l⟩
 ·exact .inl b
 ·exact .inr ⟨g,c,d,i,KQ hb j,l⟩
theorem yb{lo base:Nat}{X:List Nat}{w:World}{e sz n:Nat}{v:Value}{xs:List Value}(h:w.ownsRow base e sz v n xs)(hb:lo<=base):DG lo X w e sz v n xs:=⟨DH h (KV _),λg a=>by
 rcases h.2 with ⟨rfl,_⟩|⟨b,c,d,rfl,f,_⟩
 ·cases a
 ·obtain rfl:b=g:=JB a
  exact .inl (KQ hb f)⟩
def RE(lo:Nat)(X:List Nat)(A:AS)(C:Mem)(ρ:Nat ->Value)(w:World)(k:Nat):SE ->Prop
 | .st g T cs=>∃(b:Nat) (us:List Value),ρ k= .pointer (some ⟨b,0,none⟩)/\Bk w.heap b us T/\Ori lo X g b/\us.length=cs.length/\∀(i:Nat) c u,cs[i]?=some c ->us[i]?=some u ->u.oneCell'=true/\(Lv A c.refs ->RC C ρ c u)
 | .rw e sz l=>∃css:List (List Value),DG lo X w e sz (ρ k) l.length css.flatten/\(∀x∈l,x.length=sz)/\css.length=l.length/\∀(i:Nat) (us:List Value) x,css[i]?=some us ->l[i]?=some x ->us.length=sz/\∀(j:Nat) y u,x[j]?=some y ->us[j]?=some u ->u.oneCell'=true/\RV C y u
 | .fz l=>RV C (.sl l) (ρ k)
 | .ob g Q=>∃b o,ρ k= .map (some b)/\w.heap[b]?=some o/\Q o/\Ori lo X g b
 | .dead=>True
def Hb(C:Mem)(b:Nat):Prop:=∃o v,C b o v
structure Rp(w0:World)(X:List Nat)(C0:Mem)(A:AS)(s:St)(w:World)(C:Mem)(ρ:Nat ->Value):Prop where
 slot:∀t a,look A.e t=some a ->Lv A a.refs ->∃v,get s.e t=some v/\RA C ρ a v
 ent:∀k x,look A.m k=some x ->RE w0.heap.size X A C ρ w k x
 sep:∀j k x y g,j≠k ->look A.m j=some x ->x.mut=true ->look A.m k=some y ->y.mut=true ->blk (ρ j)=some g ->blk (ρ k)≠some g
 off:∀k x g b o v,look A.m k=some x ->x.mut=true ->blk (ρ k)=some g ->C b o v ->b≠g
 sub:Sub C w
 c0:∀b o v,C0 b o v ->C b o v
 cn:∀b o v,C b o v ->Hb C0 b \/w0.heap.size<=b \/b∈X
 kp:Kp X w0 w
def Rep(w0:World)(X:List Nat)(C0:Mem)(A:AS)(s:St)(w:World):Prop:=∃C ρ,Rp w0 X C0 A s w C ρ
theorem lC{α:Type}(l r:List (Nat×α))(t:Nat):look (l++r) t=match look l t with
  |some x=>some x
  |none=>look r t:=by
 induction l with
 |nil=>rfl
 |cons p l a=>
  obtain⟨k,v⟩:=p;rw[List.cons_append,cG,cG];cases Nat.beq k t
  ·exact a
  ·rfl
theorem look_app_some{α:Type}{l r:List (Nat×α)}{t:Nat}{x:α}(h:look (l++r) t=some x):look l t=some x \/(look l t=none/\look r t=some x):=by
 rw[lC]at h;cases a:look l t with
 |some y=>rw[a]at h;exact .inl h
 |none=>rw[a]at h;exact .inr ⟨rfl,h⟩
theorem Jn{α:Type}{l r:List (Nat×α)}{t:Nat}{x:α}(h:look l t=some x):look (l++r) t=some x:=by rw[lC,h]
theorem rx{α:Type}{l r:List (Nat×α)}{t:Nat}(h:look l t=none):look (l++r) t=look r t:=by rw[lC,h]
def AS.upd(A:AS)(wr:List (Nat×AV))(wm:List (Nat×SE)):AS:=⟨wr++A.e,wm++A.m⟩
structure NoRef(k:Nat)(A:AS):Prop where
 e:∀t a,look A.e t=some a ->k ∉ a.refs
 m:∀j x,look A.m j=some x ->k ∉ x.refs
 un:∀x,look A.m k=some x ->x.mut=false
section
variable{w0:World}{X:List Nat}{C0:Mem}{A:AS}{s s':St}{w w':World}{C C':Mem}{ρ ρ':Nat ->Value}
theorem Lv.up{wr:List (Nat×AV)}{wm:List (Nat×SE)}{F:List Nat}(hl:∀k x,look wm k=some x ->x.alive=true ->k∈F \/∃y,look A.m k=some y/\y.alive=true){l:List Nat}(e:∀k∈F,k ∉ l)(h:Lv (A.upd wr wm) l):Lv A l:=λk c=>by
 obtain⟨x,f,d⟩:=h k c;rcases look_app_some f with a|⟨_,a⟩
 ·rcases hl k x a d with b|b
  ·exact absurd c (e k b)
  ·exact b
 ·exact⟨x,a,d⟩
theorem Rp.blk_lt(h:Rp w0 X C0 A s w C ρ){k g:Nat}{x:SE}(q:look A.m k=some x)(hm:x.mut=true)(a:blk (ρ k)=some g):g<w.heap.size/\(w0.heap.size<=g \/g∈X):=by
 have f:=h.ent k x q;cases x with
 |st i T y=>
  obtain⟨b,z,e,m,c,_⟩:=f;rw[e]at a;obtain rfl:b=g:=JB a;exact⟨m.lt,c.or⟩
 |rw e D l=>
  obtain⟨r,⟨d,j⟩,_⟩:=f;refine⟨?_,j g a⟩;rw[nJ d]at a;rcases d.2 with ⟨e,_⟩|⟨i,t,u,e,m,v,_⟩
  ·rw[e]at a;cases a
  ·rw[e]at a
   obtain rfl:i=g:=JB a;exact(Array.getElem?_eq_some_iff.1 v).1
 |ob i Q=>
  obtain⟨b,o,e,d,_,c⟩:=f;rw[e]at a;obtain rfl:b=g:=JB a;exact⟨(Array.getElem?_eq_some_iff.1 d).1,c.or⟩
 |fz l=>cases hm
 |dead=>cases hm
theorem Rp.step(h:Rp w0 X C0 A s w C ρ){wr:List (Nat×AV)}{wm:List (Nat×SE)}(F:List Nat)(M:∀k,k ∉ F ->ρ' k=ρ k)(hF:∀k∈F,NoRef k A)(a2:∀k∈F,∃x,look wm k=some x)
  (hl:∀k x,look wm k=some x ->x.alive=true ->k∈F \/∃y,look A.m k=some y/\y.alive=true)
  {Z:List Nat} (kp:Kp Z w w') (hZ:∀z∈Z,∃k x y,look wm k=some x/\look A.m k=some y/\y.mut=true/\blk (ρ k)=some z)
  (hC:∀b o v,C b o v ->C' b o v) (hS:Sub C' w') (hn:∀b o v,C' b o v ->Hb C b \/((w0.heap.size<=b \/b∈X)/\∀k x,look wm k=none ->look A.m k=some x ->x.mut=true ->blk (ρ k)≠some b))
  (he:∀k x,look wm k=some x ->RE w0.heap.size X (A.upd wr wm) C' ρ' w' k x)
  (hs:∀k x g,look wm k=some x ->x.mut=true ->blk (ρ' k)=some g ->(∀j y,j≠k ->look (A.upd wr wm).m j=some y ->y.mut=true ->blk (ρ' j)≠some g)/\∀b o v,C' b o v ->b≠g)
  (ht:∀t a,look wr t=some a ->Lv (A.upd wr wm) a.refs ->∃v,get s'.e t=some v/\RA C' ρ' a v) (a3:∀t,look wr t=none ->get s'.e t=get s.e t):Rp w0 X C0 (A.upd wr wm) s' w' C' ρ':=by
 have d:∀k,look wm k=none ->ρ' k=ρ k:=λk E=>M k λhf=>by
  obtain⟨x,hx⟩:=a2 k hf;rw[E]at hx;cases hx
 refine⟨λt a a4 hv=>?_,λk x E=>?_,λj k x y g H hj O E R r L=>?_,λk x g b o v E S r K=>?_,hS,λb o v K=>hC _ _ _ (h.c0 _ _ _ K),λb o v K=>?_,?_⟩
 ·rcases look_app_some a4 with f|⟨D,f⟩
  ·exact ht t a f hv
  ·have I:∀k∈F,k ∉ a.refs:=λk E=>(hF k E).e t a f
   obtain⟨v,a5,a6⟩:=h.slot t a f (hv.up hl I);exact⟨v,by rw[a3 t D];exact a5,(a6.mono hC).eqv λk E=>M k λhf=>I k hf E⟩
 ·rcases look_app_some E with f|⟨D,f⟩
  ·exact he k x f
  ·have hr:=h.ent k x f
   have U:∀g,x.mut=true ->blk (ρ k)=some g ->g ∉ Z:=λg S r hz=>by
    obtain⟨k',x',y,q,V,W,h5⟩:=hZ g hz;have H:k'≠k:=λe=>by rw[e,D]at q;cases q
    exact h.sep k' k y x g H V W f S h5 r
   cases x with
   |st g' T cs=>
    obtain⟨b,us,e,hb,Y,a0,a1⟩:=hr;refine⟨b,us,by rw[d k D];exact e,hb.kp kp (U b rfl (by rw[e];rfl)),Y,a0,λi c u K hu=>⟨(a1 i c u K hu).1,λhv=>?_⟩⟩;have I:∀k∈F,k ∉ c.refs:=λj hj S=>(hF j hj).m k _ f (jQ (JQ K) S);exact(((a1 i c u K hu).2 (hv.up hl I)).mono hC).eqv λj hj=>M j λhf=>I j hf hj
   |rw e sz l=>
    obtain⟨a7,⟨ho,a8⟩,q,V,W⟩:=hr;refine⟨a7,⟨?_,by rw[d k D];exact a8⟩,q,V,λi us x hi hx=>⟨(W i us x hi hx).1,λj y u hy hu=>⟨((W i us x hi hx).2 j y u hy hu).1,((W i us x hi hx).2 j y u hy hu).2.mono hC⟩⟩⟩;rw[d k D];exact Cj ho kp λg r=>U g rfl (by rw[nJ ho];exact r)
   |fz l=>
    unfold RE at hr ⊢;rw[d k D];exact hr.mono hC
   |ob g' Q=>
    obtain⟨b,o,e,ho,hq,Y⟩:=hr;exact⟨b,o,by rw[d k D];exact e,by rw[kp.block b (Array.getElem?_eq_some_iff.1 ho).1 (U b rfl (by rw[e];rfl))];exact ho,hq,Y⟩
   |dead=>exact VQ
 ·rcases look_app_some hj with f|⟨D,f⟩
  ·exact(hs j x g f O r).1 k y (Ne.symm H) E R L
  ·rcases look_app_some E with q|⟨V,q⟩
   ·exact(hs k y g q R L).1 j x H hj O r
   ·rw[d j D]at r
    rw[d k V]at L;exact h.sep j k x y g H f O q R r L
 ·rcases look_app_some E with f|⟨D,f⟩
  ·exact(hs k x g f S r).2 b o v K
  ·rw[d k D]at r
   rcases hn b o v K with ⟨o2,v2,q⟩|⟨_,q⟩
   ·exact h.off k x g b o2 v2 f S r q
   ·exact λe=>q k x D f S (by rw[e];exact r)
 ·rcases hn b o v K with ⟨o2,v2,q⟩|⟨q,_⟩
  ·exact h.cn b o2 v2 q
  ·exact .inr q
 ·refine h.kp.trans kp λz hz a9=>?_
  obtain⟨k',x',y,q,V,W,h5⟩:=hZ z hz;rcases(h.blk_lt V W h5).2 with h6|h6
  ·omega
  ·exact h6
theorem Rp.slots(h:Rp w0 X C0 A s w C ρ){wr:List (Nat×AV)}(f:∀t a,look wr t=some a ->Lv A a.refs ->∃v,get s'.e t=some v/\RA C ρ a v)(b:∀t,look wr t=none ->get s'.e t=get s.e t):Rp w0 X C0 (A.upd wr []) s' w C ρ:=
 ⟨λt a c e=>by
  rcases look_app_some c with d|⟨g,d⟩
  ·exact f t a d e
  ·rw[b t g]
   exact h.slot t a d e,h.ent,h.sep,h.off,h.sub,h.c0,h.cn,h.kp⟩
theorem Rp.grow(h:Rp w0 X C0 A s w C ρ)(kp:Kp [] w w')(d:Sub C' w')(e:∀b o v,C b o v ->C' b o v)(f:∀b o v,C' b o v ->Hb C b \/w.heap.size<=b):Rp w0 X C0 A s w' C' ρ:=by
 have:=h.step (wr:=[]) (wm:=[]) (ρ':=ρ) (s':=s) [] (λ_ _=>rfl) (λk c=>by cases c) (λk c=>by cases c) (λk x c=>by cases c) kp (λz i=>by cases i) e d
  (λb o v j=>(f b o v j).imp id λl=>⟨.inl (KQ h.kp.size l),λk x _ c m q=>by
   have:=(h.blk_lt c m q).1;omega⟩) (λk x c=>by cases c) (λk x g c=>by cases c) (λt a c=>by cases c) (λ_ _=>rfl)
 exact this
theorem Rp.dr(h:Rp w0 X C0 A s w C ρ)(m:Nat):Rp w0 X C0 A s {w with drawn:=m} C ρ:=⟨h.slot,h.ent,h.sep,h.off,h.sub,h.c0,h.cn,h.kp.dr m⟩
end
def cst:Value ->AV
 | .int k m=>.c (.p (.int k m))
 | .bool b=>.c (.p (.bool b))
 |v=>.c (.p (.raw v))
def ao(A:AS):Operand ->Option AV
 | .tmp t=>look A.e t
 | .const v=>some (cst v)
 | .func f=>some (.c (.p (.raw (.func (.func f) #[] #[]))))
 | .global _=>none
def gS(A:AS)(l:List Nat):Bool:=
 List.rec (motive:=λ_=>Bool) true (λk _ ih=>match look A.m k with
  |some x=>match x.alive with
   |true=>ih
   |false=>false
  |none=>false) l
theorem nK{A:AS}:∀{l:List Nat},gS A l=true ->Lv A l
 |[],_=>λk a=>by cases a
 |j::r,h=>by
  have h:(match look A.m j with
   |some x=>match x.alive with
    |true=>gS A r
    |false=>false
   |none=>false)=true:=h
  split at h
  ·rename_i x b
   split at h
   ·rename_i c
    intro k a;rcases List.mem_cons.1 a with rfl|a
    ·exact⟨x,b,c⟩
    ·exact nK h k a
   ·cases h
  ·cases h
def rd(A:AS)(x:Operand)(k:AV ->Prop):Prop:=match ao A x with
 |some a=>match gS A a.refs with
  |true=>k a
  |false=>False
 |none=>False
theorem bT{A:AS}{x:Operand}{k:AV ->Prop}(h:rd A x k):∃a,ao A x=some a/\Lv A a.refs/\k a:=by
 unfold rd at h;split at h
 ·rename_i a b
  split at h
  ·rename_i c
   exact⟨a,b,nK c,h⟩
  ·exact h.elim
 ·exact h.elim
def uC(A:AS)(l:List Operand):(List AV ->Prop) ->Prop:=
 List.rec (motive:=λ_=>(List AV ->Prop) ->Prop) (λk=>k []) (λx _ ih k=>rd A x λa=>ih λaes=>k (a::aes)) l
def yc(A:AS)(l:List (Nat×Operand)):(List (Nat×AV) ->Prop) ->Prop:=
 List.rec (motive:=λ_=>(List (Nat×AV) ->Prop) ->Prop) (λk=>k []) (λp _ ih k=>rd A p.2 λa=>ih λaes=>k ((p.1,a)::aes)) l
def av':Op ->List Operand
 | .move x=>[x]
 | .assign x=>[x]
 | .pick c a b=>[c,a,b]
 | .box _ x=>[x]
 | .build _ ps=>ps.toList.map (·.2)
 | .buildSlice _ _ ps=>ps.toList.map (·.2)
 | .load _ x=>[x]
 | .store _ x y=>[x,y]
 | .binOp _ _ x y _=>[x,y]
 | .unOp _ _ x=>[x]
 | .convert _ _ x=>[x]
 | .makeSlice _ l c=>[l,c]
 | .slice _ x lo hi _=>x::(lo.toList++hi.toList)
 | .fieldAddr _ x _=>[x]
 | .field _ x _=>[x]
 | .indexAddr _ x i=>[x,i]
 | .extract x _=>[x]
 | .nilCheck x=>[x]
 | .makeInterface _ x=>[x]
 | .panic x=>[x]
 | .call c=>c.args.toList++(match c.callee with
  | .value x=>[x]
  |_=>[])
 | .makeFunc _ _ cs=>cs.toList
 | .makeMap _ _=>[]
 | .mapUpdate _ m i x=>[m,i,x]
 | .lookup _ x i _=>[x,i]
 |_=>[]
def refsOf(A:AS):List Operand ->List Nat
 |[]=>[]
 |x::r=>(match ao A x with
  |some a=>a.refs
  |none=>[])++refsOf A r
theorem oQ{A:AS}:∀{l:List Operand} {x:Operand} {a:AV},x∈l ->ao A x=some a ->∀k∈a.refs,k∈refsOf A l
 |y::r,x,a,h,ha,k,b=>by
  simp only[refsOf];rcases List.mem_cons.1 h with rfl|h
  ·rw[ha]
   exact QW _ b
  ·exact QV _ (oQ h ha k b)
def seR(A:AS)(l:List Nat):List Nat:=List.rec (motive:=λ_=>List Nat) [] (λk _ ih=>(match look A.m k with
 |some x=>x.refs
 |none=>[])++ih) l
def deepK(A:AS)(l:List Nat):List Nat:=l++(seR A l++(seR A (seR A l)++seR A (seR A (seR A l))))
structure Agr(mv:Nat)(A A':AS)(l:List Operand):Prop where
 e:∀x∈l,ao A' x=ao A x
 m:Nat.beq mv 1=false ->∀x∈l,∀a,ao A x=some a ->∀k∈a.refs,look A'.m k=look A.m k
 d:mv=2 ->∀k∈deepK A (refsOf A l),look A'.m k=look A.m k
 lv:∀x∈l,∀a,ao A x=some a ->Lv A a.refs ->Lv A' a.refs
theorem Agr.rfl'(A:AS)(l:List Operand):Agr 0 A A l:=⟨λ_ _=>rfl,λ_ _ _ _ _ _ _=>rfl,λ_ _ _=>rfl,λ_ _ _ _ h=>h⟩
def ja':Op ->Nat
 | .move _=>1
 | .assign _=>1
 | .makeFunc _ _ _=>1
 | .call c=>match c.callee with
  | .value _=>2
  |_=>0
 |_=>0
theorem pQ{o:Oper}{c:Call}{b:Builtin}(a:o.op= .call c)(hc:c.callee= .builtin b):Nat.beq (ja' o.op) 1=false:=by
 rw[a];simp only[ja',hc]
 rfl
theorem Jo{o:Oper}{c:Call}{f:Operand}(a:o.op= .call c)(hc:c.callee= .value f):Nat.beq (ja' o.op) 1=false:=by
 rw[a];simp only[ja',hc]
 rfl
section
variable{w0:World}{X:List Nat}{C0:Mem}{A A':AS}{s s':St}{w w':World}{C C':Mem}{ρ ρ':Nat ->Value}
theorem RV.cst(C:Mem)(ρ:Nat ->Value)(v:Value):RA C ρ (cst v) v:=by
 cases v<;>first|exact RV.int _ _|exact RV.bool _|exact RV.raw _
theorem Rp.op(h:Rp w0 X C0 A' s w C ρ){mv:Nat}{l:List Operand}(d:Agr mv A A' l){x:Operand}(e:x∈l){a:AV}(ha:ao A x=some a)(hl:Lv A a.refs):Lv A' a.refs/\∃v,ev s.e x=some v/\RA C ρ a v:=by
 have b:Lv A' a.refs:=d.lv x e a ha hl;refine⟨b,?_⟩;have c:=ha;rw[<- d.e x e]at c;cases x with
 |tmp t=>exact h.slot t a c b
 |const v=>
  obtain rfl:=JB ha;exact⟨v,rfl,RV.cst C ρ v⟩
 |func f=>
  obtain rfl:=JB ha;exact⟨_,rfl,RV.raw _⟩
 |global g=>cases ha
end
def fin(n:Nat)(dst:Option Nat)(a:AV)(k:List (Nat×AV) ->Prop):Prop:=match dst with
 |none=>k []
 |some d=>match Nat.ble (d+1) n with
  |true=>k [(d,a)]
  |false=>False
theorem kC{n:Nat}{dst:Option Nat}{a:AV}{k:List (Nat×AV) ->Prop}(h:fin n dst a k):∃wr,k wr/\(∀t b,look wr t=some b ->b=a)/\∀(s:St) (v:Value) (Q:St ->Prop),(∀s',(∀t b,look wr t=some b ->get s'.e t=some v) ->(∀t,look wr t=none ->get s'.e t=get s.e t) ->s'.d=s.d ->Q s') ->put n s dst v Q:=by
 unfold fin at h;split at h
 ·exact⟨[],h,(λt b c=>by cases c),λs v Q g=>g s (λt b c=>by cases c) (λ_ _=>rfl) rfl⟩
 ·rename_i d
  split at h
  ·rename_i j
   refine⟨[(d,a)],h,λt b c=>?_,λs v Q g=>?_⟩
   ·rw[cG]at c
    cases f:Nat.beq d t with
    |true=>rw[f]at c;exact(JB c).symm
    |false=>rw[f]at c;cases c
   ·unfold put
    obtain⟨e,l⟩:=s;simp only[j];refine g _ (λt b c=>?_) (λt i=>?_) rfl
    ·rw[cG]at c
     rw[eQ];cases f:Nat.beq d t with
     |true=>rfl
     |false=>rw[f]at c;cases c
    ·rw[cG]at i
     rw[eQ];cases f:Nat.beq d t with
     |true=>rw[f]at i;cases i
     |false=>rfl
  ·exact h.elim
def Tri(w0:World)(X:List Nat)(C0:Mem)(P:Program)(τ:Tau)(n:Nat)(o:Oper)(A:AS)(wr:List (Nat×AV))(wm:List (Nat×SE))(F:List Nat):Prop:=
 ∀A' s w (K:St ->World ->Prop) (kp:List PanicEntry ->St ->World ->Prop),Agr (ja' o.op) A A' (av' o.op) ->(∀k∈F,NoRef k A') ->Rep w0 X C0 A' s w ->(∀s' w',Rep w0 X C0 (A'.upd wr wm) s' w' ->s'.d=s.d ->K s' w') ->aW P τ n o s w K kp
section
variable{w0:World}{X:List Nat}{C0:Mem}{P:Program}{τ:Tau}{n:Nat}{o:Oper}{A:AS}
theorem dz{a:AV}{k:List (Nat×AV) ->List (Nat×SE) ->List Nat ->Prop}(h:fin n o.dst a λwr=>k wr [] [])
  (H:∀A' s w C ρ,Agr (ja' o.op) A A' (av' o.op) ->Rp w0 X C0 A' s w C ρ ->∃v,(Lv A' a.refs ->RA C ρ a v)/\∀(K:St ->World ->Prop) (kp:List PanicEntry ->St ->World ->Prop),(put n s o.dst v λs'=>K s' w) ->aW P τ n o s w K kp):
  ∃wr wm F,k wr wm F/\Tri w0 X C0 P τ n o A wr wm F:=by
 obtain⟨wr,f,g,i⟩:=kC h;refine⟨wr,[],[],f,λA' s w K kp j _ c l=>?_⟩;obtain⟨C,ρ,c⟩:=c;obtain⟨v,m,d⟩:=H A' s w C ρ j c;refine d K kp (i s v _ λs' q r u=>l s' w ⟨C,ρ,c.slots (λt b e y=>⟨v,q t b e,?_⟩) r⟩ u);have:=g t b e;subst this;exact m y
end
structure nL(j:IntKind)(r:Int)(k:Int ->Prop):Prop where
 go:∃x,j.wrap r=x/\k x
structure kD(l:List (List PV))(sz:Nat)(i:Int)(k:Nat ->List PV ->Prop):Prop where
 go:∃(j:Nat) (x:List PV),i=(j:Int)/\l[j]?=some x/\x.length=sz/\k j x
structure pR(l:List (List PV))(i:Nat)(k:List PV ->Prop):Prop where
 go:∃x,l[i]?=some x/\k x
structure jR(p:Prop) [Decidable p](k:Bool ->Prop):Prop where
 go:k (decide p)
structure yd(m m':Int)(k:Prop):Prop where
 go:0<=m/\m<=9223372036854775807/\0<m'/\k
structure nM(P:Program)(op:BinOp)(T:TypeId)(x y:Operand)(a b:AV)(k:PV ->Prop):Prop where
 go:
 ∃r,(∀(C:Mem) (ρ:Nat ->Value) va vb (w:World),RA C ρ a va ->RA C ρ b vb ->∃v,RV C r v/\(do eqGuard op T x y va vb;binOp op T va vb:Sem Value).run P w= .ok v w)/\k r
theorem gw{r:Int}{k:Int ->Prop}(h1:-9223372036854775808<=r)(h2:r<=9223372036854775807)(a:k r):nL .i64 r k:=by
 exact⟨⟨r,by rw[IntKind.wrap_i64];omega,a⟩⟩
theorem oR{l:List (List PV)}{sz:Nat}{i:Int}{k:Nat ->List PV ->Prop}(j:Nat)(x:List PV)(hi:i=(j:Int))(a:l[j]?=some x)(hsz:x.length=sz)(b:k j x):kD l sz i k:=by
 exact⟨⟨j,x,hi,a,hsz,b⟩⟩
theorem ae{p:Prop} [Decidable p]{k:Bool ->Prop}(h1:p ->k true)(h2:¬ p ->k false):jR p k:=by
 refine⟨?_⟩
 by_cases h:p
 ·rw[KU h];exact h1 h
 ·rw[KH h];exact h2 h
theorem ye{p:Prop} [Decidable p]{k:Bool ->Prop}(h:p)(a:k true):jR p k:=ae (λ_=>a) λb=>absurd h b
theorem pS{p:Prop} [Decidable p]{k:Bool ->Prop}(h:¬ p)(a:k false):jR p k:=ae (λb=>absurd b h) λ_=>a
theorem ry{p:Prop} [Decidable p]{k:Bool ->Prop}(a:k (decide p)):jR p k:=by
 exact⟨a⟩
theorem pT{m m':Int}{k:Prop}(h1:0<=m)(h2:m<=9223372036854775807)(h3:0<m')(a:k):yd m m' k:=by
 exact⟨⟨h1,h2,h3,a⟩⟩
theorem yf{l:List (List PV)}{i:Nat}{k:List PV ->Prop}(x:List PV)(a:l[i]?=some x)(b:k x):pR l i k:=by
 exact⟨⟨x,a,b⟩⟩
abbrev Kk:=List (Nat×AV) ->List (Nat×SE) ->List Nat ->Prop
section
variable(P:Program)(τ:Tau)(n:Nat)(o:Oper)(A:AS)(k:Kk)
def out(a:AV):Prop:=fin n o.dst a λwr=>k wr [] []
def uD(T:Nat)(cs:List PV)(off:Nat):Prop:=match look τ.tab T with
 |some (_,z)=>match Nat.ble (off+z.length) cs.length with
  |true=>out n o k (.c (.p (.agg ((cs.drop off).take z.length))))
  |false=>False
 |none=>match look τ.ones T with
  |some _=>match eZ cs off with
   |some y=>out n o k (.c (.p y))
   |none=>False
  |none=>False
def yg(T:Nat)(a:AV):Prop:=match a with
 | .c (.ptr j off)=>match look A.m j with
  |some (.st _ _ cs)=>match look τ.tab T with
   |some (_,z)=>match Nat.ble (off+z.length) cs.length with
    |true=>out n o k (.agg ((cs.drop off).take z.length))
    |false=>False
   |none=>match look τ.ones T with
    |some _=>match eZ cs off with
     |some c=>out n o k (.c c)
     |none=>False
    |none=>False
  |_=>False
 | .c (.ep cs off)=>uD τ n o k T cs off
 | .c (.rp j sz i off)=>match look A.m j with
  |some (.rw _ sz' l)=>match Nat.beq sz' sz with
   |true=>pR l i λx=>uD τ n o k T x off
   |false=>False
  |_=>False
 |_=>False
def yh(T:Nat)(a b:AV):Prop:=match look τ.slcs T with
 |none=>False
 |some (_,sz,_)=>match b with
  | .c (.p (.int _ m))=>match a with
   | .c (.p (.sl l))=>kD l sz m λ_ x=>out n o k (.c (.ep x 0))
   | .c (.row j)=>match look A.m j with
    |some (.rw _ sz' l)=>match Nat.beq sz' sz with
     |true=>kD l sz m λi _=>out n o k (.c (.rp j sz i 0))
     |false=>False
    |some (.fz l)=>kD l sz m λ_ x=>out n o k (.c (.ep x 0))
    |_=>False
   |_=>False
  |_=>False
def yi(T f:Nat)(a:AV):Prop:=match look τ.tab T with
 |none=>False
 |some (fs,_)=>match eZ fs f with
  |none=>False
  |some (of,_,_)=>match a with
   | .c (.ptr j off)=>out n o k (.c (.ptr j (off+of)))
   | .c (.ep cs off)=>out n o k (.c (.ep cs (off+of)))
   | .c (.rp j sz i off)=>out n o k (.c (.rp j sz i (off+of)))
   |_=>False
def yj(T f:Nat)(a:AV):Prop:=match look τ.tab T with
 |none=>False
 |some (fs,_)=>match eZ fs f with
  |none=>False
  |some (of,sz,true)=>match a with
   | .agg cs=>out n o k (.agg ((cs.drop of).take sz))
   | .c (.p (.agg cs))=>out n o k (.c (.p (.agg ((cs.drop of).take sz))))
   |_=>False
  |some (of,_,false)=>match a with
   | .agg cs=>match eZ cs of with
    |some c=>out n o k (.c c)
    |none=>False
   | .c (.p (.agg cs))=>match eZ cs of with
    |some y=>out n o k (.c (.p y))
    |none=>False
   |_=>False
def yk(i:Nat)(a:AV):Prop:=match a with
 | .tp cs=>match eZ cs i with
  |some c=>out n o k (.c c)
  |none=>False
 | .c (.p (.tup l))=>match eZ l i with
  |some y=>out n o k (.c (.p y))
  |none=>False
 |_=>False
def AV.isAgg:AV ->Bool
 | .agg _=>true
 | .c (.p (.agg _))=>true
 |_=>false
def AV.isCmp:AV ->Bool
 | .agg _=>true
 | .c (.p (.agg _))=>true
 | .c (.p (.sl _))=>true
 | .c (.p (.raw (.slice _ _ _)))=>true
 |_=>false
def yl(op:BinOp)(T:Nat)(x y:Operand)(a b:AV):Prop:=match a,b with
 | .c (.p (.int j m)),.c (.p (.int j' m'))=>match mC' j j' with
  |false=>False
  |true=>match op with
   | .add=>nL j (m+m') λr=>out n o k (.c (.p (.int j r)))
   | .sub=>nL j (m-m') λr=>out n o k (.c (.p (.int j r)))
   | .mul=>nL j (m*m') λr=>out n o k (.c (.p (.int j r)))
   | .eql=>jR (m=m') λc=>out n o k (.c (.p (.bool c)))
   | .neq=>jR (m≠m') λc=>out n o k (.c (.p (.bool c)))
   | .lss=>jR (m<m') λc=>out n o k (.c (.p (.bool c)))
   | .leq=>jR (m<=m') λc=>out n o k (.c (.p (.bool c)))
   | .gtr=>jR (m'<m) λc=>out n o k (.c (.p (.bool c)))
   | .geq=>jR (m'<=m) λc=>out n o k (.c (.p (.bool c)))
   | .quo=>match j with
    | .i64=>yd m m' (out n o k (.c (.p (.int .i64 (m/m')))))
    |_=>False
   | .rem=>match j with
    | .i64=>yd m m' (out n o k (.c (.p (.int .i64 (m%m')))))
    |_=>False
   |_=>False
 | .c (.p (.bool m)),.c (.p (.bool m'))=>match look τ.ones T with
  |some 1=>match op with
   | .eql=>out n o k (.c (.p (.bool (m==m'))))
   | .neq=>out n o k (.c (.p (.bool (m !=m'))))
   |_=>False
  |_=>False
 |a,b=>match a.isCmp,b.isCmp with
  |true,true=>nM P op T x y a b λr=>out n o k (.c (.p r))
  |_,_=>False
def ym(op:UnOp)(a:AV):Prop:=match op,a with
 | .not,.c (.p (.bool b))=>out n o k (.c (.p (.bool (!b))))
 | .neg,.c (.p (.int j m))=>nL j (0-m) λr=>out n o k (.c (.p (.int j r)))
 |_,_=>False
def yn(src dst:Nat)(a:AV):Prop:=match a,look τ.ones src,look τ.ones dst with
 | .c (.p (.int _ m)),some _,some c=>match kJ' c with
  |some j=>nL j m λr=>out n o k (.c (.p (.int j r)))
  |none=>False
 |_,_,_=>False
def yp(T:Nat)(a:AV):Prop:=match look τ.slcs T with
 |none=>False
 |some _=>match a with
  | .c (.p (.sl l))=>out n o k (.c (.p (.int .i64 l.length)))
  | .c (.p (.raw (.slice _ m _)))=>out n o k (.c (.p (.int .i64 m)))
  | .c (.row j)=>match look A.m j with
   |some (.rw _ _ l)=>out n o k (.c (.p (.int .i64 l.length)))
   |some (.fz l)=>out n o k (.c (.p (.int .i64 l.length)))
   |_=>False
  |_=>False
end
section
variable{w0:World}{X:List Nat}{C0:Mem}{P:Program}{τ:Tau}{n:Nat}{o:Oper}{A:AS}{k:Kk}
abbrev cv(w0:World)(X:List Nat)(C0:Mem)(P:Program)(τ:Tau)(n:Nat)(o:Oper)(A:AS)(k:Kk):Prop:=∃wr wm F,k wr wm F/\Tri w0 X C0 P τ n o A wr wm F
theorem be{e:List (Nat×Value)}{x:Operand}{v:Value}{k:Value ->Prop}(h:ev e x=some v)(a:k v):wv e x k:=by
 unfold wv;rw[h];exact a
def unp:AV ->AV
 | .c (.rv _ k)=>.c (.row k)
 |a=>a
theorem Jp{C:Mem}{ρ:Nat ->Value}{a:AV}{v:Value}(h:RA C ρ a v):RA C ρ (unp a) v:=by
 cases a with
 |c x=>
  cases x with
  |rv u k=>exact h.2
  |_=>exact h
 |_=>exact h
theorem DI{x:Operand}{a:AV}(b:o.op= .move x \/o.op= .assign x)(ha:ao A x=some a)(hl:Lv A a.refs)(h:out n o k (unp a)):cv w0 X C0 P τ n o A k:=by
 refine dz h λA' s w C ρ c d=>?_;rcases b with b|b
 all_goals
  obtain⟨_,v,e,f⟩:=d.op c (x:=x) (by rw[b];simp[av']) ha hl;refine⟨v,λ_=>Jp f,λK i g=>?_⟩;unfold aW;simp only[b];exact be e g
theorem Jq{x:Operand}{j off:Nat}(a:o.op= .nilCheck x)(ha:ao A x=some (.c (.ptr j off)))(hl:Lv A (AV.c (.ptr j off)).refs)(h:out n o k (.c (.ptr j off))):cv w0 X C0 P τ n o A k:=by
 refine dz h λA' s w C ρ d f=>?_;obtain⟨_,v,g,i⟩:=f.op d (x:=x) (by rw[a];simp[av']) ha hl;obtain⟨b,l,e⟩:=i;subst e;refine⟨_,λ_=>⟨b,l,rfl⟩,λK q m=>?_⟩;unfold aW;simp only[a];exact be g m
theorem DJ{x y z:Operand}{t:Bool}{a:AV}(d:o.op= .pick x y z)(l:ao A x=some (.c (.p (.bool t))))(ha:ao A (if t=true then y else z)=some a)(hl:Lv A a.refs)(h:out n o k a):cv w0 X C0 P τ n o A k:=by
 refine dz h λA' s w C ρ f g=>?_;obtain⟨_,m,e,b⟩:=g.op f (x:=x) (by rw[d];simp[av']) l (λk q=>by cases q);obtain⟨_,v,i,r⟩:=g.op f (x:=if t=true then y else z) (by rw[d];cases t<;>simp[av']) ha hl;refine⟨v,λ_=>r,λK u j=>?_⟩;have b:RV C (.bool t) m:=b;cases b;unfold aW;simp only[d];refine be e ?_;cases t with
 |true=>exact tW rfl (be i j)
 |false=>exact tX rfl (be i j)
theorem Jr{x:Operand}{i:Nat}{a:AV}(g:o.op= .extract x i)(ha:ao A x=some a)(hl:Lv A a.refs)(h:yk n o k i a):cv w0 X C0 P τ n o A k:=by
 unfold yk at h;split at h
 ·rename_i D
  split at h
  ·rename_i c j
   refine dz h λA' s w C ρ m q=>?_;obtain⟨_,v,r,d,rfl,e,b⟩:=q.op m (x:=x) (by rw[g];simp[av']) ha hl;rw[gq]at j;have E:=aL j;have f:d[i]?=some d[i]:=gE;refine⟨d[i],λ_=>b i c _ j f,λK F t=>?_⟩;unfold aW;simp only[g];refine be r ?_;simp only[gq,f];exact t
  ·exact h.elim
 ·rename_i l
  split at h
  ·rename_i y u
   refine dz h λA' s w C ρ m q=>?_;obtain⟨_,v,r,z⟩:=q.op m (x:=x) (by rw[g];simp[av']) ha hl;have z:RV C (.tup l) v:=z;cases z with
   |tup D d e b=>
    rw[gq]at u;have E:=aL u;have f:d[i]?=some d[i]:=gE;refine⟨d[i],λ_=>b i y _ u f,λK F t=>?_⟩;unfold aW;simp only[g];refine be r ?_;simp only[gq,f];exact t
  ·exact h.elim
 ·exact h.elim
theorem Js{op:UnOp}{T:Nat}{x:Operand}{a:AV}(d:o.op= .unOp op T x)(ha:ao A x=some a)(hl:Lv A a.refs)(h:ym n o k op a):cv w0 X C0 P τ n o A k:=by
 unfold ym at h;split at h
 ·rename_i b
  refine dz h λA' s w C ρ e f=>?_;obtain⟨_,v,g,c⟩:=f.op e (x:=x) (by rw[d];simp[av']) ha hl;have c:RV C (.bool b) v:=c;cases c;refine⟨.bool (!b),λ_=>RV.bool _,λK l i=>?_⟩;unfold aW;simp only[d];exact be g i
 ·rename_i j m
  replace h:=h.go
  obtain⟨r,q,h⟩:=h;refine dz h λA' s w C ρ e f=>?_;obtain⟨_,v,g,c⟩:=f.op e (x:=x) (by rw[d];simp[av']) ha hl;have c:RV C (.int j m) v:=c;cases c;refine⟨.int j r,λ_=>RV.int _ _,λK l i=>?_⟩;unfold aW;simp only[d];refine be g ?_;unfold tR;exact pz r q i
 ·exact h.elim
theorem Jt{src dst:Nat}{x:Operand}{a:AV}(d:o.op= .convert src dst x)(ha:ao A x=some a)(hl:Lv A a.refs)(h:yn τ n o k src dst a):cv w0 X C0 P τ n o A k:=by
 unfold yn at h;split at h
 ·rename_i j m z c e f
  split at h
  ·rename_i g i
   replace h:=h.go
   obtain⟨r,l,h⟩:=h;refine dz h λA' s w C ρ q t=>?_;obtain⟨_,v,u,b⟩:=t.op q (x:=x) (by rw[d];simp[av']) ha hl;have b:RV C (.int j m) v:=b;cases b;refine⟨.int g r,λ_=>RV.int _ _,λK D y=>?_⟩;unfold aW;simp only[d];refine be u ?_;simp only[e,f,i];exact pz r l y
  ·exact h.elim
 ·exact h.elim
end
section
variable{w0:World}{X:List Nat}{C0:Mem}{P:Program}{τ:Tau}{n:Nat}{o:Oper}{A A':AS}{k:Kk}{s:St}{w:World}{C:Mem}{ρ:Nat ->Value}
def Ep(C:Mem)(w:World)(cs:List PV)(off:Nat)(v:Value):Prop:=∃(b o0:Nat) (f:Nat ->Value),v= .pointer (some ⟨b,o0+off,none⟩)/\∀(j:Nat) y,cs[j]?=some y ->Cl w.heap b (o0+j) (f j)/\RV C y (f j)
theorem Rp.ep(h:Rp w0 X C0 A s w C ρ){cs:List PV}{off:Nat}{v:Value}(d:RC C ρ (.ep cs off) v):Ep C w cs off v:=by
 obtain⟨b,e,f,g,a⟩:=d;exact⟨b,e,f,g,λj y c=>⟨h.sub _ _ _ (a j y c).1,(a j y c).2⟩⟩
theorem Rp.rp(h:Rp w0 X C0 A s w C ρ){j e sz i off:Nat}{l:List (List PV)}(hm:look A.m j=some (.rw e sz l)){x:List PV}(D:l[i]?=some x){v:Value}(z:RC C ρ (.rp j sz i off) v):Ep C w x off v:=by
 obtain⟨d,T,E,hl,M⟩:=h.ent j _ hm;obtain⟨b,m,c,U,rfl⟩:=z;have hi:=aL D;have t:d[i]?=some d[i]:=gE;obtain⟨O,f⟩:=M i _ x t D;obtain⟨a,V,z,W,R,Y⟩:=pB T.1;rw[U]at z;injection z with Z h2 h3
 have a0:=E x (JQ D);have u:∀F∈d,F.length=sz:=λF H=>by
  obtain⟨q,I⟩:=JH H;have a1:=aL I;exact(M q F _ I (gE)).1
 refine⟨b,i*sz,λq=>(d[i]).getD q undef,rfl,λq y S=>?_⟩;have I:=aL S;have K:(d[i])[q]?=some (d[i])[q]:=gE;have e:(d[i]).getD q undef=(d[i])[q]:=by simp[QK,K]
 show Cl w.heap b (i*sz+q) ((d[i]).getD q undef)/\RV C y ((d[i]).getD q undef);rw[e];refine⟨?_,(f q y _ S K).2⟩;rcases Y with h0|⟨g,r,_,_,L⟩
 ·omega
 ·rw[<- Z]at r
  injection r with r
  injection r with r
  subst r;exact L _ _ (pD d u i q _ _ t K)
theorem DK{T:Nat}{x:Operand}{cs:List PV}{off:Nat}(F:o.op= .load T x)(g:∀A' s w C ρ,Agr (ja' o.op) A A' (av' o.op) ->Rp w0 X C0 A' s w C ρ ->∃v,ev s.e x=some v/\Ep C w cs off v)(h:uD τ n o k T cs off):cv w0 X C0 P τ n o A k:=by
 unfold uD at h;split at h
 ·rename_i q z m
  split at h
  ·rename_i j
   have j:=QX j;refine dz h λA' s w C ρ r t=>?_;obtain⟨v,D,b,H,f,rfl,l⟩:=g A' s w C ρ r t;have c:∀(i:Nat) u,((List.range z.length).map λi=>f (off+i))[i]?=some u ->i<z.length/\u=f (off+i):=λi u a=>by
    rw[JX]at a;have e:i<z.length:=by
     rcases Nat.lt_or_ge i z.length with h|h
     ·exact h
     ·rw[QF (by simpa using h)]at a;cases a
    rw[List.getElem?_range e]at a;exact⟨e,(JB a).symm⟩
   have E:∀i,i<z.length ->∃y,cs[off+i]?=some y:=λi e=>⟨_,gE⟩
   refine⟨.agg ((List.range z.length).map λi=>f (off+i)).toArray,λ_=>RV.agg _ _ Uk λi y u d a=>?_,λK I g=>?_⟩
   ·obtain⟨e,rfl⟩:=c i u a
    rw[List.getElem?_take,KX e,List.getElem?_drop]at d;exact(l _ y d).2
   ·unfold aW
    simp only[F];refine be D ?_;simp only[m];refine jL _ Ud (λi u a=>?_) g;obtain⟨e,rfl⟩:=c i u a;obtain⟨y,d⟩:=E i e;rw[Nat.add_assoc];exact(l _ y d).1
  ·exact h.elim
 ·rename_i m
  split at h
  ·rename_i q L
   split at h
   ·rename_i y d
    rw[gq]at d;refine dz h λA' s w C ρ r t=>?_;obtain⟨v,D,b,H,f,rfl,l⟩:=g A' s w C ρ r t;refine⟨f off,λ_=>(l off y d).2,λK I g=>?_⟩;unfold aW;simp only[F];refine be D ?_;simp only[m,L];exact ld (l off y d).1.cell g
   ·exact h.elim
  ·exact h.elim
theorem Agr.at{mv:Nat}{l:List Operand}(b:Agr mv A A' l)(c:Nat.beq mv 1=false){x:Operand}(d:x∈l){a:AV}(ha:ao A x=some a){j:Nat}(e:j∈a.refs){y:SE}(hm:look A.m j=some y):look A'.m j=some y:=by
 rw[b.m c x d a ha j e];exact hm
theorem Ju{T:Nat}{x:Operand}{a:AV}(I:o.op= .load T x)(ha:ao A x=some a)(hl:Lv A a.refs)(h:yg τ n o A k T a):cv w0 X C0 P τ n o A k:=by
 have d:x∈av' o.op:=by rw[I];simp[av']
 unfold yg at h;split at h
 ·rename_i j f
  split at h
  ·rename_i g0 T' Y Z
   have R:∀A' s w C ρ,Agr (ja' o.op) A A' (av' o.op) ->Rp w0 X C0 A' s w C ρ ->∃b t,ev s.e x=some (.pointer (some ⟨b,f,none⟩))/\Bk w.heap b t T'/\t.length=Y.length/\∀(i:Nat) c u,Y[i]?=some c ->t[i]?=some u ->Lv A' c.refs ->RC C ρ c u:=λA' s w C ρ D r=>by
    obtain⟨_,v,E,b,S,rfl⟩:=r.op D d ha hl;obtain⟨b',t,g,U,_,m,V⟩:=r.ent j _ (D.at (by rw[I];rfl) d ha (by simp[AV.refs,AC.refs]) Z);rw[S]at g;injection g with g
    injection g with g
    injection g with g
    subst g;exact⟨b,t,E,U,m,λi c u F O=>(V i c u F O).2⟩
   split at h
   ·rename_i q z hz
    split at h
    ·rename_i W
     have W:=QX W;refine dz h λA' s w C ρ D r=>?_;obtain⟨b,t,E,U,m,V⟩:=R A' s w C ρ D r;refine⟨.agg ((t.drop f).take z.length).toArray,λhl=>⟨_,rfl,by simp[m],λi c u F O=>?_⟩,λK kp hp=>?_⟩
     ·have L:=JQ F
      rw[List.getElem?_take]at F O;split at F
      ·rename_i hi
       rw[KX hi]at O;rw[List.getElem?_drop]at F O;exact V _ c u F O λq hq=>hl q (jQ L hq)
      ·cases F
     ·unfold aW
      simp only[I];refine be E ?_;simp only[hz];refine jL _ Uk (λi u H=>?_) hp;rw[List.getElem?_take]at H;split at H
      ·rw[List.getElem?_drop]at H
       exact U.cl H
      ·cases H
    ·exact h.elim
   ·rename_i hz
    split at h
    ·rename_i q hq
     split at h
     ·rename_i c M
      rw[gq]at M;refine dz h λA' s w C ρ D r=>?_;obtain⟨b,t,E,U,m,V⟩:=R A' s w C ρ D r;have hi:=aL M;have H:t[f]?=some t[f]:=gE;refine⟨t[f],λhl=>V f c _ M H hl,λK kp hp=>?_⟩;unfold aW;simp only[I];refine be E ?_;simp only[hz,hq];exact ld (U.cl H).cell hp
     ·exact h.elim
    ·exact h.elim
  ·exact h.elim
 ·rename_i Y f
  refine DK I (λA' s w C ρ D r=>?_) h;obtain⟨_,v,E,hr⟩:=r.op D d ha hl;exact⟨v,E,r.ep hr⟩
 ·rename_i j sz i f
  split at h
  ·rename_i e a0 l Z
   split at h
   ·rename_i S
    have S:=QJ S;subst S
    replace h:=h.go
    obtain⟨y,hy,h⟩:=h;refine DK I (λA' s w C ρ D r=>?_) h;obtain⟨_,v,E,hr⟩:=r.op D d ha hl;exact⟨v,E,r.rp (D.at (by rw[I];rfl) d ha (by simp[AV.refs,AC.refs]) Z) hy hr⟩
   ·exact h.elim
  ·exact h.elim
 ·exact h.elim
theorem RV.at{l:List (List PV)}{v:Value}(h:RV C (.sl l) v){i sz:Nat}{x:List PV}(d:l[i]?=some x)(hsz:x.length=sz):∃(b o c:Nat) (f:Nat ->Value),v= .slice (some ⟨b,o,none⟩) l.length c/\l.length<=c/\∀(j:Nat) y,x[j]?=some y ->C b (o+i*sz+j) (f j)/\RV C y (f j):=by
 cases h with
 |nil a c=>simp at d
 |sl l g b o c f q r t u=>
  have:=q x (JQ d);have e:g=sz:=Uo
  subst e;exact⟨b,o,c,f i,rfl,r,λj y m=>⟨t i j x y d m,u i j x y d m⟩⟩
theorem Jv{T:Nat}{x y:Operand}{a b:AV}(L:o.op= .indexAddr T x y)(ha:ao A x=some a)(H:Lv A a.refs)(hb:ao A y=some b)(M:Lv A b.refs)(h:yh τ n o A k T a b):cv w0 X C0 P τ n o A k:=by
 have r:x∈av' o.op:=by rw[L];simp[av']
 have O:y∈av' o.op:=by rw[L];simp[av']
 unfold yh at h;split at h
 ·exact h.elim
 rename_i e W bs hs;split at h
 ·rename_i j m
  have R:∀(l:List (List PV)),kD l W m (λ_ x=>out n o k (.c (.ep x 0))) ->(∀A' s w C ρ,Agr (ja' o.op) A A' (av' o.op) ->Rp w0 X C0 A' s w C ρ ->∃v,ev s.e x=some v/\RV C (.sl l) v) ->cv w0 X C0 P τ n o A k:=λl h F=>by
   replace h:=h.go
   obtain⟨i,z,Y,V,S,h⟩:=h;refine dz h λA' s w C ρ t D=>?_;obtain⟨v,F,E⟩:=F A' s w C ρ t D;obtain⟨_,u,Z,d⟩:=D.op t O hb M;have d:RV C (.int j m) u:=d;cases d;obtain⟨b,o',c,f,rfl,_,hf⟩:=E.at V S;refine⟨.pointer (some ⟨b,o'+i*W,none⟩),λ_=>⟨b,o'+i*W,f,rfl,hf⟩,λK kp hp=>?_⟩;unfold aW;simp only[L];refine be F (be Z ?_);simp only[hs];exact ix i Y (aL V) hp
  split at h
  ·rename_i l
   exact R l h λA' s w C ρ t D=>by
    obtain⟨_,v,F,E⟩:=D.op t r ha H;exact⟨v,F,E⟩
  ·rename_i q
   split at h
   ·rename_i e' a0 l hm
    split at h
    ·rename_i I
     have I:=QJ I;subst I
     replace h:=h.go
     obtain⟨i,z,Y,V,S,h⟩:=h;refine dz h λA' s w C ρ t D=>?_;obtain⟨_,v,F,E⟩:=D.op t r ha H;obtain⟨_,u,Z,d⟩:=D.op t O hb M;have d:RV C (.int j m) u:=d;cases d;have E:v=ρ q:=E;subst E;obtain⟨a4,a1,_⟩:=D.ent q _ (t.at (by rw[L];rfl) r ha (by simp[AV.refs,AC.refs]) hm);obtain⟨ad,a5,U,_,_,a2⟩:=pB a1.1;have a3:=aL V;rcases a2 with h0|⟨g,rfl,_⟩
     ·omega
     ·refine⟨.pointer (some ⟨g,i*a0+0,none⟩),λ_=>⟨g,_,_,U,rfl⟩,λK kp hp=>?_⟩
      unfold aW;simp only[L];refine be F (be Z ?_);simp only[hs,U];refine ix i Y a3 ?_
      simpa using hp
    ·exact h.elim
   ·rename_i l hm
    exact R l h λA' s w C ρ t D=>by
     obtain⟨_,v,F,E⟩:=D.op t r ha H;have E:v=ρ q:=E;subst E;exact⟨_,F,D.ent q _ (t.at (by rw[L];rfl) r ha (by simp[AV.refs,AC.refs]) hm)⟩
   ·exact h.elim
  ·exact h.elim
 ·exact h.elim
theorem Jw{T f:Nat}{x:Operand}{a:AV}(r:o.op= .fieldAddr T x f)(ha:ao A x=some a)(hl:Lv A a.refs)(h:yi τ n o k T f a):cv w0 X C0 P τ n o A k:=by
 have j:x∈av' o.op:=by rw[r];simp[av']
 unfold yi at h;split at h
 ·exact h.elim
 rename_i S z E;split at h
 ·exact h.elim
 rename_i of q1 U F;have q:∀{t:AV},out n o k t ->(∀C ρ b e,RA C ρ a (.pointer (some ⟨b,e,none⟩)) ->RA C ρ t (.pointer (some ⟨b,e+of,none⟩))) ->(∀C ρ v,RA C ρ a v ->∃b e,v= .pointer (some ⟨b,e,none⟩)) ->cv w0 X C0 P τ n o A k:=λh H I=>by
  refine dz h λA' s w C ρ L M=>?_;obtain⟨_,v,O,u⟩:=M.op L j ha hl;obtain⟨b,e,rfl⟩:=I C ρ v u;refine⟨_,λ_=>H C ρ b e u,λK V R=>?_⟩;unfold aW;simp only[r];refine be O ?_;simp only[E,F,pA];exact R
 split at h
 ·refine q h (λC ρ b e ⟨g,l,d⟩=>⟨b,?_,?_⟩) λC ρ v ⟨g,l,d⟩=>⟨_,_,d⟩
  ·injection d with d;injection d with d;injection d with d i;rw[l,d]
  ·injection d with d;injection d with d;injection d with d i;rw[i]
 ·refine q h (λC ρ b e ⟨g,y,f,d,D⟩=>⟨g,y,f,?_,D⟩) λC ρ v ⟨g,y,f,d,D⟩=>⟨_,_,d⟩
  injection d with d;injection d with d;injection d with d i;rw[d,i,Nat.add_assoc]
 ·refine q h (λC ρ b e ⟨g,m,c,l,d⟩=>⟨g,m,c,l,?_⟩) λC ρ v ⟨g,m,c,l,d⟩=>⟨_,_,d⟩
  injection d with d;injection d with d;injection d with d i;rw[d,i,Nat.add_assoc]
 ·exact h.elim
theorem Jx{T f:Nat}{x:Operand}{a:AV}(E:o.op= .field T x f)(ha:ao A x=some a)(hl:Lv A a.refs)(h:yj τ n o k T f a):cv w0 X C0 P τ n o A k:=by
 have e:x∈av' o.op:=by rw[E];simp[av']
 unfold yj at h;split at h
 ·exact h.elim
 rename_i S z M;split at h
 ·exact h.elim
 ·rename_i of R F
  split at h
  ·rename_i H
   refine dz h λA' s w C ρ m q=>?_;obtain⟨_,v,r,g,rfl,b,t⟩:=q.op m e ha hl;refine⟨.agg ((g.drop of).take R).toArray,λ_=>⟨_,rfl,by simp[b],λi c u j l=>?_⟩,λK O y=>?_⟩
   ·rw[List.getElem?_take]at j l
    split at j
    ·rename_i I
     rw[KX I]at l;rw[List.getElem?_drop]at j l;exact t _ c u j l
    ·cases j
   ·unfold aW
    simp only[E];refine be r ?_;simp only[M,F];exact y
  ·rename_i H
   refine dz h λA' s w C ρ m q=>?_;obtain⟨_,v,r,D⟩:=q.op m e ha hl;have D:RV C (.agg H) v:=D;cases D with
   |agg _ g b t=>
    refine⟨.agg ((g.drop of).take R).toArray,λ_=>RV.agg _ _ (by simp[b]) λi c u j l=>?_,λK O y=>?_⟩
    ·rw[List.getElem?_take]at j l
     split at j
     ·rename_i I
      rw[KX I]at l;rw[List.getElem?_drop]at j l;exact t _ c u j l
     ·cases j
    ·unfold aW
     simp only[E];refine be r ?_;simp only[M,F];exact y
  ·exact h.elim
 ·rename_i of q1 F
  split at h
  ·rename_i H
   split at h
   ·rename_i c d
    rw[gq]at d;refine dz h λA' s w C ρ m q=>?_;obtain⟨_,v,r,g,rfl,b,t⟩:=q.op m e ha hl;have I:=aL d;have L:g[of]?=some g[of]:=gE;refine⟨g[of],λ_=>t of c _ d L,λK O y=>?_⟩;unfold aW;simp only[E];refine be r ?_;simp only[M,F,gq,L];exact y
   ·exact h.elim
  ·rename_i H
   split at h
   ·rename_i c d
    rw[gq]at d;refine dz h λA' s w C ρ m q=>?_;obtain⟨_,v,r,D⟩:=q.op m e ha hl;have D:RV C (.agg H) v:=D;cases D with
    |agg _ g b t=>
     have I:=aL d;have L:g[of]?=some g[of]:=gE;refine⟨g[of],λ_=>t of c _ d L,λK O y=>?_⟩;unfold aW;simp only[E];refine be r ?_;simp only[M,F,gq,L];exact y
   ·exact h.elim
  ·exact h.elim
end
end Go.Wx
