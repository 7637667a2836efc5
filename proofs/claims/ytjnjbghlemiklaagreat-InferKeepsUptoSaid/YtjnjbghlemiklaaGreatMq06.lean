import Derived.Test.YtjnjbghlemiklaaGreatMq05
set_option linter.unusedVariables false
set_option linter.unusedSimpArgs false
set_option linter.unusedSectionVars false
set_option maxHeartbeats 4000000
open Go.Proofs.Tryz
namespace Go.Proofs.YtjnjbghlemiklaaGreat
open Go.Wx Lv
def eX(vars:Int):List Atom ->Int ->Bool
 |[],_=>true
 |x::r,last=>if x.var<=last \/vars<x.var \/x.add<0 \/1000<x.add then false else eX vars r x.var
def cF(l:List Atom)(vars:Int):Bool:=
 if vars<0 \/16<vars \/l.length<1 \/4<l.length then false else eX vars l (-1)
theorem Ce(l:List Atom)(a:Option Addr)(cap:Nat)(vars:Int)(w:World){N:Nat}(D:Cc N w.heap a l):
  CC 137 #[.slice a l.length cap,iV vars] w (λe w'=>e= .returned (.bool (cF l vars))/\Kp [] w w'):=by
 refine oF func137 ?_;refine cO (args:=[_,_]) 53 [.tmp 4] τok func137 ?_;have r:vars<0 \/16<vars \/l.length<1 \/4<l.length ->cF l vars=false:=λh=>by unfold cF;rw[if_pos h]
 refine da (λE=>?_) (λE=>?_)
 ·exact⟨by rw[r Oo];rfl,Kp.refl _ _⟩
 refine da (λF=>?_) (λF=>?_)
 ·exact⟨by rw[r Oo];rfl,Kp.refl _ _⟩
 refine da (λH=>?_) (λH=>?_)
 ·exact⟨by rw[r Oo];rfl,Kp.refl _ _⟩
 refine da (λI=>?_) (λI=>?_)
 ·exact⟨by rw[r Oo];rfl,Kp.refl _ _⟩
 rcases D.1 with U|⟨b,o,rfl,hb,z⟩
 ·omega
 refine loop τok (σ:=Nat×Int) (λx=>[(24,.slice (some ⟨b,o,none⟩) l.length cap),(25,iV l.length),(26,iV x.1),(5,iV x.2),(1,iV vars)])
  (λx w'=>x.1<=l.length/\cF l vars=eX vars (l.drop x.1) x.2/\Kp [] w w') (λx=>l.length-x.1) (0,-1) ⟨rfl,rfl,rfl,rfl,rfl,trivial⟩ ⟨KV _,?_,Kp.refl _ _⟩ ?_
 ·unfold cF;rw[if_neg Oo];rfl
 rintro⟨k,m⟩ V ⟨W,s,i⟩;refine da (λK=>?_) (λK=>?_)
 ·have d:k<l.length:=Oo
  obtain⟨x,A⟩:∃x,x=l.getD k default:=⟨_,rfl⟩
  rw[HK l k d,<- A]at s;have n:=(z k 0 d Oo).kp i Od;have q:=(z k 1 d Oo).kp i Od;simp only[if_true,if_false,Nat.one_ne_zero,<- A]at n q;refine ix k rfl d ?_;refine j4 [iV x.var,iV x.add] rfl (HL n q) ?_;refine iO λZ w2 t u L v=>?_;refine stN u rfl (by simp[Value.oneCell']) λw3 f M y=>?_;have c:=i.tr (v.newSt t y);have j:(x.var<=m \/vars<x.var \/x.add<0 \/1000<x.add) ->cF l vars=false:=λh=>by rw[s];simp only[eX];rw[if_pos h]
  refine ld (f.cl rfl).cell ?_;refine da (λO=>?_) (λO=>?_)
  ·exact⟨by rw[j Oo];rfl,c⟩
  refine ld (f.cl rfl).cell ?_;refine da (λP=>?_) (λP=>?_)
  ·exact⟨by rw[j Oo];rfl,c⟩
  refine ld (f.cl rfl).cell ?_;refine da (λS=>?_) (λS=>?_)
  ·exact⟨by rw[j Oo];rfl,c⟩
  refine ld (f.cl rfl).cell ?_;refine da (λT=>?_) (λT=>?_)
  ·exact⟨by rw[j Oo];rfl,c⟩
  refine ld (f.cl rfl).cell ?_;refine i6 ?_;refine⟨(k+1,x.var),OS,rfl,⟨rfl,rfl,rfl,rfl,rfl,trivial⟩,d,?_,c⟩;rw[s];simp only[eX];rw[if_neg Oo]
 ·refine⟨?_,i⟩
  rw[s,JY Oo]
  rfl
def mz(p:Atom ->Bool):List Atom ->Int ->Int
 |[],_=>-1
 |x::r,i=>if p x then i else mz p r (i+1)
theorem Cf(p:Atom ->Bool):∀(l:List Atom) (i:Int),0<=i ->(decide (0<=mz p l i)=l.any p)
 |[],i,_=>by simp[mz]
 |x::r,i,h=>by
  simp only[mz,List.any_cons]
  by_cases a:p x=true
  ·simp[a,h]
  ·simp[a,Cf p r (i+1) Oo]
def HM(f:FuncId)(captured:Array Value)(w:World)(p:Atom ->Bool)(x:Atom):Prop:=
 dz prog f/\Calls prog f (#[]++[Value.agg [iV x.var,iV x.add].toArray].toArray++captured) w (λe w'=>e= .returned (.bool (p x))/\Kp [] w w')
def dg(g:G)(x y:Atom):Bool:=match g x.var y.var with
 |none=>false
 |some d=>decide (x.add-y.add<=d)
def jf(vars:Int)(os:List aO)(a b:List Atom):Bool:=match dZ vars os with
 | .error _=>false
 | .ok g=>cF a vars && cF b vars && a.all λx=>b.any (dg g x)
theorem jg{l:List Atom}{vars:Int}(h:cF l vars=true):l.length<=4/\∀x∈l,0<=x.add/\x.add<=1000/\0<=x.var/\x.var<=vars:=by
 unfold cF at h;split at h
 ·cases h
 ·rename_i d
  refine⟨Oo,?_⟩;have c:∀(l:List Atom) (a:Int),-1<=a ->eX vars l a=true ->∀x∈l,0<=x.add/\x.add<=1000/\0<=x.var/\x.var<=vars:=by
   intro l
   induction l with
   |nil=>intro _ _ _ x b;cases b
   |cons y r e=>
    intro a f h x b;simp only[eX]at h;split at h
    ·cases h
    ·rename_i d
     rcases List.mem_cons.1 b with rfl|b
     ·omega
     ·exact e y.var Oo h x b
  exact c l (-1) Oo h
def oG(vars:Int)(os:List aO):Int:=match dZ vars os with
 | .error n=>n
 | .ok _=>0
open Cd Tm
def Im(X:List Nat)(w:World):Mem:=λb o v=>Cl w.heap b o v/\b ∉ X
section
variable{X Y:List Nat}{w w':World}
theorem Im.sub(X:List Nat)(w:World):Sub (Im X w) w:=λ_ _ _ h=>h.1
end
def TmV(C:Mem)(x:Tr)(v:Value):Prop:=∃a c,v= .slice a (row x).length c/\Sl rNd C a (row x)/\(row x).length<=c
def TmsV(C:Mem)(ys:List Tr)(v:Value):Prop:=∃a c,v= .slice a ys.length c/\Sl (gz rNd) C a (ys.map row)/\ys.length<=c
open Go.Wx Cd Tm Lv
structure iv where
 args:List (List Nd)
 out:List (List Nd)
deriving Inhabited
structure bX where
 kind:Int
 sort:List Nd
 params:List (List Nd)
 indices:List (List Nd)
 ctors:List iv
 type:List Nd
 body:List Nd
deriving Inhabited
structure aq where
 vars:Int
 orders:List aO
 ents:List bX
 nat:Int
 prims:List (Int×Int)
def rOr:Rd aO where
 sz:=3
 den _ cs x:=cs=[iV x.low,iV x.add,iV x.high]/\I64 x.low/\I64 x.add/\I64 x.high
 len:=by rintro _ cs x ⟨rfl,_⟩;rfl
 mono:=by rintro _ _ cs x _ h;exact h
 one:=by rintro _ cs x ⟨rfl,_⟩ u hu;simp at hu;rcases hu with rfl|rfl|rfl<;>rfl
def rPr:Rd (Int×Int) where
 sz:=2
 den _ cs x:=cs=[iV x.1,iV x.2]/\I64 x.1/\I64 x.2
 len:=by rintro _ cs x ⟨rfl,_⟩;rfl
 mono:=by rintro _ _ cs x _ h;exact h
 one:=by rintro _ cs x ⟨rfl,_⟩ u hu;simp at hu;rcases hu with rfl|rfl<;>rfl
def SV{α:Type}(R:Rd α)(C:Mem)(l:List α)(v:Value):Prop:=∃a c,v= .slice a l.length c/\Sl R C a l/\l.length<=c
theorem SV.mono{α:Type}{R:Rd α}{C D:Mem}{l:List α}{v:Value}(h:SV R C l v)(hc:∀b o v,C b o v ->D b o v):SV R D l v:=by
 obtain⟨a,c,d,e,f⟩:=h;exact⟨a,c,d,e.mono hc,f⟩
theorem SV.one{α:Type}{R:Rd α}{C:Mem}{l:List α}{v:Value}(h:SV R C l v):v.oneCell'=true:=by
 obtain⟨a,c,rfl,_⟩:=h
 rfl
theorem TmV.sv{C:Mem}{x:Tr}{v:Value}:TmV C x v↔SV rNd C (row x) v:=Iff.rfl
theorem TmsV.sv{C:Mem}{ys:List Tr}{v:Value}:TmsV C ys v↔SV (gz rNd) C (ys.map row) v:=by
 unfold TmsV SV;simp
def rCt:Rd iv where
 sz:=2
 den C cs x:=∃v u,cs=[v,u]/\SV (gz rNd) C x.args v/\SV (gz rNd) C x.out u
 len:=by rintro C cs x ⟨v,u,rfl,_⟩;rfl
 mono:=by rintro C C' cs x hc ⟨v,u,rfl,h1,h2⟩;exact⟨v,u,rfl,h1.mono hc,h2.mono hc⟩
 one:=by rintro C cs x ⟨v,u,rfl,h1,h2⟩ z hz;simp at hz;rcases hz with rfl|rfl;exact h1.one;exact h2.one
def rEn:Rd bX where
 sz:=7
 den C cs x:=∃v1 v2 v3 v4 v5 v6,cs=[iV x.kind,v1,v2,v3,v4,v5,v6]/\I64 x.kind/\SV rNd C x.sort v1/\SV (gz rNd) C x.params v2/\SV (gz rNd) C x.indices v3/\SV rCt C x.ctors v4/\SV rNd C x.type v5/\SV rNd C x.body v6
 len:=by rintro C cs x ⟨v1,v2,v3,v4,v5,v6,rfl,_⟩;rfl
 mono:=by rintro C C' cs x hc ⟨v1,v2,v3,v4,v5,v6,rfl,h0,h1,h2,h3,h4,h5,h6⟩;exact⟨v1,v2,v3,v4,v5,v6,rfl,h0,h1.mono hc,h2.mono hc,h3.mono hc,h4.mono hc,h5.mono hc,h6.mono hc⟩
 one:=by
  rintro C cs x ⟨v1,v2,v3,v4,v5,v6,rfl,h0,h1,h2,h3,h4,h5,h6⟩ z hz;simp at hz;rcases hz with rfl|rfl|rfl|rfl|rfl|rfl|rfl
  ·rfl
  ·exact h1.one
  ·exact h2.one
  ·exact h3.one
  ·exact h4.one
  ·exact h5.one
  ·exact h6.one
def rBo:Rd aq where
 sz:=5
 den C cs x:=∃v1 v2 v3,cs=[iV x.vars,v1,v2,iV x.nat,v3]/\I64 x.vars/\I64 x.nat/\SV rOr C x.orders v1/\SV rEn C x.ents v2/\SV rPr C x.prims v3
 len:=by rintro C cs x ⟨v1,v2,v3,rfl,_⟩;rfl
 mono:=by rintro C C' cs x hc ⟨v1,v2,v3,rfl,h0,h1,h2,h3,h4⟩;exact⟨v1,v2,v3,rfl,h0,h1,h2.mono hc,h3.mono hc,h4.mono hc⟩
 one:=by
  rintro C cs x ⟨v1,v2,v3,rfl,h0,h1,h2,h3,h4⟩ z hz;simp at hz;rcases hz with rfl|rfl|rfl|rfl|rfl
  ·rfl
  ·exact h2.one
  ·exact h3.one
  ·rfl
  ·exact h4.one
def rBd:Rd (List Nd×List Nd) where
 sz:=2
 den C cs x:=∃v u,cs=[v,u]/\SV rNd C x.1 v/\SV rNd C x.2 u
 len:=by rintro C cs x ⟨v,u,rfl,_⟩;rfl
 mono:=by rintro C C' cs x hc ⟨v,u,rfl,h1,h2⟩;exact⟨v,u,rfl,h1.mono hc,h2.mono hc⟩
 one:=by rintro C cs x ⟨v,u,rfl,h1,h2⟩ z hz;simp at hz;rcases hz with rfl|rfl;exact h1.one;exact h2.one
abbrev ew(e:Int):List PanicEntry:=[{v:=.iface 129 (.agg #[iV e]),recovered:=false}]
theorem Cg(v:Value)(w:World):(Instr.makeInterface 129 v).run prog w= .ok (.iface 129 v) w:=by
 simp[Instr.makeInterface,underlying129,go_sem]
def Ch(C:Mem)(x:Tr)(h u:Value):Prop:=TmV C (headT x) h/\TmsV C (argsT x) u
theorem hQ':∀(ys:List Tr) (x a:Tr),al' x (ys++[a])= .mk appN [al' x ys,a]
 |[],x,a=>rfl
 |y::r,x,a=>by
  rw[List.cons_append,al',al',hQ' r]
theorem jG':∀(L:Nat) (x:Tr),(row x).length<=L ->Ok .tm x ->al' (headT x) (argsT x)=x
 |0,x,hl,_=>by
  have:=aS x;omega
 |L+1,.mk n j,hl,h=>by
  by_cases b:n.op=6
  ·obtain⟨f,a,rfl,d,k⟩:=ms h b
   have c:=h.tm.1;have e:n=appN:=by
    obtain⟨l,m,o⟩:=n;simp only at b;subst b;simp[aw]at c;simp[appN,c]
   have i:kidsT (.mk n [f,a])=[f,a]:=by simp[kidsT,b]
   have q:=hP' (.mk n [f,a]) f (by simp[i]);rw[kc b,ke b,hQ',jG' L f Oo d,e]
  ·rw[lA b,mu b]
   rfl
theorem Ft.spine{Q:Nd ->Prop}{N:Int}{x:Tr}(h:Ft Q N x):al' (headT x) (argsT x)=x:=jG' _ x (KJ _) h.ok
theorem Ft.nargs{Q:Nd ->Prop}{N:Int}{x:Tr}(h:Ft Q N x):(row x).length=(argsT x).length+((row (headT x)).length+(rows (argsT x)).length):=by
 have:=bJ' (argsT x) (headT x);rw[h.spine]at this;rw[this];simp
theorem vT':∀ys:List Tr,ys.length<=(rows ys).length
 |[]=>KJ _
 |y::r=>by
  have:=aS y;have:=vT' r;simp only[rows,JK,JV];omega
open Go.Wx Cd Tm Lv
def tr(l:List Nd):Tr:=(ml l).getD (varX 0)
theorem gW{x:Tr}(h:Ok .tm x):tr (row x)=x:=by unfold tr;rw[BE h];rfl
def aP(B:aq)(a:Int):bX:=B.ents.getD a.toNat default
def bI(B:aq)(known:Nat)(a:Int):Bool:=decide (0<=a) && (decide (a<known) && decide ((aP B a).kind=1))
def aT(B:aq)(known:Nat)(self:Int)(m:Nd):Bool:=
 if m.op=3 then decide (m.a<=B.vars)
 else if m.op=8 then decide (0<=m.a) && (decide (m.a<known) && decide ((aP B m.a).kind=2))
 else if m.op=9 then decide (m.a=self)||bI B known m.a
 else if m.op=11 then bI B known m.a
 else if m.op=10 then bI B known m.a && decide (m.b<(aP B m.a).ctors.length)
 else true
def bV(B:aq)(known:Nat)(self:Int)(m:Nd):Prop:=aT B known self m=true
def QB(B:aq):Nd ->Prop:=bV B B.ents.length (-1)
theorem HN(B:aq)(k:Nat)(s:Int):Qk (bV B k s):=⟨λm h=>by simp[bV,aT,h],λm h=>by
 have:m.op≠3/\m.op≠8/\m.op≠9/\m.op≠11/\m.op≠10:=Oo
 simp[bV,aT,this]⟩
theorem qk(B:aq):Qk (QB B):=HN B _ _
structure GoodC(B:aq)(i:Nat)(np ni:Nat)(c:iv)(ga go:List Tr):Prop where
 args:c.args=ga.map row
 out:c.out=go.map row
 la:ga.length<=16
 lo:go.length=ni
 fa:∀(k:Nat) y,ga[k]?=some y ->Ft (bV B i i) ((np+k:Nat):Int) y
 fo:∀y∈go,Ft (bV B i i) ((np+ga.length:Nat):Int) y
structure GoodF(B:aq)(i:Nat)(x:bX)(s:Tr)(ps qi:List Tr):Prop where
 kind:x.kind=1
 sort:x.sort=row s
 fs:Ft (bV B i (-1)) 0 s
 s2:s.n.op=2
 params:x.params=ps.map row
 indices:x.indices=qi.map row
 lp:ps.length<=16
 li:qi.length<=16
 lc:x.ctors.length<=16
 fp:∀(k:Nat) y,ps[k]?=some y ->Ft (bV B i (-1)) (k:Int) y
 fi:∀(k:Nat) y,qi[k]?=some y ->Ft (bV B i (-1)) ((ps.length+k:Nat):Int) y
 ct:∀(k:Nat) c,x.ctors[k]?=some c ->∃ga go,GoodC B i ps.length qi.length c ga go
structure xb(B:aq)(i:Nat)(x:bX)(ty bo:Tr):Prop where
 kind:x.kind=2
 type:x.type=row ty
 body:x.body=row bo
 ft:Ft (bV B i (-1)) 0 ty
 fb:Ft (bV B i (-1)) 0 bo
structure GoodB(B:aq):Prop where
 lvl:oG B.vars B.orders=0
 len:B.ents.length<=64
 ent:∀(i:Nat) x,B.ents[i]?=some x ->(∃s ps qi,GoodF B i x s ps qi) \/∃ty bo,xb B i x ty bo
theorem xc{B:aq}{k c:Nat}(h:k<=c){a:Int}(b:bI B k a=true):bI B c a=true:=by
 simp only[bI,Bool.and_eq_true,decide_eq_true_eq]at b ⊢;exact⟨b.1,Oo,b.2.2⟩
theorem Ci{B:aq}{k b:Nat}{s s':Int}(h:k<=b)(a:s=s' \/bI B b s=true){m:Nd}(hm:bV B k s m):bV B b s' m:=by
 unfold bV aT at hm ⊢;split at hm
 ·rename_i g;rw[if_pos g];exact hm
 rename_i g;rw[if_neg g];split at hm
 ·rename_i g;rw[if_pos g]
  simp only[Bool.and_eq_true,decide_eq_true_eq]at hm ⊢;exact⟨hm.1,Oo,hm.2.2⟩
 rename_i g;rw[if_neg g];split at hm
 ·rename_i g;rw[if_pos g]
  simp only[Bool.or_eq_true,decide_eq_true_eq]at hm ⊢;rcases hm with hm|hm
  ·rcases a with a|a
   ·exact .inl Oo
   ·exact .inr (by rw[hm];exact a)
  ·exact .inr (xc h hm)
 rename_i g;rw[if_neg g];split at hm
 ·rename_i g;rw[if_pos g];exact xc h hm
 rename_i g;rw[if_neg g];split at hm
 ·rename_i g;rw[if_pos g]
  simp only[Bool.and_eq_true,decide_eq_true_eq]at hm ⊢;exact⟨xc h hm.1,hm.2⟩
 ·rename_i g;rw[if_neg g]
theorem nK{B:aq}{i:Nat}(hi:i<=B.ents.length){m:Nd}(hm:bV B i (-1) m):QB B m:=Ci hi (.inl rfl) hm
theorem Cj{B:aq}{i:Nat}{x:bX}(hi:B.ents[i]?=some x)(a:x.kind=1){m:Nd}(hm:bV B i i m):QB B m:=by
 have b:=aI hi;refine Ci Oo (.inr ?_) hm;simp[bI,aP,hi,a];exact b
section
variable{B:aq}
theorem qw{i:Nat}{x:bX}(hi:B.ents[i]?=some x):aP B (i:Int)=x:=by simp[aP,hi]
theorem GoodB.fam(e:GoodB B){k:Nat}{a:Int}(h:bI B k a=true)(n:k<=B.ents.length):∃(i:Nat) (x:bX) (s:Tr) (b c:List Tr),a=(i:Int)/\i<k/\B.ents[i]?=some x/\aP B a=x/\GoodF B i x s b c:=by
 simp only[bI,Bool.and_eq_true,decide_eq_true_eq]at h;obtain⟨o,q,f⟩:=h;obtain⟨i,rfl⟩:∃i:Nat,a=(i:Int):=⟨a.toNat,Oo⟩
 obtain⟨x,d,_⟩:=ay (l:=B.ents) (k:=i);rw[qw d]at f ⊢;rcases e.ent i x d with ⟨s,b,c,j⟩|⟨r,t,m⟩
 ·exact⟨i,x,s,b,c,rfl,Oo,d,rfl,j⟩
 ·have:=m.kind
  omega
theorem GoodB.dfn(c:GoodB B){m:Nd}(h:QB B m)(d:m.op=8):∃(i:Nat) (x:bX) (ty bo:Tr),m.a=(i:Int)/\B.ents[i]?=some x/\aP B m.a=x/\xb B i x ty bo:=by
 simp only[QB,bV,aT,d]at h;simp at h;obtain⟨o,e,b⟩:=h;obtain⟨i,f⟩:∃i:Nat,m.a=(i:Int):=⟨m.a.toNat,Oo⟩
 rw[f]at b e ⊢;obtain⟨x,a,_⟩:=ay (l:=B.ents) (k:=i);rw[qw a]at b ⊢;rcases c.ent i x a with ⟨s,q,r,j⟩|⟨ty,bo,n⟩
 ·have:=j.kind
  omega
 ·exact⟨i,x,ty,bo,rfl,a,rfl,n⟩
theorem jK{m:Nd}(h:QB B m)(h1:m.op=10 \/m.op=11):bI B B.ents.length m.a=true:=by
 rcases h1 with h1|h1
 ·simp[QB,bV,aT,h1]at h
  exact h.1
 ·simp[QB,bV,aT,h1]at h
  exact h
theorem xd{m:Nd}(h:QB B m)(h1:m.op=9)(a:0<=m.a):bI B B.ents.length m.a=true:=by
 simp[QB,bV,aT,h1]at h;rcases h with h|h
 ·omega
 ·exact h
theorem sQ{m:Nd}(h:QB B m)(h1:m.op=10):m.b<(aP B m.a).ctors.length:=by
 simp[QB,bV,aT,h1]at h;exact h.2
theorem GoodF.up_p(e:GoodB B){i:Nat}{x:bX}{s:Tr}{a b:List Tr}(hi:B.ents[i]?=some x)(h:GoodF B i x s a b){k:Nat}{y:Tr}(c:a[k]?=some y):Ft (QB B) (k:Int) y:=
 (h.fp k y c).wk λm d=>nK (Nat.le_of_lt (aI hi)) d
theorem GoodF.up_i(e:GoodB B){i:Nat}{x:bX}{s:Tr}{a b:List Tr}(hi:B.ents[i]?=some x)(h:GoodF B i x s a b){k:Nat}{y:Tr}(c:b[k]?=some y):Ft (QB B) ((a.length+k:Nat):Int) y:=
 (h.fi k y c).wk λm d=>nK (Nat.le_of_lt (aI hi)) d
theorem GoodC.up_a{i:Nat}{x:bX}(hi:B.ents[i]?=some x)(d:x.kind=1){a e:Nat}{c:iv}{b go:List Tr}(h:GoodC B i a e c b go){k:Nat}{y:Tr}(f:b[k]?=some y):Ft (QB B) ((a+k:Nat):Int) y:=
 (h.fa k y f).wk λm j=>Cj hi d j
theorem GoodC.up_o{i:Nat}{x:bX}(hi:B.ents[i]?=some x)(d:x.kind=1){a e:Nat}{c:iv}{b go:List Tr}(h:GoodC B i a e c b go){y:Tr}(f:y∈go):Ft (QB B) ((a+b.length:Nat):Int) y:=
 (h.fo y f).wk λm j=>Cj hi d j
end
abbrev Ctx:=List (Tr×Option Tr)
def nS':Option Tr ->List Nd
 |none=>[]
 |some x=>row x
def aA(q:Tr×Option Tr):List Nd×List Nd:=(row q.1,nS' q.2)
def CxOk(B:aq)(c:Ctx):Prop:=∀(i:Nat) q,c[i]?=some q ->Ft (QB B) (i:Int) q.1/\∀x,q.2=some x ->Ft (QB B) (i:Int) x
theorem CxOk.snoc{B:aq}{c:Ctx}(h:CxOk B c){t:Tr}{v:Option Tr}(b:Ft (QB B) (c.length:Int) t)(d:∀x,v=some x ->Ft (QB B) (c.length:Int) x):CxOk B (c++[(t,v)]):=λi q a=>by
 by_cases f:i<c.length
 ·rw[List.getElem?_append_left f]at a
  exact h i q a
 ·rw[List.getElem?_append_right Oo]at a
  have e:i-c.length=0:=by
   have:=aI a;simp at this;omega
  rw[e]at a;simp only[List.getElem?_cons_zero,Option.some.injEq]at a;subst a;rw[show i=c.length by omega];exact⟨b,d⟩
def eZ(c:Ctx)(a:Int):Tr×Option Tr:=c.getD (c.length-1-a.toNat) (varX 0,none)
theorem mA{c:Ctx}{a:Int}(d:0<=a)(h1:a<c.length):c[c.length-1-a.toNat]?=some (eZ c a):=by
 unfold eZ;rw[List.getD_eq_getElem?_getD];obtain⟨x,b,_⟩:=ay (l:=c) (k:=c.length-1-a.toNat);rw[b]
 rfl
abbrev xe(v1 v2 v3 v4:Value)(C:Mem)(w:World)(bm:Nat)(B:aq)(c:Ctx)(n:Nat):Prop:=Bk w.heap bm [iV B.vars,v1,v2,iV B.nat,v3,v4,iV (n:Int)] 250/\SV rOr C B.orders v1/\SV rEn C B.ents v2/\SV rPr C B.prims v3/\SV rBd C (c.map aA) v4
def HO(C:Mem)(w:World)(bm:Nat)(B:aq)(c:Ctx)(n:Nat):Prop:=∃v1 v2 v3 v4,xe v1 v2 v3 v4 C w bm B c n
def BoV(C:Mem)(B:aq)(v:Value):Prop:=∃v1 v2 v3,v= .agg #[iV B.vars,v1,v2,iV B.nat,v3]/\SV rOr C B.orders v1/\SV rEn C B.ents v2/\SV rPr C B.prims v3
def eH(B:aq)(a:Int):Nat:=(aP B a).params.length
def iw(B:aq)(a b:Int):iv:=(aP B a).ctors.getD b.toNat default
def gX(B:aq)(n:Nd)(s:Tr):Bool:=
 let c:=(headT s).n
 decide (c.op=10) && (decide (c.a=n.a) && (decide (c.b<n.b) && decide ((argsT s).length=eH B n.a+(iw B n.a c.b).args.length)))
theorem _root_.Tm.Ok.pl{x:Tr}(h:Ok .tm x):aw x.n=true:=by
 obtain⟨n,a⟩:=x;exact h.tm.1
theorem Ft.node'{Q:Nd ->Prop}{N:Int}{x:Tr}(h:Ft Q N x):Q x.n:=by
 obtain⟨n,a⟩:=x;exact h.node
theorem Ck{ks:List Tr}{k:Nat}{f:Tr}(h:ks[k]?=some f):rows ks=rows (ks.take k)++(row f++rows (ks.drop (k+1))):=by
 obtain⟨g,a,b⟩:=ay (aI h);rw[h]at a;obtain rfl:=JB a;have:=dc' (ks.take k) (ks.drop k);rw[List.take_append_drop,b]at this;rw[this]
 rfl
theorem kj{x:Tr}(o:Ok .tm x)(a:x.n.op=12){k:Nat}{f:Tr}(b:x.ks[k]?=some f):∃ty bo,f= .mk f.n [ty,bo]/\f.n.op=13/\aw f.n=true/\Ok .tm ty/\Ok .tm bo/\
  row x=(x.n::rows (x.ks.take k))++(row f++rows (x.ks.drop (k+1)))/\(row x)[1+(rows (x.ks.take k)).length]?=some f.n/\
  row x=(x.n::(rows (x.ks.take k)++[f.n]))++(row ty++(row bo++rows (x.ks.drop (k+1))))/\row x=(x.n::(rows (x.ks.take k)++(f.n::row ty)))++(row bo++rows (x.ks.drop (k+1))):=by
 obtain⟨n,d⟩:=x;simp only[Tr.n,Tr.ks]at a b ⊢;obtain⟨r,e,q⟩:=o.kids;have h:Ok .fn f:=⟨by
  have:=iU d 0 k f e b
  rwa [show nx Md.tm n (0+k)= .fn by simp[nx,a]]at this,dE' d k f q b⟩
 obtain⟨g,ty,bo,rfl,i,j,l,m⟩:=h.fn;have c:=Ck b;refine⟨ty,bo,rfl,i,j,l,m,by simp[row,c],?_,by simp[row,c,rows],by simp[row,c,rows]⟩;show (n::rows d)[1+_]?=_;rw[Nat.add_comm,List.getElem?_cons_succ,c,List.getElem?_append_right (KJ _),Nat.sub_self]
 rfl
theorem dM{x:Tr}(d:Ok .tm x)(a:x.n.op=12):(x.ks.length:Int)=x.n.b/\1<=x.n.b/\x.n.b<=4/\0<=x.n.a/\x.n.a<x.n.b:=by
 obtain⟨n,j⟩:=x;simp only[Tr.n,Tr.ks]at a ⊢;obtain⟨e,f,k⟩:=d.kids;obtain⟨h,_,_,c⟩:=eb e;have i:n.op≠2:=Oo
 have b:aE n.b 1 4=true/\aE n.a 0 (n.b-1)=true:=by simpa[aw,a]using h
 have l:=dq.1 b.1;have m:=dq.1 b.2;rw[if_neg i]at c;simp[bp,a]at c;omega
def bS(x:Tr):Int:=((x.ks[x.n.a.toNat]?).map λf=>f.n.a).getD 0
theorem mC{x:Tr}(e:Ok .tm x)(a:x.n.op=12):∃f,x.ks[x.n.a.toNat]?=some f/\bS x=f.n.a/\0<=bS x/\bS x<=15:=by
 have i:=dM e a;obtain⟨f,b,_⟩:=ay (l:=x.ks) (k:=x.n.a.toNat);obtain⟨j,m,_,c,h,_⟩:=kj e a b;have:bS x=f.n.a:=by simp[bS,b]
 have d:aE f.n.a 0 15=true:=by
  have:aE f.n.a 0 15=true/\f.n.b=0:=by simpa[aw,c]using h
  exact this.1
 have:=dq.1 d;exact⟨f,b,by assumption,Oo,Oo⟩
def kidD(x:Tr)(k:Nat):Tr:=(kidsT x).getD k (varX 0)
def cf(B:aq)(cx:Ctx)(x:Tr):Bool:=
 let h:=headT x
 if h.n.op=5 then decide (0<(argsT x).length)
 else if h.n.op=7 \/h.n.op=8 then true
 else if h.n.op=1 then (eZ cx h.n.a).2.isSome
 else if h.n.op=11 then gX B h.n (kidD h 1)
 else if h.n.op=12 then decide (bS h<(argsT x).length) && decide ((headT ((argsT x).getD (bS h).toNat (varX 0))).n.op=10)
 else false
theorem HP(o:Option Tr):0<(nS' o).length↔o.isSome=true:=by
 cases o with
 |none=>simp[nS']
 |some x=>
  have:=aS x;simp[nS',this]
theorem gd{x:Tr}(f:Ok .tm x)(a:x.n.op=11):kidsT x=x.ks/\(x.ks.length:Int)=2+x.n.b/\0<=x.n.b/\x.n.b<=16:=by
 obtain⟨n,k⟩:=x;simp only[Tr.n,Tr.ks]at a ⊢;obtain⟨h,i,l⟩:=f.kids;obtain⟨j,_,_,d⟩:=eb h;have e:n.op≠2:=Oo
 have b:n.op≠12:=Oo
 have c:aE n.b 0 16=true:=by
  have:aE n.a 0 63=true/\aE n.b 0 16=true:=by simpa[aw,a]using j
  exact this.2
 have m:=dq.1 c;rw[if_neg e]at d;simp[bp,a]at d;exact⟨by simp[kidsT,e,b],Oo,Oo,Oo⟩
theorem Ft.kidD{Q:Nd ->Prop}{N:Int}{x:Tr}(h:Ft Q N x){k:Nat}(b:k<(kidsT x).length):(kidsT x)[k]?=some (kidD x k)/\Ft Q (N+kb x.n k) (kidD x k):=by
 obtain⟨y,a,_⟩:=ay (l:=kidsT x) (k:=k) b;have e:Go.Proofs.YtjnjbghlemiklaaGreat.kidD x k=y:=by simp[Go.Proofs.YtjnjbghlemiklaaGreat.kidD,a]
 rw[e];refine⟨a,?_⟩;obtain⟨n,c⟩:=x;exact h.kid a
def Cn(C:Mem)(w w':World):Mem:=λb o v=>C b o v \/New w.heap.size w' b o v
section
variable{C:Mem}{w w' w2:World}
theorem Cn.sub(a:Sub C w)(k:Kp [] w w'):Sub (Cn C w w') w':=λb o v h=>h.elim (λh=>(a _ _ _ h).kp k Od) λh=>h.2.cl
end
def eI(x:Tr)(k:Int):Tr:=(argsT x).getD k.toNat (varX 0)
def cg(x:Tr):Option Tr:=
 if (headT x).n.op=11 then some (kidD (headT x) 1)
 else if (headT x).n.op=12 then (if bS (headT x)<(argsT x).length then some (eI x (bS (headT x)))else none)
 else none
section
variable{C:Mem}{w:World}{Q:Nd ->Prop}{N:Int}{x:Tr}
theorem jL(a:Ft Q N x){p:Tr}(h:cg x=some p):Ft Q N p/\(row p).length<(row x).length:=by
 have s:=a.nargs;unfold cg at h;split at h
 ·rename_i g
  obtain⟨i,j,_,_⟩:=gd a.head.ok g;obtain⟨m,d⟩:=a.head.kidD (k:=1) (by rw[i];omega);have b:kb (headT x).n 1=0:=by simp[kb,aY,g]
  rw[b,Int.add_zero]at d;obtain rfl:=JB h;have:=hP' (headT x) _ (JQ m);exact⟨d,Oo⟩
 ·split at h
  ·rename_i g
   split at h
   ·rename_i t
    obtain rfl:=JB h;obtain⟨f,u,o,q,r⟩:=mC a.head.ok g;obtain⟨y,c,_⟩:=ay (l:=argsT x) (k:=(bS (headT x)).toNat);have e:eI x (bS (headT x))=y:=by simp[eI,c]
    rw[e];have:=eE' (JQ c);have:=aS (headT x);exact⟨a.args y (JQ c),Oo⟩
   ·cases h
  ·cases h
end
theorem HQ{C:Mem}{w:World}(j:Sub C w)(l:List Value)(a:Option Addr)(c:Nat)(hl:Sl rVal C a l)(i:l.length<=1000000):
  CC 156 #[.slice a l.length c] w (λe w'=>(∃v,e= .returned v/\Own rVal 29 w.heap.size w' v l)/\Kp [] w w'):=by
 refine oF func156 ?_;refine cO (args:=[_]) 8 [.tmp 2] τok func156 ?_;refine AG τok rfl ?_;cases a with
 |none=>
  obtain rfl:=hl.none_nil;exact⟨⟨_,rfl,Own.nil _ _ (KJ _)⟩,Kp.refl _ _⟩
 |some a=>
  refine fill [] rfl<|iO λo q k b m d=>?_;refine(Own.empty rVal b (lo:=w.heap.size) Oo).apF τok rfl rfl OO zn' (j.tr d) l hl (by simp only[JU];omega) (by simp only[JU,maxLen];omega) λn w2 f h _=>?_;rw[List.nil_append]at f;exact⟨⟨n,rfl,f⟩,d.own h (Own.empty rVal b (lo:=w.heap.size) Oo)⟩
theorem Cm{P:Program}{τ:Tau}(b:aL P τ){T e sz bs:Nat}(l:Go.Wx.look τ.slcs T=some (e,sz,bs)){a:Option Addr}{len cap:Nat}{w:World}{k:Value ->World ->Prop}{j d:IntKind}{i i':Int}(h m:Nat)(hi:i=h)(c:i'=m)(h1:h<=m)(h2:m<=cap)(n:k (sliced a 0 h m sz) w):EvRun P (Instr.sliceAt T (.slice a len cap) none (some (.int j i)) (some (.int d i'))) w k:=by
 obtain⟨f,o⟩:=iP' b l;subst hi c;refine run ?_ n;rw[run_sliceAt_slice w T _ _ _ _ f,run_slice_hm w T a len cap f j d h m Oo Oo Oo,o]
 rfl
theorem HR(n:Nat)(a:n<=1000000)(w:World):
  CC 248 #[.slice none 0 0,iV (n:Int)] w (λe w'=>∃v,e= .returned v/\Own rVal 29 w.heap.size w' v []/\Kp [] w w'):=by
 refine oF func248 ?_;refine cO (args:=[_,_]) 27 [.tmp 4] τok func248 ?_;refine mw rfl<|i6 ?_;refine i6 ?_;refine da (λg=>?_) (λg=>?_);rotate_left
 ·exact⟨_,rfl,Own.nil _ _ (KJ _),Kp.refl _ _⟩
 have b:0<n:=by
  have g:(0:Int)<(n:Int)-((0:Nat)-(0:Nat):Int):=g;omega
 refine mw rfl<|lY τok rfl 0 (.slice none 0 0) rfl (KJ _) rfl ?_;have e:((n:Int)-((0:Nat)-(0:Nat):Int))=(n:Int):=Oo
 rw[e];refine wP (R:=rVal) rfl rfl OO rfl OO n b a λB G f h i c d=>?_;exact lY τok rfl 0 _ rfl (KV _) ol<|⟨_,rfl,c,d⟩
def fixAt(x:Tr)(i:Int):Tr:=.mk {x.n with a:=i} x.ks
def bk(b u:Tr)(v:Int):Except Int Tr:=if gc b u v=true then .error 9 else .ok (eu b u v)
def jh(x:Tr):Nat ->Tr ->Except Int Tr
 |0,b=>.ok b
 |i+1,b=>(bk b (aH (fixAt x i) i 0) 0).bind (jh x i)
def kk(x:Tr):Except Int Tr:=jh x x.n.b.toNat (kidD x (2*x.n.a.toNat+1))
section
variable{C:Mem}{w:World}{Q:Nd ->Prop}{N:Int}{x:Tr}
theorem Ft.fixAt(A:Qk Q)(c:Ft Q N x)(b:x.n.op=12){i:Int}(F:0<=i)(hi:i<x.n.b):Ft Q N (fixAt x i):=by
 obtain⟨n,t⟩:=x;have D:=dM c.ok b;simp only[Tr.n,Tr.ks]at b hi D;unfold Go.Proofs.YtjnjbghlemiklaaGreat.fixAt;simp only[Tr.n,Tr.ks];obtain⟨E,j,u⟩:=c.ok.kids;have v:=c.ok.tm.1;have m:aw {n with a:=i}=true:=by
  have:aE n.b 1 4=true/\aE n.a 0 (n.b-1)=true:=by simpa[aw,b]using v
  simp[aw,b,this.1];rw[dq];omega
 have o:bp {n with a:=i}=bp n:=by simp[bp,b]
 have r:∀k,nx .tm {n with a:=i} k=nx .tm n k:=λk=>by simp[nx]
 refine⟨⟨⟨?_,?_⟩,?_⟩,?_,?_,?_⟩
 ·rw[<- E]
  simp only[cnt,v,m,o]
 ·have:∀(l:List Tr) (k:Nat),okL cnt nx l n .tm k ->okL cnt nx l {n with a:=i} .tm k:=by
   intro l
   induction l with
   |nil=>intros;trivial
   |cons y l s=>intro k h;exact⟨by rw[r];exact h.1,s _ h.2⟩
  exact this t 0 j
 ·have:=c.ok.2
  simpa[gE']using this
 ·have:=c.len
  simpa[row]using this
 ·have z:n.op≠1:=Oo
  have hb:∀q∈varsK t n 0 0 0,q.1-q.2<N:=λq f=>c.bl q (by simpa[varsT,z]using f);have e:∀(l:List Tr) (k d:Int),varsK l {n with a:=i} 0 k d=varsK l n 0 k d:=by
   intro l
   induction l with
   |nil=>intros;rfl
   |cons y l s=>intro k d;simp only[varsK,s];rfl
  intro q f;simp only[varsT,z,if_false]at f;rw[e]at f;exact hb q f
 ·rw[kh]
  exact⟨A.app _ OS,(kh.1 c.al).2⟩
theorem fK{x:Tr}(b:Ok .tm x)(a:x.n.op=12):((kidsT x).length:Int)=2*x.n.b:=by
 have d:=dM b a;obtain⟨n,h⟩:=x;simp only[Tr.n,Tr.ks]at a d;obtain⟨o,j,q⟩:=b.kids;have l:n.op≠2:=Oo
 have:∀k∈h,k.ks.length=2:=λf m=>by
  obtain⟨i,c⟩:=JH m;obtain⟨r,s,e,_⟩:=kj b a (k:=i) (f:=f) c;rw[e]
  rfl
 simp only[kidsT,if_neg l,if_pos a,Tr.n];rw[fP' this];omega
theorem iy(c:Qk Q){b u z:Tr}{v:Int}(hb:Ft Q (N+1+v) b)(d:Ft Q N u)(e:0<=N)(f:N<=100000)(a:0<=v)(i:v<=300000)(h:bk b u v= .ok z):Ft Q (N+v) z:=by
 unfold bk at h;split at h
 ·cases h
 ·rename_i g
  injection h with h
  subst h;exact hb.subst c d e f a i (by simpa using g)
theorem Co(c:Qk Q)(d:Ft Q N x)(a:x.n.op=12)(f:0<=N)(j:N<=90000):∀(i:Nat) (b z:Tr),(i:Int)<=x.n.b ->Ft Q (N+i) b ->jh x i b= .ok z ->Ft Q N z
 |0,b,z,_,hb,h=>by
  simp only[jh,Except.ok.injEq]at h;subst h;exact hb.mono Od
 |i+1,b,z,hi,hb,h=>by
  simp only[jh]at h;have hl:=dM d.ok a;have k:=(d.fixAt c a (i:=i) Oo Oo).lift c (b:=i) Oo Oo Oo;cases e:bk b (aH (Go.Proofs.YtjnjbghlemiklaaGreat.fixAt x i) i 0) 0 with
  |error m=>rw[e]at h;cases h
  |ok y=>
   rw[e]at h;have l:=iy c (N:=N+i) (v:=0) (hb.mono Oo) k Oo Oo Oo Oo e;exact Co c d a f j i y z Oo (l.mono Oo) h
theorem xf(e:Qk Q)(b:Ft Q N x)(a:x.n.op=12)(f:0<=N)(i:N<=90000){z:Tr}(h:kk x= .ok z):Ft Q N z:=by
 have j:=dM b.ok a;have l:=fK b.ok a;obtain⟨_,d⟩:=b.kidD (k:=2*x.n.a.toNat+1) Oo;have c:kb x.n (2*x.n.a.toNat+1)=x.n.b:=by
  unfold kb;rw[if_pos a,if_pos Oo]
 rw[c]at d;exact Co e b a f i x.n.b.toNat _ z Oo (d.mono Oo) h
end
theorem hU':∀(ys:List Tr) (x:Tr),Ok .tm x ->headT (al' x ys)=headT x/\argsT (al' x ys)=argsT x++ys
 |[],x,_=>by simp[al']
 |y::r,x,i=>by
  rw[al'];have b:appN.op=6:=rfl;have e:headT (.mk appN [x,y])=headT x:=kc b;have f:argsT (.mk appN [x,y])=argsT x++[y]:=ke b;have:∀(l:List Tr) (z:Tr),headT (al' z l)=headT z/\argsT (al' z l)=argsT z++l:=by
   intro l
   induction l with
   |nil=>intro z;simp[al']
   |cons a l h=>
    intro z;rw[al'];obtain⟨c,d⟩:=h (.mk appN [z,a]);rw[c,d,kc b,ke b];simp
  obtain⟨c,d⟩:=this r (.mk appN [x,y]);rw[c,d,e,f];simp
theorem Ft.match{Q:Nd ->Prop}{N:Int}{n:Nd}{ks:List Tr}(t:aw n=true)(e:n.op=11)(a:Q n)(hl:(ks.length:Int)=2+n.b)(b:∀k∈ks,Ft Q N k)(f:(row (.mk n ks)).length<=4096):Ft Q N (.mk n ks):=by
 have i:n.op≠2:=Oo
 have u:n.op≠1:=Oo
 have o:n.op≠12:=Oo
 have r:n.op≠13:=Oo
 refine⟨⟨⟨?_,?_⟩,?_⟩,f,?_,?_⟩
 ·simp only[cnt,t,i]
  rw[if_pos ⟨trivial,Oo,Oo⟩];simp[bp,e];omega
 ·have:∀(l:List Tr) (j:Nat),(∀k∈l,Ok .tm k) ->okL cnt nx l n .tm j:=by
   intro l
   induction l with
   |nil=>intros;trivial
   |cons y l c=>
    intro j h;exact⟨by rw[show nx Md.tm n j= .tm by simp[nx,i,o]];exact(h y Od).1,c _ λk b=>h k (by simp[b])⟩
  exact this ks 0 λk h=>(b k h).ok
 ·have:∀(l:List Tr),(∀k∈l,Ok .tm k) ->eN' l=true:=by
   intro l
   induction l with
   |nil=>intros;rfl
   |cons y l c=>
    intro h;simp[eN',(h y Od).2,c λk b=>h k (by simp[b])]
  simp[gE',i,this ks λk h=>(b k h).ok]
 ·intro q a
  simp only[varsT,if_neg u]at a;have:∀(l:List Tr) (j:Int),(∀k∈l,Ft Q N k) ->∀q∈varsK l n 0 j 0,q.1-q.2<N:=by
   intro l
   induction l with
   |nil=>intro j _ q a;simp[varsK]at a
   |cons y l c=>
    intro j h q a;simp only[varsK,JW]at a;rcases a with a|a
    ·have s:=h y Od
     have:aY n j=0:=by simp[aY,e]
     rw[lz r,this]at a;exact(s.ok.bld (d:=0+0) (nb:=n.b)).2 (s.bl.mono Oo) q a
    ·exact c _ (λk b=>h k (by simp[b])) q a
  exact this ks 0 b q a
 ·rw[kh]
  refine⟨a,?_⟩;have:∀(l:List Tr),(∀k∈l,Ft Q N k) ->kg Q l:=by
   intro l
   induction l with
   |nil=>intro _ m v;simp[rows]at v
   |cons y l c=>
    intro h;rw[my];exact⟨(h y Od).al,c λk b=>h k (by simp[b])⟩
  exact this ks b
def bJ(x p:Tr):Tr:=
 if (headT x).n.op=11 then al' (.mk (headT x).n ((headT x).ks.set 1 p)) (argsT x)
 else al' (headT x) ((argsT x).set (bS (headT x)).toNat p)
theorem lw':∀(l:List Tr) (k:Nat) (y p:Tr),l[k]?=some y ->(rows (l.set k p)).length+(row y).length=(rows l).length+(row p).length
 |x::r,0,y,p,h=>by
  simp only[List.getElem?_cons_zero,Option.some.injEq]at h;subst h;simp[rows];omega
 |x::r,k+1,y,p,h=>by
  have:=lw' r k y p (by simpa using h);simp[rows];omega
section
variable{C:Mem}{w:World}{Q:Nd ->Prop}{N:Int}{x p:Tr}
theorem qx(b:Ft Q N x){y:Tr}(a:cg x=some y):(row (bJ x p)).length+(row y).length=(row x).length+(row p).length:=by
 have q:=b.nargs;unfold cg at a;unfold bJ;split at a
 ·rename_i g
  rw[if_pos g];obtain⟨c,i,_,_⟩:=gd b.head.ok g;obtain⟨d,_⟩:=b.head.kidD (k:=1) (by rw[c];omega);rw[c]at d;obtain rfl:=JB a;have:=lw' _ 1 _ p d;have e:(row (headT x)).length=1+(rows (headT x).ks).length:=by
   cases headT x;simp[row,Tr.ks];omega
  rw[bJ'];simp only[row,JK,List.length_replicate,JV];omega
 ·rename_i g
  rw[if_neg g];split at a
  ·rename_i j
   split at a
   ·rename_i r
    obtain⟨f,s,m,n,o⟩:=mC b.head.ok j;obtain⟨z,h,_⟩:=ay (l:=argsT x) (k:=(bS (headT x)).toNat);have e:eI x (bS (headT x))=z:=by simp[eI,h]
    rw[e]at a;obtain rfl:=JB a;have:=lw' _ _ _ p h;rw[bJ'];simp only[JK,List.length_replicate,List.length_set];omega
   ·cases a
  ·cases a
theorem xg(s:Qk Q)(b:Ft Q N x)(t:Ft Q N p){y:Tr}(u:cg x=some y)(hl:(row (bJ x p)).length<=4096):Ft Q N (bJ x p)/\headT (bJ x p)=(if (headT x).n.op=11 then .mk (headT x).n ((headT x).ks.set 1 p)else headT x)/\argsT (bJ x p)=if (headT x).n.op=11 then argsT x else (argsT x).set (bS (headT x)).toNat p:=by
 have q:∀n:Nd,n.op=11 ->∀d,headT (.mk n d)= .mk n d/\argsT (.mk n d)=[]:=λn h d=>⟨lA Oo,mu Oo⟩
 have j:headT (headT x)=headT x/\argsT (headT x)=[]:=by
  have:∀(L:Nat) (x:Tr),(row x).length<=L ->Ok .tm x ->headT (headT x)=headT x/\argsT (headT x)=[]:=by
   intro L
   induction L with
   |zero=>intro x hl;have:=aS x;omega
   |succ L D=>
    rintro⟨n,d⟩ hl E
    by_cases e:n.op=6
    ·obtain⟨f,a,rfl,F,O⟩:=ms E e
     have l:kidsT (.mk n [f,a])=[f,a]:=by simp[kidsT,e]
     have P:=hP' (.mk n [f,a]) f (by simp[l]);rw[kc e];exact D f Oo F
    ·rw[lA e]
     exact⟨lA e,mu e⟩
  exact this _ x (KJ _) b.ok
 unfold cg at u;unfold bJ at hl ⊢;split at u
 ·rename_i g
  rw[if_pos g]at hl ⊢;obtain⟨l,H,_,_⟩:=gd b.head.ok g;have v:Ft Q N (.mk (headT x).n ((headT x).ks.set 1 p)):=by
   refine Ft.match b.head.ok.pl g b.head.node' OK (λk c=>?_) ?_
   ·rcases List.mem_or_eq_of_mem_set c with h|rfl
    ·obtain⟨i,z⟩:=JH h
     have A:=b.head;cases I:headT x with
     |mk n d=>
      rw[I]at A z l g;have:=A.kid (k:=i) (y:=k) (by rw[l];exact z);simp only[Tr.n]at g;have r:kb n i=0:=by simp[kb,aY,g]
      rwa [r,Int.add_zero]at this
    ·exact t
   ·rw[bJ']at hl
    simp only[JK,List.length_replicate]at hl;omega
  refine⟨Ft.apply s v b.args hl,?_⟩;obtain⟨m,o⟩:=hU' (argsT x) _ v.ok;obtain⟨K,M⟩:=q (headT x).n g ((headT x).ks.set 1 p);rw[K]at m;rw[M]at o;rw[m,o,if_pos g,if_pos g];exact⟨rfl,rfl⟩
 ·rename_i g
  rw[if_neg g]at hl ⊢;refine⟨Ft.apply s b.head (λk c=>?_) hl,?_⟩
  ·rcases List.mem_or_eq_of_mem_set c with h|rfl
   ·exact b.args k h
   ·exact t
  ·obtain⟨m,o⟩:=hU' ((argsT x).set (bS (headT x)).toNat p) _ b.head.ok
   rw[m,o,j.1,j.2,if_neg g,if_neg g];exact⟨rfl,rfl⟩
theorem xh(a:Qk Q)(b:Ft Q N x)(c:Ft Q N p){y:Tr}(d:cg x=some y)(hl:(row (bJ x p)).length<=4096):Ft Q N (bJ x p)/\Ch C (bJ x p)=λh u=>TmV C (if (headT x).n.op=11 then .mk (headT x).n ((headT x).ks.set 1 p)else headT x) h/\TmsV C (if (headT x).n.op=11 then argsT x else (argsT x).set (bS (headT x)).toNat p) u:=by
 obtain⟨e,f,i⟩:=xg a b c d hl;refine⟨e,?_⟩
 funext h u
 rw[Ch,f,i]
end
theorem lB{x:Tr}(b:Ok .tm x)(h2:x.n.op≠2)(a:x.n.op≠12):kidsT x=x.ks/\(x.ks.length:Int)=bp x.n:=by
 obtain⟨n,h⟩:=x;simp only[Tr.n,Tr.ks]at h2 a ⊢;obtain⟨c,d,i⟩:=b.kids;obtain⟨e,_,_,f⟩:=eb c;have:=mn e;rw[if_neg h2]at f;exact⟨by simp[kidsT,h2,a],Oo⟩
theorem HS{x:Tr}{k:Nat}{y:Tr}(h:x.ks[k]?=some y):row x=(x.n::rows (x.ks.take k))++(row y++rows (x.ks.drop (k+1))):=by
 obtain⟨n,a⟩:=x;simp only[Tr.n,Tr.ks]at h ⊢;have:=Ck h;simp[row,this]
def aK(x:Tr)(ys:List Tr):Except Int Tr:=if 4096<(row (al' x ys)).length then .error 9 else .ok (al' x ys)
def gf(B:aq)(cx:Ctx)(x:Tr):Except Int Tr:=
 let h:=headT x
 let l:=argsT x
 if h.n.op=5 then (bk (kidD h 1) (l.getD 0 (varX 0)) 0).bind λs=>aK s (l.drop 1)
 else if h.n.op=7 then (bk (kidD h 2) (kidD h 1) 0).bind λs=>aK s l
 else if h.n.op=1 then aK (aH ((eZ cx h.n.a).2.getD (varX 0)) (h.n.a+1) 0) l
 else if h.n.op=8 then aK (tr (aP B h.n.a).body) l
 else if h.n.op=11 then aK (kidD h (2+(headT (kidD h 1)).n.b.toNat)) ((argsT (kidD h 1)).drop (eH B h.n.a)++l)
 else (kk h).bind λu=>aK u l
section
variable{B:aq}{cx:Ctx}{x:Tr}
theorem fL{Q:Nd ->Prop}{N:Int}(a:Qk Q){s:Tr}{l:List Tr}(b:Ft Q N s)(hl:∀y∈l,Ft Q N y){z:Tr}(h:aK s l= .ok z):Ft Q N z:=by
 unfold aK at h;split at h
 ·cases h
 ·injection h with h
  subst h;exact Ft.apply a b hl Oo
theorem Cp(i:GoodB B){n:Nd}{s:Tr}{N:Int}(c:Ft (QB B) N s)(h:gX B n s=true):(headT s).n.op=10/\(headT s).n.a=n.a/\0<=(headT s).n.b/\(headT s).n.b<n.b/\eH B n.a<=(argsT s).length:=by
 simp only[gX,Bool.and_eq_true,decide_eq_true_eq]at h;obtain⟨d,e,f,j⟩:=h;have:=db c.head.ok.pl;exact⟨d,e,Oo,f,Oo⟩
theorem Ft.kidN{Q:Nd ->Prop}{N:Int}(h:Ft Q N x)(k:Nat)(a:k<(kidsT x).length){b:Int}(hb:kb x.n k=b):Ft Q (N+b) (Go.Proofs.YtjnjbghlemiklaaGreat.kidD x k):=by
 have:=(h.kidD a).2
 rwa [hb]at this
theorem sR(T:GoodB B)(I:CxOk B cx)(hN:cx.length<=90000)(f:Ft (QB B) (cx.length:Int) x)(hr:cf B cx x=true){z:Tr}(h:gf B cx x= .ok z):Ft (QB B) (cx.length:Int) z:=by
 have d:=qk B;have c:=f.head;unfold cf at hr;unfold gf at h;simp only at h hr;split at h
 ·rename_i g
  rw[if_pos g]at hr;have hr:=of_decide_eq_true hr;obtain⟨j,D⟩:=lB c.ok Oo Oo;have K:bp (headT x).n=2:=by simp[bp,g]
  have hb:=c.kidN 1 (by rw[j];omega) (b:=1) (by simp[kb,aY,g]);obtain⟨a,U,_⟩:=ay (l:=argsT x) (k:=0) hr;have Z:(argsT x).getD 0 (varX 0)=a:=by simp[U]
  rw[Z]at h;cases e:bk (kidD (headT x) 1) a 0 with
  |error V=>rw[e]at h;cases h
  |ok s=>
   rw[e]at h;have r:=iy d (N:=(cx.length:Int)) (v:=0) (hb.mono Oo) (f.args a (JQ U)) Oo Oo Oo Oo e;exact fL d (r.mono Oo) (λy o=>f.args y (List.mem_of_mem_drop o)) h
 rename_i g;rw[if_neg g]at hr;split at h
 ·rename_i F
  obtain⟨j,D⟩:=lB c.ok Oo Oo;have K:bp (headT x).n=3:=by simp[bp,F]
  have hb:=c.kidN 2 (by rw[j];omega) (b:=1) (by simp[kb,aY,F]);have H:=c.kidN 1 (by rw[j];omega) (b:=0) (by simp[kb,aY,F]);cases e:bk (kidD (headT x) 2) (kidD (headT x) 1) 0 with
  |error V=>rw[e]at h;cases h
  |ok s=>
   rw[e]at h;have r:=iy d (N:=(cx.length:Int)) (v:=0) (hb.mono Oo) (H.mono Oo) Oo Oo Oo Oo e;exact fL d (r.mono Oo) f.args h
 rename_i F;split at h
 ·rename_i t
  rw[if_neg Oo,if_pos t]at hr;cases hd:headT x with
  |mk n ks=>
   rw[hd]at h hr c t;simp only[Tr.n]at h hr t;obtain⟨L,M,_⟩:=c.var_lt t;have E:=mA L M;obtain⟨v,H⟩:=Option.isSome_iff_exists.1 hr;rw[H]at h;have O:=(I _ _ E).2 v H;have:=O.lift d Oo (b:=n.a+1) Oo Oo;exact fL d (this.mono Oo) f.args h
 rename_i t;split at h
 ·rename_i W
  obtain⟨i,e,ty,bo,a0,hi,P,q⟩:=T.dfn c.node' W;rw[P,q.body,gW q.fb.ok]at h;exact fL d ((q.fb.wk λm hm=>nK (Nat.le_of_lt (aI hi)) hm).mono Oo) f.args h
 rename_i W;rw[if_neg Oo,if_neg t]at hr;split at h
 ·rename_i A
  rw[if_pos A]at hr;obtain⟨j,D,a1,a2⟩:=gd c.ok A;have r:=c.kidN 1 (by rw[j];omega) (b:=0) (by simp[kb,aY,A]);obtain⟨f1,f2,f3,f4,f5⟩:=Cp T r hr;have S:=c.kidN (2+(headT (kidD (headT x) 1)).n.b.toNat) (by rw[j];omega) (b:=0) (by simp[kb,aY,A]);refine fL d (S.mono Oo) (λy o=>?_) h;rcases List.mem_append.1 o with o|o
  ·exact(r.args y (List.mem_of_mem_drop o)).mono Oo
  ·exact f.args y o
 ·rename_i A
  rw[if_neg A]at hr;split at hr
  ·rename_i g6
   cases e:kk (headT x)with
   |error V=>rw[e]at h;cases h
   |ok u=>
    rw[e]at h;exact fL d (xf d c g6 Oo Oo e) f.args h
  ·cases hr
end
theorem xi{α:Type}:∀{l:List α},l.length=2 ->∃a b,l=[a,b]
 |[a,b],_=>⟨a,b,rfl⟩
theorem Cq{α:Type}:∀{l:List α},l.length=3 ->∃a b c,l=[a,b,c]
 |[a,b,c],_=>⟨a,b,c,rfl⟩
theorem TmsV.vals{C:Mem}{ys:List Tr}{v:Value}(h:TmsV C ys v):∃a c vs,v= .slice a ys.length c/\ys.length<=c/\Sl rVal C a vs/\sM C vs ys:=by
 obtain⟨a,c,b,d,e⟩:=h;obtain⟨vs,f,i⟩:=Hv d;exact⟨a,c,vs,b,e,f,i⟩
def len(x:Tr):Int:=((row x).length:Int)
abbrev Rc:=Tr ->Int ->Nat ->Except Int (Tr×Nat)
def gY(rc:Rc)(x:Tr)(room:Int)(n:Nat):Except Int (Tr×Nat):=match cg x with
 |none=>.ok (x,n)
 |some p=>match rc p (room-len x+len p) n with
  | .error e=>.error e
  | .ok q=>.ok (bJ x q.1,q.2)
def gZ(B:aq)(cx:Ctx)(rc:Rc)(room:Int)(q:Tr×Nat):Except Int (Tr×Nat):=
 if cf B cx q.1=true then
  (if q.2=0 then .error 10 else match gf B cx q.1 with
   | .error e=>.error e
   | .ok z=>if room<len z then .error 9 else rc z room (q.2-1))
 else .ok q
def bY(B:aq)(cx:Ctx):Nat ->Rc
 |0,_,_,_=>.error 10
 |g+1,x,room,n=>match gY (bY B cx g) x room n with
  | .error e=>.error e
  | .ok q=>gZ B cx (bY B cx g) room q
section
variable{B:aq}{cx:Ctx}
mutual
theorem oH(c:GoodB B)(a:CxOk B cx)(d:cx.length<=90000):∀(g:Nat) (x:Tr) (room:Int) (n:Nat) (z:Tr) (b:Nat),Ft (QB B) (cx.length:Int) x ->len x<=room ->room<=4096 ->bY B cx g x room n= .ok (z,b) ->Ft (QB B) (cx.length:Int) z/\len z<=room/\b<=n
 |0,x,room,n,z,b,_,_,_,h=>by cases h
 |g+1,x,room,n,z,b,o,hl,hr,h=>by
  have key:∀(q:Tr×Nat),Ft (QB B) (cx.length:Int) q.1 ->len q.1<=room ->q.2<=n ->gZ B cx (bY B cx g) room q= .ok (z,b) ->Ft (QB B) (cx.length:Int) z/\len z<=room/\b<=n:=by
   intro q m f i h;unfold gZ at h;split at h
   ·rename_i j
    split at h
    ·cases h
    ·cases k:gf B cx q.1 with
     |error e=>rw[k]at h;cases h
     |ok y=>
      rw[k]at h;simp only at h;split at h
      ·cases h
      ·rename_i u
       have:=oH c a d g y room (q.2-1) z b (sR c a d m j k) Oo hr h;exact⟨this.1,this.2.1,Oo⟩
   ·injection h with h
    subst h;exact⟨m,f,i⟩
  simp only[bY]at h;cases l:gY (bY B cx g) x room n with
  |error e=>rw[l]at h;cases h
  |ok q=>
   rw[l]at h;obtain⟨r,s,t⟩:=HT c a d g o hl hr l;exact key q r s t h
theorem HT(k:GoodB B)(c:CxOk B cx)(l:cx.length<=90000)(g:Nat){x:Tr}{room:Int}{n:Nat}{q:Tr×Nat}(b:Ft (QB B) (cx.length:Int) x)(hl:len x<=room)(hr:room<=4096)(h:gY (bY B cx g) x room n= .ok q):Ft (QB B) (cx.length:Int) q.1/\len q.1<=room/\q.2<=n:=by
 unfold gY at h;cases a:cg x with
 |none=>
  rw[a]at h;injection h with h
  subst h;exact⟨b,hl,KJ _⟩
 |some p=>
  rw[a]at h;simp only at h;obtain⟨d,m⟩:=jL b a;cases f:bY B cx g p (room-len x+len p) n with
  |error e=>rw[f]at h;cases h
  |ok o=>
   rw[f]at h;injection h with h
   subst h;obtain⟨q1,r⟩:=o;have i:len p<=room-len x+len p:=Oo
   obtain⟨s,v,t⟩:=oH k c l g p _ n q1 r d i (by unfold len at *;omega) f;have u:=qx (p:=q1) b a;have j:=(xh (C:=λ_ _ _=>True) (qk B) b s a (by unfold len at *;omega)).1;exact⟨j,by unfold len at *;simp only;omega,t⟩
end
end
def ImN(lo:Nat)(X:List Nat)(w:World):Mem:=λb o v=>Im X w b o v/\New lo w b o v
def ndP(x:Nd):List PV:=[.int .i64 x.op,.int .i64 x.a,.int .i64 x.b]
def ah(l:List Nd):PV:=.sl (l.map ndP)
def bw(ls:List (List Nd)):PV:=.sl (ls.map λt=>[ah t])
def orP(x:aO):List PV:=[.int .i64 x.low,.int .i64 x.add,.int .i64 x.high]
def prP(x:Int×Int):List PV:=[.int .i64 x.1,.int .i64 x.2]
def aZ(c:iv):List PV:=[bw c.args,bw c.out]
def aQ(x:bX):List PV:=[.int .i64 x.kind,ah x.sort,bw x.params,bw x.indices,.sl (x.ctors.map aZ),ah x.type,ah x.body]
def jM(B:aq):List PV:=[.int .i64 B.vars,.sl (B.orders.map orP),.sl (B.ents.map aQ),.int .i64 B.nat,.sl (B.prims.map prP)]
def aW(B:aq):PV:=.agg (jM B)
def bdP(x:List Nd×List Nd):List PV:=[ah x.1,ah x.2]
def aG(c:List (List Nd×List Nd)):PV:=.sl (c.map bdP)
def kn{α:Type}(R:Rd α)(p:α ->List PV):Prop:=∀C cs x,R.den C cs x ->cs.length=(p x).length/\∀(i:Nat) y u,(p x)[i]?=some y ->cs[i]?=some u ->RV C y u
theorem SV.rv{α:Type}{R:Rd α}{p:α ->List PV}(he:kn R p){C:Mem}{l:List α}{v:Value}(h:SV R C l v):RV C (.sl (l.map p)) v:=by
 obtain⟨a,c,rfl,A,D⟩:=h;rcases A.2 with E|⟨b,o,rfl,F⟩
 ·have:l=[]:=List.length_eq_zero_iff.1 E
  subst this;exact .nil a c
 ·have q:∀i:Nat,∃f:Nat ->Value,∀x,l[i]?=some x ->(p x).length=R.sz/\∀(j:Nat) y,(p x)[j]?=some y ->C b (o+i*R.sz+j) (f j)/\RV C y (f j):=λi=>by
   cases d:l[i]? with
   |none=>exact⟨λ_=>undef,λx h=>by cases h⟩
   |some x=>
    obtain⟨m,u,H⟩:=F i x d;obtain⟨L,I⟩:=he C m x u;have M:=R.len u;refine⟨λj=>m.getD j undef,λz k=>?_⟩;obtain rfl:=JB k;refine⟨Oo,λj y n=>?_⟩;have O:=aI n;have r:m[j]?=some m[j]:=gE;have e:m.getD j undef=m[j]:=by simp[List.getD_eq_getElem?_getD,r]
    show C b (o+i*R.sz+j) (m.getD j undef)/\RV C y (m.getD j undef);rw[e];exact⟨H j _ r,I j y _ n r⟩
  obtain⟨f,s⟩:=Classical.axiomOfChoice q;have t:∀(i:Nat) x,(l.map p)[i]?=some x ->∃z,l[i]?=some z/\x=p z:=λi x d=>by
   rw[JX]at d;cases k:l[i]? with
   |none=>rw[k]at d;cases d
   |some z=>rw[k]at d;exact⟨z,rfl,(JB d).symm⟩
  have:=RV.sl (C:=C) (l.map p) R.sz b o c f (λx d=>by
   obtain⟨i,K⟩:=JH d;obtain⟨z,k,rfl⟩:=t i x K;exact(s i z k).1) (by simpa using D) (λi j x y d n=>by
   obtain⟨z,k,rfl⟩:=t i x d;exact((s i z k).2 j y n).1) λi j x y d n=>by
   obtain⟨z,k,rfl⟩:=t i x d;exact((s i z k).2 j y n).2
  rwa [List.length_map]at this
theorem sS{α:Type}{R:Rd α}{p:α ->List PV}(he:kn R p):kn (gz R) λl=>[.sl (l.map p)]:=λC j x ⟨a,b,e,f,h⟩=>by
 subst e;refine⟨rfl,λi y u c d=>?_⟩
 match i,c,d with
 |0,c,d=>
  obtain rfl:=JB c;obtain rfl:=JB d;exact SV.rv he ⟨a,b,rfl,h,f⟩
theorem eP':kn rNd ndP:=λC c x ⟨e,_⟩=>by
 subst e;refine⟨rfl,λi y u a b=>?_⟩
 match i,a,b with
 |0,a,b=>obtain rfl:=JB a;obtain rfl:=JB b;exact .int _ _
 |1,a,b=>obtain rfl:=JB a;obtain rfl:=JB b;exact .int _ _
 |2,a,b=>obtain rfl:=JB a;obtain rfl:=JB b;exact .int _ _
theorem Cs':kn rOr orP:=λC c x ⟨e,_⟩=>by
 subst e;refine⟨rfl,λi y u a b=>?_⟩
 match i,a,b with
 |0,a,b=>obtain rfl:=JB a;obtain rfl:=JB b;exact .int _ _
 |1,a,b=>obtain rfl:=JB a;obtain rfl:=JB b;exact .int _ _
 |2,a,b=>obtain rfl:=JB a;obtain rfl:=JB b;exact .int _ _
theorem Ct':kn rPr prP:=λC c x ⟨e,_⟩=>by
 subst e;refine⟨rfl,λi y u a b=>?_⟩
 match i,a,b with
 |0,a,b=>obtain rfl:=JB a;obtain rfl:=JB b;exact .int _ _
 |1,a,b=>obtain rfl:=JB a;obtain rfl:=JB b;exact .int _ _
theorem Cu':kn rCt aZ:=λC f x ⟨v,u,e,c,d⟩=>by
 subst e;refine⟨rfl,λi y z a b=>?_⟩
 match i,a,b with
 |0,a,b=>obtain rfl:=JB a;obtain rfl:=JB b;exact c.rv (sS eP')
 |1,a,b=>obtain rfl:=JB a;obtain rfl:=JB b;exact d.rv (sS eP')
theorem Cv':kn rEn aQ:=λC l x ⟨m,n,o,q,r,s,e,t,c,d,f,h,j,k⟩=>by
 subst e;refine⟨rfl,λi y z a b=>?_⟩
 match i,a,b with
 |0,a,b=>obtain rfl:=JB a;obtain rfl:=JB b;exact .int _ _
 |1,a,b=>obtain rfl:=JB a;obtain rfl:=JB b;exact c.rv eP'
 |2,a,b=>obtain rfl:=JB a;obtain rfl:=JB b;exact d.rv (sS eP')
 |3,a,b=>obtain rfl:=JB a;obtain rfl:=JB b;exact f.rv (sS eP')
 |4,a,b=>obtain rfl:=JB a;obtain rfl:=JB b;exact h.rv Cu'
 |5,a,b=>obtain rfl:=JB a;obtain rfl:=JB b;exact j.rv eP'
 |6,a,b=>obtain rfl:=JB a;obtain rfl:=JB b;exact k.rv eP'
theorem Cw':kn rBd bdP:=λC f x ⟨v,u,e,c,d⟩=>by
 subst e;refine⟨rfl,λi y z a b=>?_⟩
 match i,a,b with
 |0,a,b=>obtain rfl:=JB a;obtain rfl:=JB b;exact c.rv eP'
 |1,a,b=>obtain rfl:=JB a;obtain rfl:=JB b;exact d.rv eP'
def ko(l:List (List Nd)):Prop:=l.length<=1000000/\∀t∈l,t.length<=1000000
structure oI(x:bX):Prop where
 s:x.sort.length<=1000000
 t:x.type.length<=1000000
 b:x.body.length<=1000000
 p:ko x.params
 i:ko x.indices
 c:x.ctors.length<=1000000
 a:∀c∈x.ctors,ko c.args/\ko c.out
structure dc(B:aq):Prop where
 o:B.orders.length<=1000000
 p:B.prims.length<=1000000
 e:B.ents.length<=1000000
 x:∀x∈B.ents,oI x
def GL{α:Type}(g:α ->Prop)(l:List α):Prop:=l.length<=1099511627776/\∀x∈l,g x
structure Br2{α:Type}(R:Rd α)(p:α ->List PV)(g:α ->Prop):Prop where
 sz:∀x,(p x).length=R.sz
 bme:∀x,g x ->∀C cs,cs.length=(p x).length ->(∀(i:Nat) y u,(p x)[i]?=some y ->cs[i]?=some u ->RV C y u) ->R.den C cs x
 good:∀C cs x,R.den C cs x ->g x
section
variable{α:Type}{R:Rd α}{p:α ->List PV}{g:α ->Prop}(hb:Br2 R p g)
include hb
theorem Br2.sl{C:Mem}{l:List α}{v:Value}(n:GL g l)(h:RV C (.sl (l.map p)) v):SV R C l v:=by
 obtain⟨k,n⟩:=n
 generalize t:l.map p=L at h
 cases h with
 |nil a c=>
  obtain rfl:l=[]:=List.map_eq_nil_iff.1 t;exact⟨a,c,rfl,⟨KV _,.inl rfl⟩,KV _⟩
 |sl _ E b o c f q z e r=>
  subst t;rw[List.length_map]at z ⊢;refine⟨_,c,rfl,⟨k,.inr ⟨b,o,rfl,λi x A=>?_⟩⟩,z⟩;have s:(l.map p)[i]?=some (p x):=by rw[JX,A];rfl
  have F:=q (p x) (JQ s);have H:=hb.sz x;refine⟨(List.range (p x).length).map (f i),hb.bme x (n x (JQ A)) C _ Od (λj y u D d=>?_),λj u d=>?_⟩
  ·rw[JX]at d
   have m:=aI D;rw[List.getElem?_range m]at d;obtain rfl:=JB d;exact r i j _ y s D
  ·rw[JX]at d
   have m:j<(p x).length:=by
    have:=aI (l:=((List.range (p x).length).map (f i))) (by rw[JX];exact d)
    simpa using this
   rw[List.getElem?_range m]at d;obtain rfl:=JB d;have:=e i j _ (p x)[j] s (List.getElem?_eq_getElem m);rw[show R.sz=E by omega];exact this
theorem Br2.gl{C:Mem}{l:List α}{v:Value}(h:SV R C l v):GL g l:=by
 obtain⟨a,c,_,⟨e,f⟩,_⟩:=h;refine⟨e,λx j=>?_⟩;obtain⟨i,d⟩:=JH j;have:=aI d;obtain⟨b,o,_,k⟩:=f.resolve_left Oo;obtain⟨n,m,_⟩:=k i x d;exact hb.good _ _ _ m
theorem Br2.sk:Br2 (gz R) (λl=>[.sl (l.map p)]) (GL g):=⟨λ_=>rfl,λx d C b f h=>by
 match b,f with
 |[v],_=>
  obtain⟨i,j,rfl,k,m⟩:=hb.sl d (h 0 _ v rfl rfl);exact⟨i,j,rfl,m,k⟩,λC b x ⟨a,c,e,n,o⟩=>hb.gl (v:=.slice a x.length c) ⟨a,c,rfl,o,n⟩⟩
end
theorem fM{C:Mem}{n:Int}{v:Value}(h:RV C (.int .i64 n) v):v= .int .i64 n:=by cases h;rfl
theorem br_nd:Br2 rNd ndP (λx=>I64 x.op/\I64 x.a/\I64 x.b):=⟨λ_=>rfl,λx d C e f h=>by
 match e,f with
 |[a,b,c],_=>exact⟨by rw[fM (h 0 _ a rfl rfl),fM (h 1 _ b rfl rfl),fM (h 2 _ c rfl rfl)],d⟩,λ_ _ _ h=>h.2⟩
theorem br_or:Br2 rOr orP (λx=>I64 x.low/\I64 x.add/\I64 x.high):=⟨λ_=>rfl,λx d C e f h=>by
 match e,f with
 |[a,b,c],_=>exact⟨by rw[fM (h 0 _ a rfl rfl),fM (h 1 _ b rfl rfl),fM (h 2 _ c rfl rfl)],d⟩,λ_ _ _ h=>h.2⟩
theorem br_pr:Br2 rPr prP (λx=>I64 x.1/\I64 x.2):=⟨λ_=>rfl,λx c C d e h=>by
 match d,e with
 |[a,b],_=>exact⟨by rw[fM (h 0 _ a rfl rfl),fM (h 1 _ b rfl rfl)],c⟩,λ_ _ _ h=>h.2⟩
abbrev jN(x:Nd):Prop:=I64 x.op/\I64 x.a/\I64 x.b
abbrev Cr(x:iv):Prop:=GL (GL jN) x.args/\GL (GL jN) x.out
theorem br_ct:Br2 rCt aZ Cr:=⟨λ_=>rfl,λx c C d e h=>by
 match d,e with
 |[a,b],_=>exact⟨a,b,rfl,br_nd.sk.sl c.1 (h 0 _ a rfl rfl),br_nd.sk.sl c.2 (h 1 _ b rfl rfl)⟩,λ_ _ _ ⟨_,_,_,f,i⟩=>⟨br_nd.sk.gl f,br_nd.sk.gl i⟩⟩
abbrev Cs(x:bX):Prop:=I64 x.kind/\GL jN x.sort/\GL (GL jN) x.params/\GL (GL jN) x.indices/\GL Cr x.ctors/\GL jN x.type/\GL jN x.body
theorem br_en:Br2 rEn aQ Cs:=⟨λ_=>rfl,λx ⟨i,j,k,l,m,n,o⟩ C q r h=>by
 match q,r with
 |[a,b,c,d,e,f,g],_=>
  exact⟨b,c,d,e,f,g,by rw[fM (h 0 _ a rfl rfl)],i,br_nd.sl j (h 1 _ b rfl rfl),br_nd.sk.sl k (h 2 _ c rfl rfl),br_nd.sk.sl l (h 3 _ d rfl rfl),br_ct.sl m (h 4 _ e rfl rfl),br_nd.sl n (h 5 _ f rfl rfl),br_nd.sl o (h 6 _ g rfl rfl)⟩,λ_ _ _ ⟨_,_,_,_,_,_,_,i,j,k,l,m,n,o⟩=>⟨i,br_nd.gl j,br_nd.sk.gl k,br_nd.sk.gl l,br_ct.gl m,br_nd.gl n,br_nd.gl o⟩⟩
theorem br_bd:Br2 rBd bdP (λx=>GL jN x.1/\GL jN x.2):=⟨λ_=>rfl,λx c C d e h=>by
 match d,e with
 |[a,b],_=>exact⟨a,b,rfl,br_nd.sl c.1 (h 0 _ a rfl rfl),br_nd.sl c.2 (h 1 _ b rfl rfl)⟩,λ_ _ _ ⟨_,_,_,f,i⟩=>⟨br_nd.gl f,br_nd.gl i⟩⟩
def BoI(B:aq):Prop:=GL (λx:aO=>I64 x.low/\I64 x.add/\I64 x.high) B.orders/\GL Cs B.ents/\GL (λx:Int×Int=>I64 x.1/\I64 x.2) B.prims
theorem BoV.boi{C:Mem}{B:aq}{v:Value}(h:BoV C B v):BoI B:=by
 obtain⟨_,_,_,_,a,b,c⟩:=h;exact⟨br_or.gl a,br_en.gl b,br_pr.gl c⟩
theorem Ct{n:Nd}(h:aw n=true):I64 n.op/\I64 n.a/\I64 n.b:=by
 have hb:=db h;have a:0<=n.op/\n.op<=13:=by
  simp only[aw]at h
  repeat' split at h
  all_goals first|omega|contradiction
 exact⟨⟨Oo,Oo⟩,⟨Oo,Oo⟩,⟨Oo,Oo⟩⟩
mutual
theorem xK':∀(x:Tr) (s:Md),Ok s x ->∀m∈row x,aw m=true
 | .mk n ks,s,h,m,hm=>by
  obtain⟨h1,h2,h3⟩:=h.kids;rcases List.mem_cons.1 (show m∈n::rows ks from hm)with rfl|hm
  ·cases s<;>simp only[cnt]at h1<;>split at h1<;>simp_all
  ·exact tf' ks n s 0 h2 h3 m hm
theorem tf':∀(ks:List Tr) (n:Nd) (s:Md) (j:Nat),okL cnt nx ks n s j ->eN' ks=true ->∀m∈rows ks,aw m=true
 |[],_,_,_,_,_,m,hm=>by simp[rows]at hm
 |x::r,n,s,j,h,hi,m,hm=>by
  have h1:=h.1;simp only[eN',Bool.and_eq_true]at hi;rcases List.mem_append.1 (show m∈row x++rows r from hm)with hm|hm
  ·exact xK' x _ ⟨h1,hi.1⟩ m hm
  ·exact tf' r n s _ h.2 hi.2 m hm
end
theorem HU{x:Tr}(a:Ok .tm x)(hl:(row x).length<=4096):GL jN (row x):=⟨Oo,λm b=>Ct (xK' x _ a m b)⟩
theorem HV{C:Mem}{ys:List Tr}{v:Value}(b:∀y∈ys,Ok .tm y/\(row y).length<=4096)(hl:ys.length<=1000000)(h:RV C (bw (ys.map row)) v):TmsV C ys v:=TmsV.sv.2 (br_nd.sk.sl ⟨by rw[List.length_map];omega,λl hl=>by
 obtain⟨y,a,rfl⟩:=List.mem_map.1 hl;exact HU (b y a).1 (b y a).2⟩ h)
theorem HW{C:Mem}{w w':World}(a:Sub C w)(k:Kp [] w w'):pK C w (Cn C w w') w':=⟨Cn.sub a k,λ_ _ _ h=>.inl h,λb o v h=>h.imp (λq=>⟨_,_,q⟩) λq=>q.1,k⟩
theorem HX{P:Program}{f:FuncId}{d:List PV}{r:PV}(a:dz P f)(h:∀(w:World) (C:Mem) (vs:List Value),Sub C w ->(∀b o v,C b o v ->b<w.heap.size) ->cP C d vs ->Calls P f vs.toArray w λe w'=>(∃v,e= .returned v/\RV (Cn C w w') r v)/\Kp [] w w'):VC P f d r:=.of ⟨a,λw C vs c i=>(h w C vs c (λb o v h=>(c b o v h).lt) i).mono λe w' ⟨⟨v,j,l⟩,k⟩=>⟨v,_,j,l,HW c k⟩⟩
theorem Cv{C:Mem}{p:PV}{vs:List Value}(h:cP C [p] vs):∃v,vs=[v]/\RV C p v:=by
 obtain⟨a,b⟩:=h
 match vs,a with
 |[v],_=>exact⟨v,rfl,b 0 _ v rfl rfl⟩
theorem xj{C:Mem}{p q:PV}{vs:List Value}(h:cP C [p,q] vs):∃v u,vs=[v,u]/\RV C p v/\RV C q u:=by
 obtain⟨b,a⟩:=h
 match vs,b with
 |[v,u],_=>exact⟨v,u,rfl,a 0 _ v rfl rfl,a 1 _ u rfl rfl⟩
theorem HY{C:Mem}{p q:PV}{v u:Value}(h1:RV C p v)(h2:RV C q u):RV C (.tup [p,q]) (.tuple #[v,u]):=.tup _ [v,u] rfl λi y z a b=>by
 match i,a,b with
 |0,a,b=>obtain rfl:=JB a;obtain rfl:=JB b;exact h1
 |1,a,b=>obtain rfl:=JB a;obtain rfl:=JB b;exact h2
mutual
def trP:Tr ->List PV
 | .mk n ks=>[.int .i64 n.op,.int .i64 n.a,.int .i64 n.b,.sl (if n.op=2 then []else if n.op=12 then trF ks else trL ks),.sl (if n.op=2 then ks.map λy=>ndP y.n else []),.sl (if n.op=12 then ks.map λy=>ndP y.n else [])]
def trL:List Tr ->List (List PV)
 |[]=>[]
 |x::r=>trP x::trL r
def trF:List Tr ->List (List PV)
 |[]=>[]
 | .mk _ ks::r=>trL ks++trF r
end
theorem th':∀l:List Tr,trL l=l.map trP
 |[]=>by simp[trL]
 |x::r=>by simp[trL,th' r]
theorem xM':∀l:List Tr,trF l=(l.flatMap (·.ks)).map trP
 |[]=>by simp[trF]
 | .mk n ks::r=>by simp[trF,xM' r,th',Tr.ks]
def atmsT(x:Tr):List Nd:=if x.n.op=2 then x.ks.map (·.n)else []
def funsT(x:Tr):List Nd:=if x.n.op=12 then x.ks.map (·.n)else []
def eJ(n:Nd)(K A F:List (List PV)):List PV:=[.int .i64 n.op,.int .i64 n.a,.int .i64 n.b,.sl K,.sl A,.sl F]
theorem jO(x:Tr):trP x=eJ x.n ((kidsT x).map trP) ((atmsT x).map ndP) ((funsT x).map ndP):=by
 obtain⟨n,c⟩:=x;simp only[trP,eJ,Tr.n,kidsT,atmsT,funsT,th',xM',Tr.ks]
 by_cases b:n.op=2
 ·simp[b]
 ·by_cases a:n.op=12
  ·simp[a]
  ·simp[b,a]
def dT(x:Tr):List PV:=eJ x.n ((kidsT x).map trP) ((atmsT x).map ndP) ((funsT x).map ndP)
def bB(x:Tr):PV:=.agg (dT x)
def mD(l:List Tr):PV:=.sl (l.map trP)
theorem iz(n lo hi:Int):VC prog 162 [.int .i64 n,.int .i64 lo,.int .i64 hi] (.bool (aE n lo hi)):=by
 refine qm 15 [.tmp 6] τok func162 rfl rfl rfl (Nat.le_of_ble_eq_true rfl) OO<|ae (λg=>?_) (λg=>?_)
 ·refine pG ?_
  exact⟨_,_,rfl,rfl,by rw[aE,decide_eq_true g];rfl⟩
 ·exact⟨_,_,rfl,rfl,by rw[aE,decide_eq_false g];rfl⟩
def bq(n:Nd):Int:=if n.op=4 \/n.op=5 \/n.op=6 then 2 else if n.op=7 then 3 else if n.op=11 then IntKind.i64.wrap (2+n.b)else if n.op=12 then IntKind.i64.wrap (2*n.b)else 0
def aD(n:Nd):Bool:=aw n && (decide (n.op≠3) && decide (n.op≠13))
theorem HZ(op a b:Int):VC prog 161 [.agg [.int .i64 op,.int .i64 a,.int .i64 b]] (.tup [.int .i64 (bq ⟨op,a,b⟩),.bool (aD ⟨op,a,b⟩)]):=by
 have f:∀{x y:Int} {p q:Bool},x=y ->p=q ->gz' [(PV.int .i64 x).nz,(PV.bool p).nz]= .tup [.int .i64 y,.bool q]:=λl m=>by rw[l,m];rfl
 have d:(decide (a=0)||decide (a=1))=aE a 0 1:=by rw[Bool.eq_iff_iff];simp[aE];omega
 refine sr 93 [.tmp 2,.tmp 3] τok func161 rfl rfl rfl (Nat.le_of_ble_eq_true rfl) OO<|GZ τok (σ:=Bool) (λz=>⟨[(1,.c (.ptr 1 0)),(4,.c (.p (.bool z)))],[(1,.st 0 42 [.p (.int .i64 op),.p (.int .i64 a),.p (.int .i64 b)])]⟩) (λz=>z=(decide (a=0) && decide (b=0))) ?_ ?_
 ·refine ae (λn=>?_) (λn=>?_)
  ·refine pG ?_
   exact⟨_,id,by rw[decide_eq_true n];rfl,gR ⟨rfl,rfl,trivial⟩ ⟨rfl,trivial⟩ rfl⟩
  ·exact⟨_,id,by rw[decide_eq_false n];rfl,gR ⟨rfl,rfl,trivial⟩ ⟨rfl,trivial⟩ rfl⟩
 rintro z A;refine aj τok<|ae (λl=>?_) (λl=>?_)
 ·subst l
  refine bH (iz _ _ _) (λq=>?_) (λq=>?_)
  ·exact pG (gQ OD ⟨_,_,rfl,rfl,f (by simp[bq, *]) (by first|(simp[aD,aw,d, *];done)|(simp[aD,aw, *];omega)|(simp_all [aD,aw];done)|(simp_all [aD,aw,aE];done)|(by_cases h:op=3<;>by_cases e:op=13<;>simp_all [aD,aw]))⟩)
  ·exact gQ OD ⟨_,_,rfl,rfl,f (by simp[bq, *]) (by first|(simp[aD,aw,d, *];done)|(simp[aD,aw, *];omega)|(simp_all [aD,aw];done)|(simp_all [aD,aw,aE];done)|(by_cases h:op=3<;>by_cases e:op=13<;>simp_all [aD,aw]))⟩
 ·refine ae (λm=>?_) (λm=>?_)
  ·subst m
   refine bH (iz _ _ _) (λq=>?_) (λq=>?_)
   ·exact af (iz _ _ _) ⟨_,_,rfl,rfl,f (by simp[bq, *]) (by first|(simp[aD,aw,d, *];done)|(simp[aD,aw, *];omega)|(simp_all [aD,aw];done)|(simp_all [aD,aw,aE];done)|(by_cases h:op=3<;>by_cases e:op=13<;>simp_all [aD,aw]))⟩
   ·exact⟨_,_,rfl,rfl,f (by simp[bq, *]) (by first|(simp[aD,aw,d, *];done)|(simp[aD,aw, *];omega)|(simp_all [aD,aw];done)|(simp_all [aD,aw,aE];done)|(by_cases h:op=3<;>by_cases e:op=13<;>simp_all [aD,aw]))⟩
  ·refine ae (λs=>?_) (λs=>?_)
   ·exact⟨_,_,rfl,rfl,f (by simp[bq, *]) (by first|(simp[aD,aw,d, *];done)|(simp[aD,aw, *];omega)|(simp_all [aD,aw];done)|(simp_all [aD,aw,aE];done)|(by_cases h:op=3<;>by_cases e:op=13<;>simp_all [aD,aw]))⟩
   ·refine ae (λt=>?_) (λt=>?_)
    ·exact⟨_,_,rfl,rfl,f (by simp[bq, *]) (by first|(simp[aD,aw,d, *];done)|(simp[aD,aw, *];omega)|(simp_all [aD,aw];done)|(simp_all [aD,aw,aE];done)|(by_cases h:op=3<;>by_cases e:op=13<;>simp_all [aD,aw]))⟩
    ·refine ae (λu=>?_) (λu=>?_)
     ·exact⟨_,_,rfl,rfl,f (by simp[bq, *]) (by first|(simp[aD,aw,d, *];done)|(simp[aD,aw, *];omega)|(simp_all [aD,aw];done)|(simp_all [aD,aw,aE];done)|(by_cases h:op=3<;>by_cases e:op=13<;>simp_all [aD,aw]))⟩
     ·refine ae (λv=>?_) (λv=>?_)
      ·exact⟨_,_,rfl,rfl,f (by simp[bq, *]) (by first|(simp[aD,aw,d, *];done)|(simp[aD,aw, *];omega)|(simp_all [aD,aw];done)|(simp_all [aD,aw,aE];done)|(by_cases h:op=3<;>by_cases e:op=13<;>simp_all [aD,aw]))⟩
      ·refine ae (λo=>?_) (λo=>?_)
       ·subst o
        refine bH (iz _ _ _) (λq=>?_) (λq=>?_)
        ·exact pG (gQ OD ⟨_,_,rfl,rfl,f (by simp[bq, *]) (by first|(simp[aD,aw,d, *];done)|(simp[aD,aw, *];omega)|(simp_all [aD,aw];done)|(simp_all [aD,aw,aE];done)|(by_cases h:op=3<;>by_cases e:op=13<;>simp_all [aD,aw]))⟩)
        ·exact gQ OD ⟨_,_,rfl,rfl,f (by simp[bq, *]) (by first|(simp[aD,aw,d, *];done)|(simp[aD,aw, *];omega)|(simp_all [aD,aw];done)|(simp_all [aD,aw,aE];done)|(by_cases h:op=3<;>by_cases e:op=13<;>simp_all [aD,aw]))⟩
       ·refine ae (λr=>?_) (λr=>?_)
        ·subst r
         refine bH (iz _ _ _) (λq=>?_) (λq=>?_)
         ·exact pG (gQ OD ⟨_,_,rfl,rfl,f (by simp[bq, *]) (by first|(simp[aD,aw,d, *];done)|(simp[aD,aw, *];omega)|(simp_all [aD,aw];done)|(simp_all [aD,aw,aE];done)|(by_cases h:op=3<;>by_cases e:op=13<;>simp_all [aD,aw]))⟩)
         ·exact gQ OD ⟨_,_,rfl,rfl,f (by simp[bq, *]) (by first|(simp[aD,aw,d, *];done)|(simp[aD,aw, *];omega)|(simp_all [aD,aw];done)|(simp_all [aD,aw,aE];done)|(by_cases h:op=3<;>by_cases e:op=13<;>simp_all [aD,aw]))⟩
        ·refine ae (λi=>?_) (λi=>?_)
         ·subst i
          refine bH (iz _ _ _) (λq=>?_) (λq=>?_)
          ·exact af (iz _ _ _) ⟨_,_,rfl,rfl,f (by simp[bq, *]) (by first|(simp[aD,aw,d, *];done)|(simp[aD,aw, *];omega)|(simp_all [aD,aw];done)|(simp_all [aD,aw,aE];done)|(by_cases h:op=3<;>by_cases e:op=13<;>simp_all [aD,aw]))⟩
          ·exact⟨_,_,rfl,rfl,f (by simp[bq, *]) (by first|(simp[aD,aw,d, *];done)|(simp[aD,aw, *];omega)|(simp_all [aD,aw];done)|(simp_all [aD,aw,aE];done)|(by_cases h:op=3<;>by_cases e:op=13<;>simp_all [aD,aw]))⟩
         ·refine ae (λj=>?_) (λj=>?_)
          ·subst j
           refine A5<|bH (iz _ _ _) (λq=>?_) (λq=>?_)
           ·exact af (iz _ _ _) (gQ OD ⟨_,_,rfl,rfl,f (by simp[bq, *]) (by first|(simp[aD,aw,d, *];done)|(simp[aD,aw, *];omega)|(simp_all [aD,aw];done)|(simp_all [aD,aw,aE];done)|(by_cases h:op=3<;>by_cases e:op=13<;>simp_all [aD,aw]))⟩)
           ·exact gQ OD ⟨_,_,rfl,rfl,f (by simp[bq, *]) (by first|(simp[aD,aw,d, *];done)|(simp[aD,aw, *];omega)|(simp_all [aD,aw];done)|(simp_all [aD,aw,aE];done)|(by_cases h:op=3<;>by_cases e:op=13<;>simp_all [aD,aw]))⟩
          ·refine ae (λk=>?_) (λk=>?_)
           ·subst k
            refine A5<|bH (iz _ _ _) (λq=>?_) (λq=>?_)
            ·have D:=dq.1 q
             exact fH Oo Oo (af (iz _ _ _) (gQ OD ⟨_,_,rfl,rfl,f (by simp[bq, *]) (by first|(simp[aD,aw,d, *];done)|(simp[aD,aw, *];omega)|(simp_all [aD,aw];done)|(simp_all [aD,aw,aE];done)|(by_cases h:op=3<;>by_cases e:op=13<;>simp_all [aD,aw]))⟩))
            ·exact gQ OD ⟨_,_,rfl,rfl,f (by simp[bq, *]) (by first|(simp[aD,aw,d, *];done)|(simp[aD,aw, *];omega)|(simp_all [aD,aw];done)|(simp_all [aD,aw,aE];done)|(by_cases h:op=3<;>by_cases e:op=13<;>simp_all [aD,aw]))⟩
           ·exact⟨_,_,rfl,rfl,f (by simp[bq, *]) (by first|(simp[aD,aw,d, *];done)|(simp[aD,aw, *];omega)|(simp_all [aD,aw];done)|(simp_all [aD,aw,aE];done)|(by_cases h:op=3<;>by_cases e:op=13<;>simp_all [aD,aw]))⟩
theorem xk(n:Nd):VC prog 161 [.agg (ndP n)] (.tup [.int .i64 (bq n),.bool (aD n)]):=HZ n.op n.a n.b
theorem oJ(op a b:Int)(k:Nat)(t:k<=1000000):VC prog 158 [.agg [.int .i64 op,.int .i64 a,.int .i64 b],.int .i64 k] (.int .i64 (kb ⟨op,a,b⟩ k)):=by
 refine qm 36 [.tmp 4] τok func158 rfl rfl rfl (Nat.le_of_ble_eq_true rfl) OO ?_;have fin:∀{x y:Int},x=y ->PV.int .i64 x=PV.int .i64 y:=λh=>by rw[h]
 have l:∀{r:Int},op=12 ->(k:Int)%2=1 ->kb ⟨op,a,b⟩ k=b:=λd f=>by
  have:k%2=1:=Oo
  simp[kb,d,this]
 have i:op=12 ->¬ (k:Int)%2=1 ->kb ⟨op,a,b⟩ k=0:=λd f=>by
  have:¬ k%2=1:=Oo
  simp[kb,d,this]
 have j:op≠12 ->¬ (((op=4 \/op=5)/\(k:Int)=1) \/(op=7/\(k:Int)=2)) ->kb ⟨op,a,b⟩ k=0:=λd f=>by simp only[kb,aY];rw[if_neg d,if_neg f]
 have m:(((op=4 \/op=5)/\(k:Int)=1) \/(op=7/\(k:Int)=2)) ->kb ⟨op,a,b⟩ k=1:=λf=>by
  have d:op≠12:=Oo
  simp only[kb,aY];rw[if_neg d,if_pos f]
 refine ae (λo=>?_) (λo=>?_)
 ·refine ae (λc=>?_) (λc=>?_)
  ·exact⟨_,_,rfl,rfl,fin (m Oo).symm⟩
  ·refine ot Oo (ot Oo ⟨_,_,rfl,rfl,fin (j Oo Oo).symm⟩)
 ·refine ae (λq=>?_) (λq=>?_)
  ·refine ae (λc=>?_) (λc=>?_)
   ·exact⟨_,_,rfl,rfl,fin (m Oo).symm⟩
   ·refine ot Oo (ot Oo ⟨_,_,rfl,rfl,fin (j Oo Oo).symm⟩)
  ·refine ae (λs=>?_) (λs=>?_)
   ·refine ae (λc=>?_) (λc=>?_)
    ·exact⟨_,_,rfl,rfl,fin (m Oo).symm⟩
    ·refine ot Oo ⟨_,_,rfl,rfl,fin (j Oo Oo).symm⟩
   ·refine ae (λe=>?_) (λe=>?_)
    ·refine ou Oo Oo Oo ?_
     refine ae (λn=>?_) (λn=>?_)
     ·exact⟨_,_,rfl,rfl,fin (l (r:=0) e n).symm⟩
     ·exact⟨_,_,rfl,rfl,fin (i e n).symm⟩
    ·exact⟨_,_,rfl,rfl,fin (j Oo Oo).symm⟩
theorem H0(n:Nd)(k:Nat)(a:k<=1000000):VC prog 158 [.agg (ndP n),.int .i64 k] (.int .i64 (kb n k)):=oJ n.op n.a n.b k a
end Go.Proofs.YtjnjbghlemiklaaGreat
